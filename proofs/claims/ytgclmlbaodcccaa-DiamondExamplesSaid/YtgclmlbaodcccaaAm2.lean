/- The abstract machine: operations that only compute. -/
import Derived.Test.YtgclmlbaodcccaaAm1
namespace Go.Proofs.Ytgclmlbaodcccaa
set_option linter.unusedVariables false
set_option linter.unusedSimpArgs false
open Go.RowKit

/-! what the machine must know of a type -/
structure Ty where
  size : Nat
  bytes : Nat
  agg : Bool
  zero : List Value
  kind : Nat
  elem : TypeId
  flds : List (Nat × Nat × Bool)
def aggD : TypeDesc → Bool
  | .struct _ | .array _ _ => true
  | _ => false
def fldsD (P : Program) : TypeDesc → List (Nat × Nat × Bool)
  | .struct fs => fs.toList.map fun f => (f.offset, ((P.info? f.type).map (·.size)).getD 0, ((P.underlying f.type).map aggD).getD false)
  | _ => []
def kindD : TypeDesc → Nat × TypeId
  | .slice e => (1, e)
  | .struct _ => (2, 0)
  | .map _ e => (3, e)
  | .string => (4, 0)
  | .int _ => (5, 0)
  | _ => (0, 0)
def fldOk (P : Program) (f : Field) : Bool := (P.info? f.type).isSome && (P.underlying f.type).isSome
def dOk (P : Program) : TypeDesc → Bool
  | .struct fs => fs.toList.all (fldOk P)
  | _ => true
def tyOf (P : Program) (t : TypeId) : Option Ty :=
  match P.info? t, P.underlying t with
  | some i, some u => match i.zero with
    | some z => if dOk P u then some ⟨i.size, i.bytes, aggD u, z.cells.toList, (kindD u).1, (kindD u).2, fldsD P u⟩ else none
    | none => none
  | _, _ => none
section
variable {P : Program} {t : TypeId} {y : Ty}
theorem tyOf_ex (h : tyOf P t = some y) : ∃ i u z, P.info? t = some i ∧ P.underlying t = some u ∧ i.zero = some z ∧ dOk P u = true ∧ y = ⟨i.size, i.bytes, aggD u, z.cells.toList, (kindD u).1, (kindD u).2, fldsD P u⟩ := by
  unfold tyOf at h
  split at h
  · rename_i i u hi hu
    split at h
    · rename_i z hz
      split at h
      · rename_i hd
        exact ⟨i, u, z, hi, hu, hz, hd, (Option.some.inj h).symm⟩
      · cases h
    · cases h
  · cases h
theorem run_typeInfo {i : TypeInfo} (h : P.info? t = some i) (w : World) : (typeInfo t).run P w = .ok i w := by simp [typeInfo, h]
theorem tyOf.size (h : tyOf P t = some y) (w : World) : (sizeOf t).run P w = .ok y.size w := by
  obtain ⟨i, u, z, hi, hu, hz, hd, rfl⟩ := tyOf_ex h
  simp [sizeOf, run_typeInfo hi]
theorem tyOf.agg (h : tyOf P t = some y) (w : World) : (isAgg t).run P w = .ok y.agg w := by
  obtain ⟨i, u, z, hi, hu, hz, hd, rfl⟩ := tyOf_ex h
  simp only [isAgg, Sem.run_bind, run_underlying hu, Result.andThen_ok]
  cases u <;> simp [aggD]
theorem tyOf.slice (h : tyOf P t = some y) (hk : y.kind = 1) : P.underlying t = some (.slice y.elem) := by
  obtain ⟨i, u, z, hi, hu, hz, hd, rfl⟩ := tyOf_ex h
  cases u <;> simp [kindD] at hk ⊢
  exact hu
theorem tyOf.struct (h : tyOf P t = some y) (hk : y.kind = 2) : ∃ fs, P.underlying t = some (.struct fs) ∧ fs.toList.all (fldOk P) = true ∧ y.flds = fldsD P (.struct fs) := by
  obtain ⟨i, u, z, hi, hu, hz, hd, rfl⟩ := tyOf_ex h
  cases u <;> simp [kindD] at hk
  rename_i fs
  exact ⟨fs, hu, hd, rfl⟩
theorem tyOf.zero (h : tyOf P t = some y) (w : World) : ∃ z, (zeroValue t).run P w = .ok z w ∧ z.cells.toList = y.zero := by
  obtain ⟨i, u, z, hi, hu, hz, hd, rfl⟩ := tyOf_ex h
  exact ⟨z, by simp [zeroValue, run_typeInfo hi, hz], rfl⟩
theorem tyOf.info (h : tyOf P t = some y) : ∃ i z, P.info? t = some i ∧ i.zero = some z ∧ i.size = y.size ∧ i.bytes = y.bytes ∧ z.cells.toList = y.zero := by
  obtain ⟨i, u, z, hi, hu, hz, hd, rfl⟩ := tyOf_ex h
  exact ⟨i, z, hi, hz, rfl, rfl, rfl⟩
/-- a field -/
theorem fld_ex {fs : Array Field} (hf : fs.toList.all (fldOk P) = true) {n off sz : Nat} {ag : Bool} (h : (fldsD P (.struct fs))[n]? = some (off, sz, ag)) :
    ∃ f, fs[n]? = some f ∧ f.offset = off ∧ (∀ w, (sizeOf f.type).run P w = .ok sz w) ∧ (∀ w, (isAgg f.type).run P w = .ok ag w) := by
  simp only [fldsD, List.getElem?_map] at h
  cases hn : fs.toList[n]? with
  | none => rw [hn] at h; cases h
  | some f =>
    rw [hn] at h
    simp only [Option.map_some, Option.some.injEq, Prod.mk.injEq] at h
    obtain ⟨h1, h2, h3⟩ := h
    have hok := List.all_eq_true.1 hf f (List.mem_of_getElem? hn)
    simp only [fldOk, Bool.and_eq_true, Option.isSome_iff_exists] at hok
    obtain ⟨⟨i, hi⟩, u, hu⟩ := hok
    refine ⟨f, by simpa using hn, h1, fun w => ?_, fun w => ?_⟩
    · rw [hi] at h2; simp at h2; simp [sizeOf, run_typeInfo hi, h2]
    · rw [hu] at h3; simp at h3
      simp only [isAgg, Sem.run_bind, run_underlying hu, Result.andThen_ok]
      rw [← h3]
      cases u <;> simp [aggD]
end

/-! operations that only compute -/
def in64 (n : Int) : Prop := -9223372036854775808 ≤ n ∧ n < 9223372036854775808
def AV.i (n : Int) : AV := .a (.c (.v (.int .i64 n)))
def AV.b (t : Bool) : AV := .a (.c (.v (.bool t)))
def C.one : C → Bool
  | .u => false
  | .v (.agg _) => false
  | .v (.tuple _) => false
  | .o _ _ => false
  | .b _ _ _ => false
  | _ => true
def arith : BinOp → Int → Int → Option (Prop × Int)
  | .add, a, b => some (in64 (a + b), a + b)
  | .sub, a, b => some (in64 (a - b), a - b)
  | .mul, a, b => some (in64 (a * b), a * b)
  | .quo, a, b => some (0 ≤ a ∧ 0 < b ∧ a < 9223372036854775808, a / b)
  | .rem, a, b => some (0 < b, a.tmod b)
  | _, _, _ => none
def icmp : BinOp → Int → Int → Option Bool
  | .eql, a, b => some (a == b)
  | .neq, a, b => some (a != b)
  | .lss, a, b => some (decide (a < b))
  | .leq, a, b => some (decide (a ≤ b))
  | .gtr, a, b => some (decide (a > b))
  | .geq, a, b => some (decide (a ≥ b))
  | _, _, _ => none
def binA (op : BinOp) : Value → Value → Option (Prop × Value)
  | .int .i64 a, .int .i64 b => match arith op a b with
    | some (c, n) => some (c, .int .i64 n)
    | none => match icmp op a b with
      | some t => some (True, .bool t)
      | none => match op with
        | .shr => some (0 ≤ b ∧ b ≤ 64, .int .i64 (a.fdiv (2 ^ b.toNat)))
        | .shl => some (0 ≤ b ∧ b ≤ 64 ∧ in64 (a * 2 ^ b.toNat), .int .i64 (a * 2 ^ b.toNat))
        | _ => none
  | .int .i64 a, .int .u64 b => match op with
    | .shr => some (0 ≤ b ∧ b ≤ 64, .int .i64 (a.fdiv (2 ^ b.toNat)))
    | .shl => some (0 ≤ b ∧ b ≤ 64 ∧ in64 (a * 2 ^ b.toNat), .int .i64 (a * 2 ^ b.toNat))
    | _ => none
  | .int .u64 a, .int .u64 b => match op with
    | .shr => some (0 ≤ b ∧ b ≤ 64 ∧ 0 ≤ a, .int .u64 (a / 2 ^ b.toNat))
    | op => match icmp op a b with
      | some t => some (True, .bool t)
      | none => none
  | .int k a, .int k' b => match icmp op a b with
    | some t => some (k = k', .bool t)
    | none => none
  | _, _ => none
def unA : UnOp → Value → Option (Prop × Value)
  | .not, .bool b => some (True, .bool (!b))
  | .neg, .int .i64 n => some (in64 (-n), .int .i64 (-n))
  | _, _ => none
def ints : List C → Option (List Value)
  | [] => some []
  | .v (.int .i64 n) :: r => (ints r).map (Value.int .i64 n :: ·)
  | _ => none
def eqI : List C → List C → Bool
  | .v (.int _ a) :: r, .v (.int _ b) :: s => a == b && eqI r s
  | _, _ => true
def partC (xs : List C) (off sz : Nat) (ag : Bool) : A0 := if ag then .g ((xs.drop off).take sz) else .c (xs.getD off .u)
def A0.cells : A0 → List C
  | .c x => [x]
  | .g xs => xs
def A0.ones : A0 → Bool
  | .c x => x.one
  | .g _ => true
def AV.zeroOf (y : Ty) : List C := y.zero.map .v
def setC (cs : List C) (off : Nat) : List C → List C
  | [] => cs
  | x :: r => setC (cs.set off x) (off + 1) r
def fillA (place : Nat → Option (Nat × Nat)) (cells : List C) : List (Nat × AV) → Option (List C)
  | [] => some cells
  | (i, .a x) :: rest => match place i with
    | some (off, size) => if x.ones && x.cells.length == size && decide (off + size ≤ cells.length) then fillA place (setC cells off x.cells) rest else none
    | none => none
  | _ :: _ => none
def objs : List AV → Option (List Nat)
  | [] => some []
  | .a (.c (.p id 0)) :: r => (objs r).map (id :: ·)
  | _ => none
def dPick (ev : Operand → AV) (c a b : Operand) : Option (Prop × AV) :=
  match ev c with
  | .a (.c (.v (.bool t))) => some (True, if t then ev a else ev b)
  | _ => none
def dNil (ev : Operand → AV) (x : Operand) : Option (Prop × AV) :=
  match ev x with
  | .a (.c (.p id off)) => some (True, .a (.c (.p id off)))
  | .a (.c (.q cs off)) => some (True, .a (.c (.q cs off)))
  | .a (.c (.f fn ids)) => some (True, .a (.c (.f fn ids)))
  | _ => none
def aggEq (P : Program) (op : BinOp) (t : TypeId) (x y : Operand) (us vs : List Value) (r : Bool) : Prop :=
  ∀ w, (do eqGuard op t x y (.agg us.toArray) (.agg vs.toArray); binOp op t (.agg us.toArray) (.agg vs.toArray) : Sem Value).run P w = .ok (.bool r) w
def dBin (P : Program) (ev : Operand → AV) (op : BinOp) (t : TypeId) (x y : Operand) : Option (Prop × AV) :=
  match ev x, ev y with
  | .a (.c (.v a)), .a (.c (.v b)) => match binA op a b with
    | some (c, v) => some (c, .a (.c (.v v)))
    | none => none
  | .a (.g xs), .a (.g ys) => match ints xs, ints ys with
    | some us, some vs => match op with
      | .eql => some (aggEq P .eql t x y us vs (eqI xs ys), .b (eqI xs ys))
      | .neq => some (aggEq P .neq t x y us vs (!eqI xs ys), .b (!eqI xs ys))
      | _ => none
    | _, _ => none
  | _, _ => none
def dUn (ev : Operand → AV) (op : UnOp) (x : Operand) : Option (Prop × AV) :=
  match ev x with
  | .a (.c (.v a)) => match unA op a with
    | some (c, v) => some (c, .a (.c (.v v)))
    | none => none
  | _ => none
def dConv (P : Program) (ev : Operand → AV) (s d : TypeId) (x : Operand) : Option (Prop × AV) :=
  match ev x, P.underlying s, P.underlying d with
  | .a (.c (.v (.int _ n))), some _, some (.int k) => some (True, .a (.c (.v (.int k (k.wrap n)))))
  | _, _, _ => none
def dField (P : Program) (ev : Operand → AV) (t : TypeId) (x : Operand) (f : Nat) : Option (Prop × AV) :=
  match ev x, tyOf P t with
  | .a (.g xs), some y => match y.kind, y.flds[f]? with
    | 2, some (off, sz, ag) => some (off + sz ≤ xs.length ∧ 0 < sz, .a (partC xs off sz ag))
    | _, _ => none
  | _, _ => none
def dFieldAddr (P : Program) (ev : Operand → AV) (t : TypeId) (x : Operand) (f : Nat) : Option (Prop × AV) :=
  match ev x, tyOf P t with
  | .a (.c (.p id off)), some y => match y.kind, y.flds[f]? with
    | 2, some (o, sz, _) => some (0 < sz, .a (.c (.p id (off + o))))
    | _, _ => none
  | .a (.c (.q cs off)), some y => match y.kind, y.flds[f]? with
    | 2, some (o, sz, _) => some (0 < sz, .a (.c (.q cs (off + o))))
    | _, _ => none
  | _, _ => none
/-- the size of a slice's elements -/
def elSize (P : Program) (t : TypeId) : Option Nat :=
  match tyOf P t with
  | some y => match y.kind, tyOf P y.elem with
    | 1, some z => some z.size
    | _, _ => none
  | none => none
def dIndex (P : Program) (ev : Operand → AV) (t : TypeId) (x ix : Operand) : Option (Prop × AV) :=
  match elSize P t, ev x, ev ix with
  | some z, .a (.c (.s id n)), .a (.c (.v (.int _ i))) => some (0 ≤ i ∧ i < n, .a (.c (.p id (i.toNat * z))))
  | some z, .a (.c (.w id off n k)), .a (.c (.v (.int _ i))) => some (0 ≤ i ∧ i < n ∧ z = k, .a (.c (.p id ((off + i.toNat) * z))))
  | some z, .a (.c (.t k cs)), .a (.c (.v (.int _ i))) => some (0 ≤ i ∧ i.toNat * k < cs.length ∧ z = k, .a (.c (.q cs (i.toNat * k))))
  | _, _, _ => none
def dExt (ev : Operand → AV) (x : Operand) (i : Nat) : Option (Prop × AV) :=
  match ev x with
  | .tup xs => match xs[i]? with
    | some x => some (True, .a x)
    | none => none
  | _ => none
def dFunc (ev : Operand → AV) (fn : Fn) (first captured : Array Operand) : Option (Prop × AV) :=
  match fn, first.toList, objs (captured.toList.map ev) with
  | .func f, [], some ids => some (True, .a (.c (.f f ids)))
  | _, _, _ => none
def dBuild (P : Program) (ev : Operand → AV) (t : TypeId) (parts : Array (Nat × Operand)) : Option (Prop × AV) :=
  match tyOf P t with
  | some y => match y.kind, fillA (fun i => (y.flds[i]?).map fun f => (f.1, f.2.1)) (AV.zeroOf y) (parts.toList.map fun p => (p.1, ev p.2)) with
    | 2, some cs => some (True, .a (.g cs))
    | _, _ => none
  | none => none
def dSlice (P : Program) (ev : Operand → AV) (t : TypeId) (x : Operand) (lo hi mx : Option Operand) : Option (Prop × AV) :=
  match mx, elSize P t, ev x, lo.map ev, hi.map ev with
  | none, some _, .a (.c (.s id n)), none, some (.a (.c (.v (.int _ h)))) => some (0 ≤ h ∧ h ≤ n, .a (.c (.s id h.toNat)))
  | none, some z, .a (.c (.s id n)), some (.a (.c (.v (.int _ l)))), none => some (0 ≤ l ∧ l.toNat < n, .a (.c (.w id l.toNat (n - l.toNat) z)))
  | none, some z, .a (.c (.t k cs)), none, some (.a (.c (.v (.int _ h)))) => some (0 ≤ h ∧ h.toNat * k ≤ cs.length ∧ z = k ∧ 0 < k, .a (.c (.t k (cs.take (h.toNat * k)))))
  | none, some z, .a (.c (.t k cs)), some (.a (.c (.v (.int _ l)))), none => some (0 ≤ l ∧ l.toNat * k ≤ cs.length ∧ z = k ∧ 0 < k, .a (.c (.t k (cs.drop (l.toNat * k)))))
  | _, _, _, _, _ => none
def dLen (P : Program) (ev : Operand → AV) (t : TypeId) (x : Operand) : Option (Prop × AV) :=
  match tyOf P t with
  | some y => match y.kind, ev x with
    | 1, .a (.c (.s _ n)) => some (True, .i n)
    | 1, .a (.c (.w _ _ n _)) => some (True, .i n)
    | 1, .a (.c (.t k cs)) => some (0 < k, .i (cs.length / k : Nat))
    | 1, .a (.c (.v (.slice _ n _))) => some (True, .i n)
    | 4, .a (.c (.v (.string s))) => some (True, .i s.size)
    | _, _ => none
  | none => none
def dMin (ev : Operand → AV) (mx : Bool) (x y : Operand) : Option (Prop × AV) :=
  match ev x, ev y with
  | .a (.c (.v (.int .i64 a))), .a (.c (.v (.int .i64 b))) => some (True, .i (if mx then (if b > a then b else a) else (if b < a then b else a)))
  | _, _ => none
def dCall (P : Program) (ev : Operand → AV) (c : Call) : Option (Prop × AV) :=
  match c.callee, c.args.toList, c.argTypes.toList with
  | .builtin .len, [x], [t] => dLen P ev t x
  | .builtin .min, [x, y], _ => dMin ev false x y
  | .builtin .max, [x, y], _ => dMin ev true x y
  | _, _, _ => none
def dOp (P : Program) (op : Op) (ev : Operand → AV) : Option (Prop × AV) :=
  match op with
  | .move x => some (True, ev x)
  | .assign x => some (True, ev x)
  | .pick c a b => dPick ev c a b
  | .nilCheck x => dNil ev x
  | .binOp op t x y _ => dBin P ev op t x y
  | .unOp op _ x => dUn ev op x
  | .convert s d x => dConv P ev s d x
  | .field t x f => dField P ev t x f
  | .fieldAddr t x f => dFieldAddr P ev t x f
  | .indexAddr t x ix => dIndex P ev t x ix
  | .extract x i => dExt ev x i
  | .makeFunc fn first captured => dFunc ev fn first captured
  | .build t parts => dBuild P ev t parts
  | .slice t x lo hi mx => dSlice P ev t x lo hi mx
  | .call c => dCall P ev c
  | _ => none
end Go.Proofs.Ytgclmlbaodcccaa
