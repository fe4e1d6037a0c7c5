/- The runner, second part: tables, and operations that compute. -/
import Derived.Test.YthlckclbjknldaaAm30
namespace Go.Proofs.Ythlckclbjknldaa
set_option linter.unusedVariables false
set_option linter.unusedSimpArgs false
open Go.RowKit

/-! tables -/
def asc {α : Type} : List (Nat × α) → Nat → Option α
 | [], _ => none
 | (k, v) :: r, i => bif k.beq i then some v else asc r i
def AllP {α : Type} (p : Nat → α → Prop) : List (Nat × α) → Prop
 | [] => True
 | (k, v) :: r => p k v ∧ AllP p r
theorem asc_all {α : Type} {p : Nat → α → Prop} : ∀ {l : List (Nat × α)}, AllP p l → ∀ {i : Nat} {v : α}, asc l i = some v → p i v
 | [], _, _, _, h => by cases h
 | (k, u) :: r, ha, i, v, h => by
  simp only [asc, beqT] at h
  by_cases e : k = i
  ·subst e; simp at h; subst h; exact ha.1
  ·simp [e] at h; exact asc_all ha.2 h
/-! keys of maps: numbers, strings, structs of n numbers -/
inductive Ks where
 | ki
 | ks
 | kg (n : Nat)
def keyEqL : List Value → List Value → Option Bool
 | [], [] => some true
 | .int .i64 a :: r, .int .i64 b :: s => match keyEqL r s with
  | some t => some ((a == b) && t)
  | none => none
 | _, _ => none
def keyEq : Ks → Value → Value → Option Bool
 | .ki, .int .i64 a, .int .i64 b => some (a == b)
 | .ks, .string a, .string b => some (a == b)
 | .kg n, .agg ⟨xs⟩, .agg ⟨ys⟩ => match xs.length.beq n && ys.length.beq n with
  | true => keyEqL xs ys
  | false => none
 | _, _, _ => none
structure KeyOk (P : Program) (kt : TypeId) (s : Ks) : Prop where
 eq : ∃ kd, P.underlying kt = some kd ∧ ((∀ a b t, keyEq s a b = some t → Instr.sameNow kd a b = some t) ∨ (∀ a b t, keyEq s a b = some t → Instr.sameNow kd a b = none ∧ ∀ w, (Op.equal kt a b).run P w = .ok t w))
 ck : ∀ a t, keyEq s a a = some t → ∀ e w, (Instr.checkKey e 10000 kt a).run P w = .ok () w
/-- types; kinds of numbers; functions; structs of numbers only -/
structure Tb where
 ty : List (Nat × Ty)
 ik : List (Nat × IntKind)
 fn : List (Nat × Func)
 ae : List (Nat × Nat)
 orc : List (Nat × (List AV → Option AV))
 mp : List (Nat × (Ks × Value))
 bl : List (Nat × Bool)
structure TbOk (P : Program) (T : Tb) : Prop where
 ty : AllP (fun t y => tyOf P t = some y) T.ty
 ik : AllP (fun t k => P.underlying t = some (.int k)) T.ik
 fn : AllP (fun f x => P.funcs[f]? = some x ∧ callable P f = true) T.fn
 ae : AllP (fun t n => ∀ (x y : Operand) (us vs : List C) (a b : List Value), us.length = n → vs.length = n → ints us = some a → ints vs = some b → aggEq P .eql t x y a b (eqI us vs) ∧ aggEq P .neq t x y a b (!eqI us vs)) T.ae
 orc : AllP (fun f g => callable P f = true ∧ ∀ args r, g args = some r → args.map (AV.ren []) = args ∧ (∀ h, r.up h = r) ∧ FC P f args [] (fun x o => o = [] ∧ x = r)) T.orc
 mp : AllP (fun t s => ∃ kt e, P.underlying t = some (.map kt e) ∧ KeyOk P kt s.1 ∧ (P.info? e).bind (·.zero) = some s.2) T.mp
 bl : AllP (fun t _ => P.underlying t = some .bool) T.bl
 mx : P.follows .mixedOrders = true
section
variable {P : Program} {T : Tb}
theorem TbOk.t (h : TbOk P T) {t : Nat} {y : Ty} (e : asc T.ty t = some y) : tyOf P t = some y := asc_all h.ty e
theorem TbOk.k (h : TbOk P T) {t : Nat} {y : IntKind} (e : asc T.ik t = some y) : P.underlying t = some (.int y) := asc_all h.ik e
end

/-! operations that compute -/
def in64B (n : Int) : Bool := decide (-9223372036854775808 ≤ n) && decide (n < 9223372036854775808)
def binB (op : BinOp) (a b : Value) : Option Value :=
 match a, b with
 | .int .i64 a, .int .i64 b => match op with
  | .add => bif in64B (a + b) then some (.int .i64 (a + b)) else none
  | .sub => bif in64B (a - b) then some (.int .i64 (a - b)) else none
  | .mul => bif in64B (a * b) then some (.int .i64 (a * b)) else none
  | .quo => bif decide (0 ≤ a) && (decide (0 < b) && decide (a < 9223372036854775808)) then some (.int .i64 (a / b)) else none
  | .rem => bif decide (0 < b) then some (.int .i64 (a.tmod b)) else none
  | .shr => bif decide (0 ≤ b) && decide (b ≤ 64) then some (.int .i64 (a.fdiv (2 ^ b.toNat))) else none
  | .shl => bif decide (0 ≤ b) && (decide (b ≤ 64) && in64B (a * 2 ^ b.toNat)) then some (.int .i64 (a * 2 ^ b.toNat)) else none
  | op => (icmp op a b).map .bool
 | .int .i64 a, .int .u64 b => match op with
  | .shr => bif decide (0 ≤ b) && decide (b ≤ 64) then some (.int .i64 (a.fdiv (2 ^ b.toNat))) else none
  | .shl => bif decide (0 ≤ b) && (decide (b ≤ 64) && in64B (a * 2 ^ b.toNat)) then some (.int .i64 (a * 2 ^ b.toNat)) else none
  | _ => none
 | .int .u64 a, .int .u64 b => match op with
  | .shr => bif decide (0 ≤ b) && (decide (b ≤ 64) && decide (0 ≤ a)) then some (.int .u64 (a / 2 ^ b.toNat)) else none
  | op => (icmp op a b).map .bool
 | .int k a, .int k' b => bif decide (k = k') then (icmp op a b).map .bool else none
 | _, _ => none
theorem condS {b : Bool} {α : Type} {x y : α} (h : (bif b then some x else none) = some y) : b = true ∧ x = y := by
 cases b with
 | false => cases h
 | true => cases h; exact ⟨rfl, rfl⟩
def rBin (T : Tb) (ev : Operand → AV) (op : BinOp) (t : TypeId) (x y : Operand) : Option AV :=
 match ev x, ev y with
 | .a (.c (.v a)), .a (.c (.v b)) => (binB op a b).map fun v => .a (.c (.v v))
 | .a (.g xs), .a (.g ys) => match ints xs, ints ys, asc T.ae t with
  | some _, some _, some n => bif xs.length.beq n && ys.length.beq n then (match op with
   | .eql => some (.b (eqI xs ys))
   | .neq => some (.b (!eqI xs ys))
   | _ => none) else none
  | _, _, _ => none
 | _, _ => none
def rUn (ev : Operand → AV) (op : UnOp) (x : Operand) : Option AV :=
 match ev x with
 | .a (.c (.v (.bool b))) => match op with
  | .not => some (.b (!b))
  | _ => none
 | .a (.c (.v (.int .i64 n))) => match op with
  | .neg => bif in64B (-n) then some (.i (-n)) else none
  | _ => none
 | _ => none
def rConv (T : Tb) (ev : Operand → AV) (s d : TypeId) (x : Operand) : Option AV :=
 match ev x, asc T.ik s, asc T.ik d with
 | .a (.c (.v (.int _ n))), some _, some k => some (.a (.c (.v (.int k (k.wrap n)))))
 | _, _, _ => none
def rField (T : Tb) (ev : Operand → AV) (t : TypeId) (x : Operand) (f : Nat) : Option AV :=
 match ev x, asc T.ty t with
 | .a (.g xs), some y => match y.kind, y.flds[f]? with
  | 2, some (off, sz, ag) => bif Nat.ble (off + sz) xs.length && Nat.blt 0 sz then some (.a (partC xs off sz ag)) else none
  | _, _ => none
 | _, _ => none
def rFieldAddr (T : Tb) (ev : Operand → AV) (t : TypeId) (x : Operand) (f : Nat) : Option AV :=
 match ev x, asc T.ty t with
 | .a (.c (.p id off)), some y => match y.kind, y.flds[f]? with
  | 2, some (o, sz, _) => bif Nat.blt 0 sz then some (.a (.c (.p id (off + o)))) else none
  | _, _ => none
 | _, _ => none
def rEl (T : Tb) (t : TypeId) : Option Nat :=
 match asc T.ty t with
 | some y => match y.kind, asc T.ty y.elem with
  | 1, some z => some z.size
  | _, _ => none
 | none => none
def rIndex (T : Tb) (ev : Operand → AV) (t : TypeId) (x ix : Operand) : Option AV :=
 match rEl T t, ev x, ev ix with
 | some z, .a (.c (.s id n)), .a (.c (.v (.int _ i))) => bif decide (0 ≤ i) && decide (i < n) then some (.a (.c (.p id (i.toNat * z)))) else none
 | some z, .a (.c (.w id off n k)), .a (.c (.v (.int _ i))) => bif decide (0 ≤ i) && (decide (i < n) && z.beq k) then some (.a (.c (.p id ((off + i.toNat) * z)))) else none
 | _, _, _ => none
def rBuild (T : Tb) (ev : Operand → AV) (t : TypeId) (parts : Array (Nat × Operand)) : Option AV :=
 match asc T.ty t with
 | some y => match y.kind, fillA (fun i => (y.flds[i]?).map fun f => (f.1, f.2.1)) (AV.zeroOf y) (parts.toList.map fun p => (p.1, ev p.2)) with
  | 2, some cs => some (.a (.g cs))
  | _, _ => none
 | none => none
def rSlice (T : Tb) (ev : Operand → AV) (t : TypeId) (x : Operand) (lo hi mx : Option Operand) : Option AV :=
 match mx, rEl T t, ev x, lo.map ev, hi.map ev with
 | none, some _, .a (.c (.s id n)), none, some (.a (.c (.v (.int _ h)))) => bif decide (0 ≤ h) && decide (h ≤ n) then some (.a (.c (.s id h.toNat))) else none
 | none, some z, .a (.c (.s id n)), some (.a (.c (.v (.int _ l)))), none => bif decide (0 ≤ l) && Nat.blt l.toNat n then some (.a (.c (.w id l.toNat (n - l.toNat) z))) else none
 | _, _, _, _, _ => none
def rLen (T : Tb) (ev : Operand → AV) (t : TypeId) (x : Operand) : Option AV :=
 match asc T.ty t with
 | some y => match y.kind, ev x with
  | 1, .a (.c (.s _ n)) => some (.i n)
  | 1, .a (.c (.w _ _ n _)) => some (.i n)
  | 1, .a (.c (.t k cs)) => bif Nat.blt 0 k then some (.i (cs.length / k : Nat)) else none
  | 1, .a (.c (.v (.slice _ n _))) => some (.i n)
  | 4, .a (.c (.v (.string s))) => some (.i s.size)
  | _, _ => none
 | none => none
def rCallD (T : Tb) (ev : Operand → AV) (c : Call) : Option AV :=
 match c.callee, c.args.toList, c.argTypes.toList with
 | .builtin .len, [x], [t] => rLen T ev t x
 | .builtin .min, [x, y], _ => (dMin ev false x y).map (·.2)
 | .builtin .max, [x, y], _ => (dMin ev true x y).map (·.2)
 | _, _, _ => none
def rD (T : Tb) (op : Op) (ev : Operand → AV) : Option AV :=
 match op with
 | .move x => some (ev x)
 | .assign x => some (ev x)
 | .pick c a b => (dPick ev c a b).map (·.2)
 | .nilCheck x => (dNil ev x).map (·.2)
 | .binOp op t x y _ => rBin T ev op t x y
 | .unOp op _ x => rUn ev op x
 | .convert s d x => rConv T ev s d x
 | .field t x f => rField T ev t x f
 | .fieldAddr t x f => rFieldAddr T ev t x f
 | .indexAddr t x ix => rIndex T ev t x ix
 | .extract x i => (dExt ev x i).map (·.2)
 | .makeFunc fn first captured => (dFunc ev fn first captured).map (·.2)
 | .build t parts => rBuild T ev t parts
 | .slice t x lo hi mx => rSlice T ev t x lo hi mx
 | .call c => rCallD T ev c
 | _ => none
section
variable {P : Program} {T : Tb} {ev : Operand → AV} {v : AV}
end
end Go.Proofs.Ythlckclbjknldaa
