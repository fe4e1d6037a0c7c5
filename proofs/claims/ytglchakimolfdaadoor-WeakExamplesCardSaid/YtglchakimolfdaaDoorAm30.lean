/- The runner, first part: trees of slots, answers, forced values. The runner, second part: tables, and operations that compute. The runner, third part: new rows of nil slices, appends of nothing, calls that may touch all objects. -/
import Derived.Test.YtglchakimolfdaaDoorME
namespace Go.Proofs.YtglchakimolfdaaDoor
set_option linter.unusedVariables false
set_option linter.unusedSimpArgs false
open Go.RowKit

/-! trees: slot 0 at the root, odd ones left, even ones right -/
inductive Bt (α : Type) where
 | e
 | n (x : Option α) (l r : Bt α)
/-! the runner's states -/
structure RS where
 tm : Bt AV
 hp : Bt Ob
 hn : Nat
 n : Nat
 pin : Nat
/-! answers -/
inductive Ans where
 | ok
 | bad (l : List Nat)
 | st (rs : RS)
def Ans.and : Ans → (Unit → Ans) → Ans
 | .ok, k => k ()
 | .bad l, _ => .bad l
 | .st _, _ => .bad [5]
theorem Ans.and_ok {x : Ans} {k : Unit → Ans} (h : x.and k = .ok) : x = .ok ∧ k () = .ok := by
 cases x with
 | ok => exact ⟨rfl, h⟩
 | bad l => cases h
 | st rs => cases h

def Bt.get {α : Type} : Bt α → Nat → Option α
 | .e, _ => none
 | .n x l r, i => bif i.beq 0 then x else bif (i % 2).beq 1 then l.get (i / 2) else r.get (i / 2 - 1)
def Bt.set {α : Type} : Nat → Bt α → Nat → α → (Bt α → Ans) → Ans
 | 0, _, _, _, _ => .bad [1]
 | f + 1, .e, i, x, k => bif i.beq 0 then k (.n (some x) .e .e) else bif (i % 2).beq 1 then Bt.set f .e (i / 2) x (fun l => k (.n none l .e)) else Bt.set f .e (i / 2 - 1) x (fun r => k (.n none .e r))
 | f + 1, .n y l r, i, x, k => bif i.beq 0 then k (.n (some x) l r) else bif (i % 2).beq 1 then Bt.set f l (i / 2) x (fun l => k (.n y l r)) else Bt.set f r (i / 2 - 1) x (fun r => k (.n y l r))
theorem beqT (a b : Nat) : a.beq b = decide (a = b) := by
 rw [Bool.eq_iff_iff, decide_eq_true_iff]
 exact Iff.of_eq Nat.beq_eq
theorem bltT (a b : Nat) : a.blt b = decide (a < b) := by
 rw [Bool.eq_iff_iff, decide_eq_true_iff]
 exact Iff.of_eq Nat.blt_eq
theorem Bt.get_n {α : Type} (x : Option α) (l r : Bt α) (i : Nat) : (Bt.n x l r).get i = if i = 0 then x else if i % 2 = 1 then l.get (i / 2) else r.get (i / 2 - 1) := by
 rw [Bt.get]
 simp only [beqT]
 by_cases h0 : i = 0
 ·simp [h0]
 ·by_cases h1 : i % 2 = 1 <;> simp [h0, h1]
theorem Bt.get_e {α : Type} (i : Nat) : (Bt.e : Bt α).get i = none := rfl
theorem Bt.set_ok {α : Type} : ∀ (f : Nat) (t : Bt α) (i : Nat) (x : α) (k : Bt α → Ans), Bt.set f t i x k = .ok → ∃ t', k t' = .ok ∧ ∀ j, t'.get j = if j = i then some x else t.get j
 | 0, _, _, _, _, h => by cases h
 | f + 1, t, i, x, k, h => by
  have key : ∀ (y : Option α) (l r : Bt α), (∀ j, t.get j = (Bt.n y l r).get j) → (bif i.beq 0 then k (.n (some x) l r) else bif (i % 2).beq 1 then Bt.set f l (i / 2) x (fun l => k (.n y l r)) else Bt.set f r (i / 2 - 1) x (fun r => k (.n y l r))) = .ok → ∃ t', k t' = .ok ∧ ∀ j, t'.get j = if j = i then some x else t.get j := by
   intro y l r ht h
   by_cases h0 : i = 0
   ·have : i.beq 0 = true := by simpa [beqT] using h0
    rw [this] at h
    refine ⟨_, h, fun j => ?_⟩
    rw [ht, Bt.get_n, Bt.get_n]
    subst h0
    split <;> rfl
   ·have : i.beq 0 = false := by simpa [beqT] using h0
    rw [this] at h
    simp only [cond_false] at h
    by_cases h1 : i % 2 = 1
    ·have : (i % 2).beq 1 = true := by simpa [beqT] using h1
     rw [this] at h
     obtain ⟨l', k1, k2⟩ := Bt.set_ok f l (i / 2) x _ h
     refine ⟨_, k1, fun j => ?_⟩
     rw [ht, Bt.get_n, Bt.get_n, k2]
     by_cases j0 : j = 0
     ·subst j0; simp [Ne.symm h0]
     ·rw [if_neg j0, if_neg j0]
      by_cases j1 : j % 2 = 1
      ·rw [if_pos j1, if_pos j1]
       by_cases e : j = i
       ·subst e; simp
       ·rw [if_neg e, if_neg (by omega)]
      ·rw [if_neg j1, if_neg j1, if_neg (by rintro rfl; exact j1 h1)]
    ·have : (i % 2).beq 1 = false := by simpa [beqT] using h1
     rw [this] at h
     obtain ⟨l', k1, k2⟩ := Bt.set_ok f r (i / 2 - 1) x _ h
     refine ⟨_, k1, fun j => ?_⟩
     rw [ht, Bt.get_n, Bt.get_n, k2]
     by_cases j0 : j = 0
     ·subst j0; simp [Ne.symm h0]
     ·rw [if_neg j0, if_neg j0]
      by_cases j1 : j % 2 = 1
      ·rw [if_pos j1, if_pos j1, if_neg (by rintro rfl; exact h1 j1)]
      ·rw [if_neg j1, if_neg j1]
       by_cases e : j = i
       ·subst e; simp
       ·rw [if_neg e, if_neg (by omega)]
  cases t with
  | e => exact key none .e .e (fun j => by rw [Bt.get_n]; simp [Bt.get_e]) h
  | n y l r => exact key y l r (fun _ => rfl) h

/-! forced values -/
def fN (n : Nat) (k : Nat → Ans) : Ans :=
 match n with
 | 0 => k 0
 | m + 1 => k (Nat.succ m)
theorem fN_eq (n : Nat) (k : Nat → Ans) : fN n k = k n := by cases n <;> rfl
def fI (n : Int) (k : Int → Ans) : Ans :=
 match n with
 | .ofNat n => fN n fun n => k (.ofNat n)
 | .negSucc n => fN n fun n => k (.negSucc n)
theorem fI_eq (n : Int) (k : Int → Ans) : fI n k = k n := by cases n <;> simp [fI, fN_eq]
def fB (b : Bool) (k : Bool → Ans) : Ans :=
 match b with
 | true => k true
 | false => k false
theorem fB_eq (b : Bool) (k : Bool → Ans) : fB b k = k b := by cases b <;> rfl
def fV (v : Value) (k : Value → Ans) : Ans :=
 match v with
 | .int t n => fI n fun n => k (.int t n)
 | .bool b => fB b fun b => k (.bool b)
 | v => k v
theorem fV_eq (v : Value) (k : Value → Ans) : fV v k = k v := by cases v <;> simp [fV, fI_eq, fB_eq]
def fL (l : List Nat) (k : List Nat → Ans) : Ans :=
 match l with
 | [] => k []
 | n :: r => fN n fun n => fL r fun r => k (n :: r)
theorem fL_eq (l : List Nat) (k : List Nat → Ans) : fL l k = k l := by
 induction l generalizing k with
 | nil => rfl
 | cons n r ih => simp only [fL, fN_eq, ih]
def fC (c : C) (k : C → Ans) : Ans :=
 match c with
 | .v v => fV v fun v => k (.v v)
 | .s id n => fN id fun id => fN n fun n => k (.s id n)
 | .p id off => fN id fun id => fN off fun off => k (.p id off)
 | .m id => fN id fun id => k (.m id)
 | .w id off n z => fN id fun id => fN off fun off => fN n fun n => fN z fun z => k (.w id off n z)
 | .f fn ids => fN fn fun fn => fL ids fun ids => k (.f fn ids)
 | .q cs off => fN off fun off => k (.q cs off)
 | .it (some m) s l e => fN m fun m => fN s fun s => fL l fun l => fN e fun e => k (.it (some m) s l e)
 | c => k c
theorem fC_eq (c : C) (k : C → Ans) : fC c k = k c := by
 cases c with
 | it m s l e => cases m <;> simp [fC, fN_eq, fL_eq]
 | _ => simp [fC, fN_eq, fV_eq, fL_eq]
def fCs (l : List C) (k : List C → Ans) : Ans :=
 match l with
 | [] => k []
 | c :: r => fC c fun c => fCs r fun r => k (c :: r)
theorem fCs_eq (l : List C) (k : List C → Ans) : fCs l k = k l := by
 induction l generalizing k with
 | nil => rfl
 | cons n r ih => simp only [fCs, fC_eq, ih]
def fA (x : A0) (k : A0 → Ans) : Ans :=
 match x with
 | .c c => fC c fun c => k (.c c)
 | .g l => fCs l fun l => k (.g l)
theorem fA_eq (x : A0) (k : A0 → Ans) : fA x k = k x := by cases x <;> simp [fA, fC_eq, fCs_eq]
def fAs (l : List A0) (k : List A0 → Ans) : Ans :=
 match l with
 | [] => k []
 | c :: r => fA c fun c => fAs r fun r => k (c :: r)
theorem fAs_eq (l : List A0) (k : List A0 → Ans) : fAs l k = k l := by
 induction l generalizing k with
 | nil => rfl
 | cons n r ih => simp only [fAs, fA_eq, ih]
def fAV (x : AV) (k : AV → Ans) : Ans :=
 match x with
 | .a x => fA x fun x => k (.a x)
 | .tup l => fAs l fun l => k (.tup l)
theorem fAV_eq (x : AV) (k : AV → Ans) : fAV x k = k x := by cases x <;> simp [fAV, fA_eq, fAs_eq]
def fKV (l : List (Value × C)) (k : List (Value × C) → Ans) : Ans :=
 match l with
 | [] => k []
 | (a, c) :: r => fV a fun a => fC c fun c => fKV r fun r => k ((a, c) :: r)
theorem fKV_eq (l : List (Value × C)) (k : List (Value × C) → Ans) : fKV l k = k l := by
 induction l generalizing k with
 | nil => rfl
 | cons n r ih => simp only [fKV, fV_eq, fC_eq, ih]
def fO (o : Ob) (k : Ob → Ans) : Ans :=
 match o with
 | .r ⟨e, z, sl, cs⟩ => fN z fun z => fB sl fun sl => fCs cs fun cs => k (.r ⟨e, z, sl, cs⟩)
 | .m kv => fKV kv fun kv => k (.m kv)
 | o => k o
theorem fO_eq (o : Ob) (k : Ob → Ans) : fO o k = k o := by
 cases o with
 | r q => simp [fO, fN_eq, fB_eq, fCs_eq]
 | m kv => simp [fO, fKV_eq]
 | _ => rfl

def okOb : Ob → Bool
 | .r q => q.cells.all C.pl
 | .m kv => kv.all fun p => p.2.pl
 | .d => true
 | .x => false
theorem okOb_born {o : Ob} (h : okOb o = true) : o.born = true := by cases o <;> first | rfl | cases h
def RR (rs : RS) (st : ST) : Prop :=
 (∀ d, st.get d = (rs.tm.get d).getD .u) ∧ (∀ i, st.hp[i]? = rs.hp.get i) ∧ st.hp.length = rs.hn ∧ st.n = rs.n ∧ st.pin = rs.pin ∧ ∀ i o, rs.hp.get i = some o → okOb o = true
def RS.ev (rs : RS) : Operand → AV
 | .tmp t => (rs.tm.get t).getD .u
 | .const v => .a (.c (.v v))
 | .global n => globA n
 | .func f => .a (.c (.f f []))
theorem RR.ev {rs : RS} {st : ST} (h : RR rs st) : st.ev = rs.ev := by
 funext x
 cases x <;> first | exact h.1 _ | rfl
def RS.put (rs : RS) (d : Option Nat) (x : AV) (k : RS → Ans) : Ans :=
 match d with
 | none => k rs
 | some d => match rs with
  | ⟨tm, hp, hn, n, pin⟩ => bif Nat.blt d n then fAV x fun x => Bt.set 30 tm d x fun tm => k ⟨tm, hp, hn, n, pin⟩ else .bad [2]
theorem RS.put_ok {rs : RS} {st : ST} (hR : RR rs st) {d : Option Nat} {x : AV} {k : RS → Ans} (h : rs.put d x k = .ok) : (∀ e, d = some e → e < st.n) ∧ ∃ rs', k rs' = .ok ∧ RR rs' (st.put d x) := by
 obtain ⟨tm, hp, hn, n, pin⟩ := rs
 cases d with
 | none => exact ⟨by simp, _, h, hR⟩
 | some d =>
  simp only [RS.put] at h
  cases hb : Nat.blt d n with
  | false => rw [hb] at h; cases h
  | true =>
   rw [hb] at h
   simp only [cond_true, fAV_eq] at h
   obtain ⟨tm', h1, h2⟩ := Bt.set_ok _ _ _ _ _ h
   have hlt : d < n := by simpa [bltT] using hb
   refine ⟨fun e he => by cases he; rw [hR.2.2.2.1]; exact hlt, _, h1, fun e => ?_, hR.2.1, hR.2.2.1, hR.2.2.2.1, hR.2.2.2.2.1, hR.2.2.2.2.2⟩
   show look ((d, x) :: st.tm) e = (tm'.get e).getD .u
   rw [h2]
   simp only [look]
   split
   ·rfl
   ·exact hR.1 e
def RS.push (rs : RS) (o : Ob) (k : RS → Ans) : Ans :=
 match rs with
 | ⟨tm, hp, hn, n, pin⟩ => fO o fun o => bif okOb o then Bt.set 30 hp hn o fun hp => fN (hn + 1) fun hn => k ⟨tm, hp, hn, n, pin⟩ else .bad [3]
theorem RS.push_ok {rs : RS} {st : ST} (hR : RR rs st) {o : Ob} {k : RS → Ans} (h : rs.push o k = .ok) : ∃ rs', k rs' = .ok ∧ RR rs' { st with hp := st.hp ++ [o] } := by
 obtain ⟨tm, hp, hn, n, pin⟩ := rs
 obtain ⟨r1, r2, r3, r4, r5, r6⟩ := hR
 simp only [RS.push, fO_eq, fN_eq] at h
 cases hb : okOb o with
 | false => rw [hb] at h; cases h
 | true =>
  rw [hb] at h
  obtain ⟨hp', h1, h2⟩ := Bt.set_ok _ _ _ _ _ h
  refine ⟨_, h1, r1, fun i => ?_, by simpa using r3, r4, r5, fun i ob hx => ?_⟩
  ·show (st.hp ++ [o])[i]? = hp'.get i
   rw [h2]
   by_cases e : i = hn
   ·subst e; simp only at r3; subst r3; simp
   ·rw [if_neg e, push_ne _ _ (by simp only at r3; rw [r3]; exact e)]; exact r2 i
  ·simp only [h2] at hx
   split at hx
   ·cases hx; exact hb
   ·exact r6 i ob hx
def RS.upd (rs : RS) (id : Nat) (o : Ob) (k : RS → Ans) : Ans :=
 match rs with
 | ⟨tm, hp, hn, n, pin⟩ => fO o fun o => bif okOb o then bif Nat.blt id hn then Bt.set 30 hp id o fun hp => k ⟨tm, hp, hn, n, pin⟩ else .bad [4] else .bad [5]
theorem RS.upd_ok {rs : RS} {st : ST} (hR : RR rs st) {id : Nat} {o : Ob} {k : RS → Ans} (h : rs.upd id o k = .ok) : ∃ rs', k rs' = .ok ∧ RR rs' { st with hp := st.hp.set id o } := by
 obtain ⟨tm, hp, hn, n, pin⟩ := rs
 obtain ⟨r1, r2, r3, r4, r5, r6⟩ := hR
 simp only [RS.upd, fO_eq] at h
 cases hb : okOb o with
 | false => rw [hb] at h; cases h
 | true =>
  rw [hb] at h
  simp only [cond_true] at h
  cases hl : Nat.blt id hn with
  | false => rw [hl] at h; cases h
  | true =>
   rw [hl] at h
   have hlt : id < hn := by simpa [bltT] using hl
   obtain ⟨hp', h1, h2⟩ := Bt.set_ok _ _ _ _ _ h
   refine ⟨_, h1, r1, fun i => ?_, by simpa using r3, r4, r5, fun i ob hx => ?_⟩
   ·show (st.hp.set id o)[i]? = hp'.get i
    simp only at r3
    rw [h2, List.getElem?_set]
    by_cases e : i = id
    ·subst e; simp [r3, hlt]
    ·rw [if_neg e, if_neg (fun h => e h.symm)]; exact r2 i
   ·simp only [h2] at hx
    split at hx
    ·cases hx; exact hb
    ·exact r6 i ob hx
/-! tables -/
def asc {α : Type} : List (Nat × α) → Nat → Option α
 | [], _ => none
 | (k, v) :: r, i => bif k.beq i then some v else asc r i
def AllP {α : Type} (p : Nat → α → Prop) : List (Nat × α) → Prop
 | [] => True
 | (k, v) :: r => p k v ∧ AllP p r
theorem asc_all {α : Type} {p : Nat → α → Prop} : ∀ {l : List (Nat × α)}, AllP p l → ∀ {i : Nat} {v : α}, asc l i = some v → p i v
 | [], _, _, _, h => by cases h
 | (k, u) :: r, ha, i, v, h => by
  simp only [asc, beqT] at h
  by_cases e : k = i
  ·subst e; simp at h; subst h; exact ha.1
  ·simp [e] at h; exact asc_all ha.2 h
/-! keys of maps: numbers, strings, structs of n numbers -/
inductive Ks where
 | ki
 | ks
 | kg (n : Nat)
def keyEqL : List Value → List Value → Option Bool
 | [], [] => some true
 | .int .i64 a :: r, .int .i64 b :: s => match keyEqL r s with
  | some t => some ((a == b) && t)
  | none => none
 | _, _ => none
def keyEq : Ks → Value → Value → Option Bool
 | .ki, .int .i64 a, .int .i64 b => some (a == b)
 | .ks, .string a, .string b => some (a == b)
 | .kg n, .agg ⟨xs⟩, .agg ⟨ys⟩ => match xs.length.beq n && ys.length.beq n with
  | true => keyEqL xs ys
  | false => none
 | _, _, _ => none
structure KeyOk (P : Program) (kt : TypeId) (s : Ks) : Prop where
 eq : ∃ kd, P.underlying kt = some kd ∧ ((∀ a b t, keyEq s a b = some t → Instr.sameNow kd a b = some t) ∨ (∀ a b t, keyEq s a b = some t → Instr.sameNow kd a b = none ∧ ∀ w, (Op.equal kt a b).run P w = .ok t w))
 ck : ∀ a t, keyEq s a a = some t → ∀ e w, (Instr.checkKey e 10000 kt a).run P w = .ok () w
structure Tb where
 ty : List (Nat × Ty)
 ik : List (Nat × IntKind)
 fn : List (Nat × Func)
 ae : List (Nat × Nat)
 orc : List (Nat × (List AV → Option AV))
 mp : List (Nat × (Ks × Value))
 bl : List (Nat × Bool)
structure TbOk (P : Program) (T : Tb) : Prop where
 ty : AllP (fun t y => tyOf P t = some y) T.ty
 ik : AllP (fun t k => P.underlying t = some (.int k)) T.ik
 fn : AllP (fun f x => P.funcs[f]? = some x ∧ callable P f = true) T.fn
 ae : AllP (fun t n => ∀ (x y : Operand) (us vs : List C) (a b : List Value), us.length = n → vs.length = n → ints us = some a → ints vs = some b → aggEq P .eql t x y a b (eqI us vs) ∧ aggEq P .neq t x y a b (!eqI us vs)) T.ae
 orc : AllP (fun f g => callable P f = true ∧ ∀ args r, g args = some r → args.map (AV.ren []) = args ∧ (∀ h, r.up h = r) ∧ FC P f args [] (fun x o => o = [] ∧ x = r)) T.orc
 mp : AllP (fun t s => ∃ kt e, P.underlying t = some (.map kt e) ∧ KeyOk P kt s.1 ∧ (P.info? e).bind (·.zero) = some s.2) T.mp
 bl : AllP (fun t _ => P.underlying t = some .bool) T.bl
 mx : P.follows .mixedOrders = true
section
variable {P : Program} {T : Tb}
theorem TbOk.t (h : TbOk P T) {t : Nat} {y : Ty} (e : asc T.ty t = some y) : tyOf P t = some y := asc_all h.ty e
theorem TbOk.k (h : TbOk P T) {t : Nat} {y : IntKind} (e : asc T.ik t = some y) : P.underlying t = some (.int y) := asc_all h.ik e
end

/-! operations that compute -/
def in64B (n : Int) : Bool := decide (-9223372036854775808 ≤ n) && decide (n < 9223372036854775808)
theorem in64B_ok {n : Int} (h : in64B n = true) : in64 n := by
 simp only [in64B, Bool.and_eq_true, decide_eq_true_eq] at h
 exact h
def binB (op : BinOp) (a b : Value) : Option Value :=
 match a, b with
 | .int .i64 a, .int .i64 b => match op with
  | .add => bif in64B (a + b) then some (.int .i64 (a + b)) else none
  | .sub => bif in64B (a - b) then some (.int .i64 (a - b)) else none
  | .mul => bif in64B (a * b) then some (.int .i64 (a * b)) else none
  | .quo => bif decide (0 ≤ a) && (decide (0 < b) && decide (a < 9223372036854775808)) then some (.int .i64 (a / b)) else none
  | .rem => bif decide (0 < b) then some (.int .i64 (a.tmod b)) else none
  | .shr => bif decide (0 ≤ b) && decide (b ≤ 64) then some (.int .i64 (a.fdiv (2 ^ b.toNat))) else none
  | .shl => bif decide (0 ≤ b) && (decide (b ≤ 64) && in64B (a * 2 ^ b.toNat)) then some (.int .i64 (a * 2 ^ b.toNat)) else none
  | op => (icmp op a b).map .bool
 | .int .i64 a, .int .u64 b => match op with
  | .shr => bif decide (0 ≤ b) && decide (b ≤ 64) then some (.int .i64 (a.fdiv (2 ^ b.toNat))) else none
  | .shl => bif decide (0 ≤ b) && (decide (b ≤ 64) && in64B (a * 2 ^ b.toNat)) then some (.int .i64 (a * 2 ^ b.toNat)) else none
  | _ => none
 | .int .u64 a, .int .u64 b => match op with
  | .shr => bif decide (0 ≤ b) && (decide (b ≤ 64) && decide (0 ≤ a)) then some (.int .u64 (a / 2 ^ b.toNat)) else none
  | op => (icmp op a b).map .bool
 | .int k a, .int k' b => bif decide (k = k') then (icmp op a b).map .bool else none
 | _, _ => none
theorem condS {b : Bool} {α : Type} {x y : α} (h : (bif b then some x else none) = some y) : b = true ∧ x = y := by
 cases b with
 | false => cases h
 | true => cases h; exact ⟨rfl, rfl⟩
theorem binB_ok {op : BinOp} {a b v : Value} (h : binB op a b = some v) : ∃ c, binA op a b = some (c, v) ∧ c := by
 have fin : ∀ {b : Bool} {x : Value} {c : Prop} {o : Option (Prop × Value)}, (bif b then some x else none) = some v → (b = true → c) → o = some (c, x) → ∃ c, o = some (c, v) ∧ c := by
  intro b x c o h1 h2 h3
  obtain ⟨hb, rfl⟩ := condS h1
  exact ⟨c, h3, h2 hb⟩
 unfold binB at h
 split at h
 ·rename_i a b
  cases op <;> simp only [icmp, Option.map_some, Option.map_none, Option.some.injEq, reduceCtorEq] at h <;> first
   | (subst h; exact ⟨True, rfl, trivial⟩)
   | exact fin h (fun hc => in64B_ok hc) rfl
   | exact fin h (fun hc => by simp only [Bool.and_eq_true, decide_eq_true_eq] at hc; exact hc) rfl
   | exact fin h (fun hc => by simp only [Bool.and_eq_true, decide_eq_true_eq] at hc; exact ⟨hc.1, hc.2.1, in64B_ok hc.2.2⟩) rfl
 ·rename_i a b
  cases op <;> simp only [reduceCtorEq] at h <;> first
   | exact fin h (fun hc => by simp only [Bool.and_eq_true, decide_eq_true_eq] at hc; exact hc) rfl
   | exact fin h (fun hc => by simp only [Bool.and_eq_true, decide_eq_true_eq] at hc; exact ⟨hc.1, hc.2.1, in64B_ok hc.2.2⟩) rfl
 ·rename_i a b
  cases op <;> simp only [icmp, Option.map_some, Option.map_none, Option.some.injEq, reduceCtorEq] at h <;> first
   | (subst h; exact ⟨True, rfl, trivial⟩)
   | exact fin h (fun hc => by simp only [Bool.and_eq_true, decide_eq_true_eq] at hc; exact hc) rfl
 ·rename_i k a k' b h1 h2 h3
  obtain ⟨hc, h4⟩ : decide (k = k') = true ∧ (icmp op a b).map Value.bool = some v := by
   cases hd : decide (k = k') with
   | false => rw [hd] at h; cases h
   | true => rw [hd] at h; exact ⟨rfl, h⟩
  have hc : k = k' := by simpa using hc
  clear h
  subst hc
  cases hi : icmp op a b with
  | none => rw [hi] at h4; cases h4
  | some t =>
   rw [hi] at h4
   cases h4
   refine ⟨k = k, ?_, rfl⟩
   unfold binA
   cases k <;> simp only [hi] <;> first | exact (h1 rfl rfl).elim | exact (h3 rfl rfl).elim
 ·cases h
def rBin (T : Tb) (ev : Operand → AV) (op : BinOp) (t : TypeId) (x y : Operand) : Option AV :=
 match ev x, ev y with
 | .a (.c (.v a)), .a (.c (.v b)) => (binB op a b).map fun v => .a (.c (.v v))
 | .a (.g xs), .a (.g ys) => match ints xs, ints ys, asc T.ae t with
  | some _, some _, some n => bif xs.length.beq n && ys.length.beq n then (match op with
   | .eql => some (.b (eqI xs ys))
   | .neq => some (.b (!eqI xs ys))
   | _ => none) else none
  | _, _, _ => none
 | _, _ => none
def rUn (ev : Operand → AV) (op : UnOp) (x : Operand) : Option AV :=
 match ev x with
 | .a (.c (.v (.bool b))) => match op with
  | .not => some (.b (!b))
  | _ => none
 | .a (.c (.v (.int .i64 n))) => match op with
  | .neg => bif in64B (-n) then some (.i (-n)) else none
  | _ => none
 | _ => none
def rConv (T : Tb) (ev : Operand → AV) (s d : TypeId) (x : Operand) : Option AV :=
 match ev x, asc T.ik s, asc T.ik d with
 | .a (.c (.v (.int _ n))), some _, some k => some (.a (.c (.v (.int k (k.wrap n)))))
 | _, _, _ => none
def rField (T : Tb) (ev : Operand → AV) (t : TypeId) (x : Operand) (f : Nat) : Option AV :=
 match ev x, asc T.ty t with
 | .a (.g xs), some y => match y.kind, y.flds[f]? with
  | 2, some (off, sz, ag) => bif Nat.ble (off + sz) xs.length && Nat.blt 0 sz then some (.a (partC xs off sz ag)) else none
  | _, _ => none
 | _, _ => none
def rFieldAddr (T : Tb) (ev : Operand → AV) (t : TypeId) (x : Operand) (f : Nat) : Option AV :=
 match ev x, asc T.ty t with
 | .a (.c (.p id off)), some y => match y.kind, y.flds[f]? with
  | 2, some (o, sz, _) => bif Nat.blt 0 sz then some (.a (.c (.p id (off + o)))) else none
  | _, _ => none
 | .a (.c (.q cs off)), some y => match y.kind, y.flds[f]? with
  | 2, some (o, sz, _) => bif Nat.blt 0 sz then some (.a (.c (.q cs (off + o)))) else none
  | _, _ => none
 | _, _ => none
def rEl (T : Tb) (t : TypeId) : Option Nat :=
 match asc T.ty t with
 | some y => match y.kind, asc T.ty y.elem with
  | 1, some z => some z.size
  | _, _ => none
 | none => none
def rIndex (T : Tb) (ev : Operand → AV) (t : TypeId) (x ix : Operand) : Option AV :=
 match rEl T t, ev x, ev ix with
 | some z, .a (.c (.s id n)), .a (.c (.v (.int _ i))) => bif decide (0 ≤ i) && decide (i < n) then some (.a (.c (.p id (i.toNat * z)))) else none
 | some z, .a (.c (.w id off n k)), .a (.c (.v (.int _ i))) => bif decide (0 ≤ i) && (decide (i < n) && z.beq k) then some (.a (.c (.p id ((off + i.toNat) * z)))) else none
 | some z, .a (.c (.t k cs)), .a (.c (.v (.int _ i))) => bif decide (0 ≤ i) && (Nat.blt (i.toNat * k) cs.length && z.beq k) then some (.a (.c (.q cs (i.toNat * k)))) else none
 | _, _, _ => none
def rBuild (T : Tb) (ev : Operand → AV) (t : TypeId) (parts : Array (Nat × Operand)) : Option AV :=
 match asc T.ty t with
 | some y => match y.kind, fillA (fun i => (y.flds[i]?).map fun f => (f.1, f.2.1)) (AV.zeroOf y) (parts.toList.map fun p => (p.1, ev p.2)) with
  | 2, some cs => some (.a (.g cs))
  | _, _ => none
 | none => none
def rSlice (T : Tb) (ev : Operand → AV) (t : TypeId) (x : Operand) (lo hi mx : Option Operand) : Option AV :=
 match mx, rEl T t, ev x, lo.map ev, hi.map ev with
 | none, some _, .a (.c (.s id n)), none, some (.a (.c (.v (.int _ h)))) => bif decide (0 ≤ h) && decide (h ≤ n) then some (.a (.c (.s id h.toNat))) else none
 | none, some z, .a (.c (.s id n)), some (.a (.c (.v (.int _ l)))), none => bif decide (0 ≤ l) && Nat.blt l.toNat n then some (.a (.c (.w id l.toNat (n - l.toNat) z))) else none
 | none, some z, .a (.c (.t k cs)), none, some (.a (.c (.v (.int _ h)))) => bif decide (0 ≤ h) && (Nat.ble (h.toNat * k) cs.length && (z.beq k && Nat.blt 0 k)) then some (.a (.c (.t k (cs.take (h.toNat * k))))) else none
 | none, some z, .a (.c (.t k cs)), some (.a (.c (.v (.int _ l)))), none => bif decide (0 ≤ l) && (Nat.ble (l.toNat * k) cs.length && (z.beq k && Nat.blt 0 k)) then some (.a (.c (.t k (cs.drop (l.toNat * k))))) else none
 | _, _, _, _, _ => none
def rLen (T : Tb) (ev : Operand → AV) (t : TypeId) (x : Operand) : Option AV :=
 match asc T.ty t with
 | some y => match y.kind, ev x with
  | 1, .a (.c (.s _ n)) => some (.i n)
  | 1, .a (.c (.w _ _ n _)) => some (.i n)
  | 1, .a (.c (.t k cs)) => bif Nat.blt 0 k then some (.i (cs.length / k : Nat)) else none
  | 1, .a (.c (.v (.slice _ n _))) => some (.i n)
  | 4, .a (.c (.v (.string s))) => some (.i s.size)
  | _, _ => none
 | none => none
def rCallD (T : Tb) (ev : Operand → AV) (c : Call) : Option AV :=
 match c.callee, c.args.toList, c.argTypes.toList with
 | .builtin .len, [x], [t] => rLen T ev t x
 | .builtin .min, [x, y], _ => (dMin ev false x y).map (·.2)
 | .builtin .max, [x, y], _ => (dMin ev true x y).map (·.2)
 | _, _, _ => none
def rD (T : Tb) (op : Op) (ev : Operand → AV) : Option AV :=
 match op with
 | .move x => some (ev x)
 | .assign x => some (ev x)
 | .pick c a b => (dPick ev c a b).map (·.2)
 | .nilCheck x => (dNil ev x).map (·.2)
 | .binOp op t x y _ => rBin T ev op t x y
 | .unOp op _ x => rUn ev op x
 | .convert s d x => rConv T ev s d x
 | .field t x f => rField T ev t x f
 | .fieldAddr t x f => rFieldAddr T ev t x f
 | .indexAddr t x ix => rIndex T ev t x ix
 | .extract x i => (dExt ev x i).map (·.2)
 | .makeFunc fn first captured => (dFunc ev fn first captured).map (·.2)
 | .build t parts => rBuild T ev t parts
 | .slice t x lo hi mx => rSlice T ev t x lo hi mx
 | .call c => rCallD T ev c
 | _ => none
section
variable {P : Program} {T : Tb} {ev : Operand → AV} {v : AV}
theorem rEl_ok (hT : TbOk P T) {t z : Nat} (h : rEl T t = some z) : elSize P t = some z := by
 unfold rEl at h
 split at h
 ·rename_i y hy
  split at h
  ·rename_i z' hk hz
   simp only [elSize, hT.t hy, hk, hT.t hz]
   exact h
  ·cases h
 ·cases h
theorem rBin_ok (hT : TbOk P T) {op : BinOp} {t : TypeId} {x y : Operand} (h : rBin T ev op t x y = some v) : ∃ c, dBin P ev op t x y = some (c, v) ∧ c := by
 unfold rBin at h
 unfold dBin
 split at h
 ·rename_i a b hx hy
  simp only [hx, hy]
  cases hb : binB op a b with
  | none => rw [hb] at h; cases h
  | some w =>
   rw [hb] at h; cases h
   obtain ⟨c, h1, h2⟩ := binB_ok hb
   exact ⟨c, by rw [h1], h2⟩
 ·rename_i xs ys hx hy
  simp only [hx, hy]
  split at h
  ·rename_i a b n ha hb hn
   rw [ha, hb]
   rw [Bool.cond_eq_ite] at h
   split at h
   ·rename_i hl
    simp only [beqT, Bool.and_eq_true, decide_eq_true_eq] at hl
    have hae := asc_all hT.ae hn x y xs ys a b hl.1 hl.2 ha hb
    split at h
    ·cases h; exact ⟨_, rfl, hae.1⟩
    ·cases h; exact ⟨_, rfl, hae.2⟩
    ·cases h
   ·cases h
  ·cases h
 ·cases h
theorem rUn_ok {op : UnOp} {x : Operand} (h : rUn ev op x = some v) : ∃ c, dUn ev op x = some (c, v) ∧ c := by
 unfold rUn at h
 unfold dUn
 split at h
 ·rename_i b hx
  simp only [hx]
  split at h
  ·cases h; exact ⟨True, rfl, trivial⟩
  ·cases h
 ·rename_i n hx
  simp only [hx]
  split at h
  ·obtain ⟨h1, rfl⟩ := condS h
   exact ⟨_, rfl, in64B_ok h1⟩
  ·cases h
 ·cases h
theorem rConv_ok (hT : TbOk P T) {s d : TypeId} {x : Operand} (h : rConv T ev s d x = some v) : ∃ c, dConv P ev s d x = some (c, v) ∧ c := by
 unfold rConv at h
 unfold dConv
 split at h
 ·rename_i kk n k1 k hx h1 h2
  cases h
  simp only [hx, hT.k h1, hT.k h2]
  exact ⟨True, rfl, trivial⟩
 ·cases h
theorem rField_ok (hT : TbOk P T) {t : TypeId} {x : Operand} {f : Nat} (h : rField T ev t x f = some v) : ∃ c, dField P ev t x f = some (c, v) ∧ c := by
 unfold rField at h
 unfold dField
 split at h
 ·rename_i xs y hx hy
  simp only [hx, hT.t hy]
  split at h
  ·rename_i off sz ag hk hf
   simp only [hk, hf]
   obtain ⟨h1, rfl⟩ := condS h
   simp only [bltT, Bool.and_eq_true, decide_eq_true_eq, Nat.ble_eq] at h1
   exact ⟨_, rfl, h1⟩
  ·cases h
 ·cases h
theorem rFieldAddr_ok (hT : TbOk P T) {t : TypeId} {x : Operand} {f : Nat} (h : rFieldAddr T ev t x f = some v) : ∃ c, dFieldAddr P ev t x f = some (c, v) ∧ c := by
 unfold rFieldAddr at h
 unfold dFieldAddr
 split at h
 ·rename_i id off y hx hy
  simp only [hx, hT.t hy]
  split at h
  ·rename_i o sz ag hk hf
   simp only [hk, hf]
   obtain ⟨h1, rfl⟩ := condS h
   simp only [bltT, decide_eq_true_eq] at h1
   exact ⟨_, rfl, h1⟩
  ·cases h
 ·rename_i cs off y hx hy
  simp only [hx, hT.t hy]
  split at h
  ·rename_i o sz ag hk hf
   simp only [hk, hf]
   obtain ⟨h1, rfl⟩ := condS h
   simp only [bltT, decide_eq_true_eq] at h1
   exact ⟨_, rfl, h1⟩
  ·cases h
 ·cases h
theorem rIndex_ok (hT : TbOk P T) {t : TypeId} {x ix : Operand} (h : rIndex T ev t x ix = some v) : ∃ c, dIndex P ev t x ix = some (c, v) ∧ c := by
 unfold rIndex at h
 unfold dIndex
 split at h
 ·rename_i z id n kk i h1 h2 h3
  simp only [rEl_ok hT h1, h2, h3]
  obtain ⟨hc, rfl⟩ := condS h
  simp only [Bool.and_eq_true, decide_eq_true_eq] at hc
  exact ⟨_, rfl, hc⟩
 ·rename_i z id off n k kk i h1 h2 h3
  simp only [rEl_ok hT h1, h2, h3]
  obtain ⟨hc, rfl⟩ := condS h
  simp only [beqT, Bool.and_eq_true, decide_eq_true_eq] at hc
  exact ⟨_, rfl, hc⟩
 ·rename_i z k cs kk i h1 h2 h3
  simp only [rEl_ok hT h1, h2, h3]
  obtain ⟨hc, rfl⟩ := condS h
  simp only [beqT, bltT, Bool.and_eq_true, decide_eq_true_eq] at hc
  exact ⟨_, rfl, hc⟩
 ·cases h
theorem rBuild_ok (hT : TbOk P T) {t : TypeId} {parts : Array (Nat × Operand)} (h : rBuild T ev t parts = some v) : ∃ c, dBuild P ev t parts = some (c, v) ∧ c := by
 unfold rBuild at h
 unfold dBuild
 split at h
 ·rename_i y hy
  simp only [hT.t hy]
  split at h
  ·rename_i cs hk hf
   cases h
   simp only [hk, hf]
   exact ⟨True, rfl, trivial⟩
  ·cases h
 ·cases h
theorem rSlice_ok (hT : TbOk P T) {t : TypeId} {x : Operand} {lo hi mx : Option Operand} (h : rSlice T ev t x lo hi mx = some v) : ∃ c, dSlice P ev t x lo hi mx = some (c, v) ∧ c := by
 unfold rSlice at h
 unfold dSlice
 split at h
 ·rename_i z id n kk h' h1 h2 h3 h4
  simp only [rEl_ok hT h1, h2, h3, h4]
  obtain ⟨hc, rfl⟩ := condS h
  simp only [Bool.and_eq_true, decide_eq_true_eq] at hc
  exact ⟨_, rfl, hc⟩
 ·rename_i z id n kk l h1 h2 h3 h4
  simp only [rEl_ok hT h1, h2, h3, h4]
  obtain ⟨hc, rfl⟩ := condS h
  simp only [bltT, Bool.and_eq_true, decide_eq_true_eq] at hc
  exact ⟨_, rfl, hc⟩
 ·rename_i z k cs kk h' h1 h2 h3 h4
  simp only [rEl_ok hT h1, h2, h3, h4]
  obtain ⟨hc, rfl⟩ := condS h
  simp only [beqT, bltT, Bool.and_eq_true, decide_eq_true_eq, Nat.ble_eq] at hc
  exact ⟨_, rfl, hc⟩
 ·rename_i z k cs kk l h1 h2 h3 h4
  simp only [rEl_ok hT h1, h2, h3, h4]
  obtain ⟨hc, rfl⟩ := condS h
  simp only [beqT, bltT, Bool.and_eq_true, decide_eq_true_eq, Nat.ble_eq] at hc
  exact ⟨_, rfl, hc⟩
 ·cases h
theorem rLen_ok (hT : TbOk P T) {t : TypeId} {x : Operand} (h : rLen T ev t x = some v) : ∃ c, dLen P ev t x = some (c, v) ∧ c := by
 unfold rLen at h
 unfold dLen
 split at h
 ·rename_i y hy
  simp only [hT.t hy]
  split at h
  ·rename_i id n hk hx; cases h; simp only [hk, hx]; exact ⟨True, rfl, trivial⟩
  ·rename_i id off n k hk hx; cases h; simp only [hk, hx]; exact ⟨True, rfl, trivial⟩
  ·rename_i k cs hk hx
   simp only [hk, hx]
   obtain ⟨hc, rfl⟩ := condS h
   simp only [bltT, decide_eq_true_eq] at hc
   exact ⟨_, rfl, hc⟩
  ·rename_i a n c hk hx; cases h; simp only [hk, hx]; exact ⟨True, rfl, trivial⟩
  ·rename_i s hk hx; cases h; simp only [hk, hx]; exact ⟨True, rfl, trivial⟩
  ·cases h
 ·cases h
theorem mapT {α : Type} {o : Option (Prop × α)} {v : α} (h : o.map (·.2) = some v) (ho : ∀ c x, o = some (c, x) → c) : ∃ c, o = some (c, v) ∧ c := by
 cases o with
 | none => cases h
 | some p => obtain ⟨c, x⟩ := p; cases h; exact ⟨c, rfl, ho c _ rfl⟩
theorem rD_ok (hT : TbOk P T) {op : Op} (h : rD T op ev = some v) : ∃ c, dOp P op ev = some (c, v) ∧ c := by
 cases op <;> simp only [rD] at h <;> simp only [dOp] <;> (try (cases h; done))
 case move => cases h; exact ⟨True, rfl, trivial⟩
 case assign => cases h; exact ⟨True, rfl, trivial⟩
 case pick => exact mapT h fun c x e => by unfold dPick at e; split at e <;> cases e; trivial
 case nilCheck => exact mapT h fun c x e => by unfold dNil at e; split at e <;> cases e <;> trivial
 case binOp => exact rBin_ok hT h
 case unOp => exact rUn_ok h
 case convert => exact rConv_ok hT h
 case field => exact rField_ok hT h
 case fieldAddr => exact rFieldAddr_ok hT h
 case indexAddr => exact rIndex_ok hT h
 case extract =>
  refine mapT h fun c x e => ?_
  unfold dExt at e
  split at e
  ·split at e <;> cases e
   trivial
  ·cases e
 case makeFunc => exact mapT h fun c x e => by unfold dFunc at e; split at e <;> cases e; trivial
 case build => exact rBuild_ok hT h
 case slice => exact rSlice_ok hT h
 case call c =>
  obtain ⟨callee, args, ts⟩ := c
  unfold rCallD at h
  unfold dCall
  simp only at h ⊢
  split at h
  ·rename_i x t h1 h2
   simp only [h1, h2]
   exact rLen_ok hT h
  ·rename_i x y h1
   simp only [h1]
   exact mapT h fun c x e => by unfold dMin at e; split at e <;> cases e; trivial
  ·rename_i x y h1
   simp only [h1]
   exact mapT h fun c x e => by unfold dMin at e; split at e <;> cases e; trivial
  ·cases h
end
def aMakeV (P : Program) (ev : Operand → AV) (t : TypeId) (l c : Operand) : Option (Prop × Ob × (Nat → AV)) :=
 match tyOf P t with
 | some y => match y.kind, tyOf P y.elem with
  | 1, some z => match ev l, ev c with
   | .a (.c (.v (.int _ n))), .a (.c (.v (.int _ m))) => if 0 < z.size && z.zero.length == z.size then
     some (0 ≤ n ∧ n ≤ m ∧ m * z.bytes ≤ 140737488355328 ∧ m ≤ 140737488355328, .r ⟨y.elem, z.size, sameT l c, rep n.toNat (z.zero.map C.v)⟩, fun id => .a (.c (.s id n.toNat))) else none
   | _, _ => none
  | _, _ => none
 | none => none
section
variable {P : Program} {g : Gh} {M0 : Nat → Prop} {w0 w : World} {st : ST} {a : Act} {c : Prop} {ob : Ob} {f : Nat → AV}
theorem repv_zero {y : Ty} (hl : y.zero.length = y.size) (n : Nat) :
  (rep n (y.zero.map C.v)).length = n * y.size ∧ ∀ (j : Nat) (x : C), (rep n (y.zero.map C.v))[j]? = some x → ∃ u, ((List.replicate n y.zero).flatten)[j]? = some u ∧ FreshR g st.hp w x u := by
 have e1 : rep n (y.zero.map C.v) = ((List.replicate n y.zero).flatten).map C.v := by
  unfold rep
  split
  ·rename_i c hc
   obtain ⟨v, hv, rfl⟩ : ∃ v, y.zero = [v] ∧ C.v v = c := by
    cases hz : y.zero with
    | nil => rw [hz] at hc; cases hc
    | cons v r =>
     rw [hz] at hc
     simp at hc
     exact ⟨v, by rw [hc.2], hc.1⟩
   rw [hv]; simp
  ·simp [List.map_flatten]
 rw [e1]
 refine ⟨by simp [hl], fun j x hj => ?_⟩
 rw [List.getElem?_map, Option.map_eq_some_iff] at hj
 obtain ⟨u, hu, rfl⟩ := hj
 exact ⟨u, hu, rfl, .inl rfl⟩
theorem aMakeV_sound (h : RelG g M0 w0 st a w) {t : TypeId} {l cp : Operand} (ha : aMakeV P st.ev t l cp = some (c, ob, f)) (hc : c) :
  ∃ v w', (Instr.makeSlice t (a.eval l) (a.eval cp)).run P w = .ok v w' ∧ ABorn g w M0 w0 st a ob f v w' := by
 unfold aMakeV at ha
 split at ha
 ·rename_i y hty
  split at ha
  ·rename_i z hk hz
   split at ha
   ·rename_i k1 n k2 m hl hcp
    split at ha
    ·rename_i hcond
     simp only [Bool.and_eq_true, decide_eq_true_eq, beq_iff_eq] at hcond
     obtain ⟨c1, c2⟩ := hcond
     simp only [Option.some.injEq, Prod.mk.injEq] at ha
     obtain ⟨rfl, rfl, rfl⟩ := ha
     obtain ⟨d1, d2, d3, d4⟩ := hc
     rw [int_of hl (h.ev l), int_of hcp (h.ev cp)]
     obtain ⟨i, zv, hi, hzv, hs, hb, hzc⟩ := tyOf.info hz
     have hr := run_make (P := P) w t y.elem i zv (tyOf.slice hty hk) hi hzv k1 k2 n m d1 d2 (by rw [hb, Int.mul_comm]; omega) (by omega)
     have hzero := zero_flat zv z.zero hzc m.toNat
     rw [c2] at hzero
     obtain ⟨n, rfl⟩ := Int.eq_ofNat_of_zero_le d1
     obtain ⟨m, rfl⟩ := Int.eq_ofNat_of_zero_le (by omega : 0 ≤ m)
     simp only [Int.toNat_natCast] at hr hzero ⊢
     have hmade : madeCells zv.cells (m * i.size) = ((List.replicate m z.zero).flatten).toArray := by rw [hs]; exact hzero
     rw [hmade] at hr
     obtain ⟨q1, q2⟩ := repv_zero (g := g) (st := st) (w := w) c2 n
     by_cases h0 : m = 0
     ·subst h0
      have hn0 : n = 0 := by omega
      subst hn0
      have hb := h.birth0 (w' := w.alloc (.cells ((List.replicate 0 z.zero).flatten).toArray y.elem)) (hp' := st.hp ++ [.r ⟨y.elem, z.size, sameT l cp, rep 0 (z.zero.map C.v)⟩]) (id := st.hp.length) (r := ⟨y.elem, z.size, sameT l cp, rep 0 (z.zero.map C.v)⟩) bn_len (push_ne _) (push_self _) (List.eq_nil_of_length_eq_zero (by simpa using q1)) (Fp.alloc _ _ _)
      refine ⟨_, _, hr, _, ext_at (Nat.le_refl _), Fp.alloc _ _ _, hb, push_bn rfl, Nat.zero_le _, _, by rw [g.at_self.2], fun hn => absurd g.at_self.2 hn, fun b hb => by cases hb; simp⟩
     ·have hle : n * z.size ≤ m * z.size := Nat.mul_le_mul_right _ (by omega)
      have hb := h.birth (hp' := st.hp ++ [.r ⟨y.elem, z.size, sameT l cp, rep n (z.zero.map C.v)⟩]) (id := st.hp.length) (c := m) (r := ⟨y.elem, z.size, sameT l cp, rep n (z.zero.map C.v)⟩) (us := (List.replicate m z.zero).flatten) bn_len (push_ne _) (push_self _) h0 (fun hs hcs => by
        have he : st.ev l = st.ev cp := sameT_eq hs
        rw [hl, hcp] at he
        injection he with he
        injection he with he
        injection he with he
        injection he with _ he
        have hnm : n = m := by omega
        simp only at hcs
        rw [hcs] at q1
        have := Nat.mul_pos (Nat.pos_of_ne_zero h0) c1
        simp at q1; rw [hnm] at q1; omega) (by omega)
       (by rw [q1]; simp [c2]; exact hle) (by simp [c2]) (fun j x hj => by
        obtain ⟨u, e1, e2⟩ := q2 j x hj
        refine ⟨u, ?_, e2⟩
        have hj1 : j < n * z.size := by rw [← q1]; exact (List.getElem?_eq_some_iff.1 hj).1
        rw [rep_flat _ _ _ (by rw [c2]; exact hj1)] at e1
        rw [rep_flat _ _ _ (by rw [c2]; omega)]
        exact e1)
      refine ⟨_, _, hr, _, ext_at (Nat.le_refl _), Fp.alloc _ _ _, hb, push_bn rfl, by rw [g.at_self.2]; omega, _, by rw [g.at_self.2], fun _ => by rw [g.at_self.1], fun b hb => by cases hb; simp⟩
    ·cases ha
   ·cases ha
  ·cases ha
 ·cases ha
end
def evMk (P : Program) (o : Oper) (st : ST) (K : ST → Prop) (t : TypeId) (l c : Operand) : Prop :=
 match aMakeV P st.ev t l c with
 | some (c, ob, f) => c ∧ K ({ st with hp := st.hp ++ [ob] }.put o.dst (f st.hp.length))
 | none => False
section
variable {P : Program} {o : Oper} {st : ST} {K : ST → Prop}
theorem Stp.mono {K' : ST → Prop} (h : Stp P o st K) (hk : ∀ s, K s → K' s) : Stp P o st K' := fun M0 w0 a w N Q hR hN => h M0 w0 a w N Q hR fun st' a' w' h1 h2 => hN st' a' w' (hk _ h1) h2
theorem stp_mk (hd : dok o st.n = true) {t : TypeId} {l c : Operand} (ho : o.op = .makeSlice t l c) (h : evMk P o st K t l c) : Stp P o st K := by
 intro M0 w0 a w N Q hR hN
 obtain ⟨g, ⟨hp1, hp2⟩, hR⟩ := hR
 unfold evMk at h
 split at h
 ·rename_i c ob f hop
  obtain ⟨v, w', h1, g', hx, _, h2, h3⟩ := aMakeV_sound (P := P) hR hop h.1
  have hrun : (execOp a.eval o).run P w = .ok (.value v) w' := by
   unfold execOp
   simp [ho, h1]
  unfold Oper.wp
  rw [hrun]
  exact hN _ _ _ h.2 ⟨g', ⟨by cases o.dst <;> (simp [ST.put]; omega), by cases o.dst <;> exact hp2.trans (hx.le hp1)⟩, h2.put (dok_lt hd) h3⟩
 ·exact h.elim
theorem stp_nilV (hd : dok o st.n = true) {op : BinOp} {t e yt : TypeId} {x : Operand} (ho : o.op = .binOp op t x (.const (.slice none 0 0)) yt) (ht : P.underlying t = some (.slice e)) (hop : op = .eql ∨ op = .neq)
  {b : Bool} (hx : (b = true ∧ st.ev x = .a (.c (.v (.slice none 0 0)))) ∨ (b = false ∧ ∃ id off n k, st.ev x = .a (.c (.w id off n k)))) (h : K (st.put o.dst (.b (if op = .eql then b else !b)))) : Stp P o st K := by
 intro M0 w0 a w N Q hR hN
 obtain ⟨g, hpp, hR⟩ := hR
 have hv := hR.ev x
 obtain ⟨A, n, c, hv, hA⟩ : ∃ A n c, a.eval x = .slice A n c ∧ A.isNone = b := by
  rcases hx with ⟨rfl, hx⟩ | ⟨rfl, id, off, n, k, hx⟩
  ·rw [hx] at hv; exact ⟨_, _, _, hv, rfl⟩
  ·rw [hx] at hv; obtain ⟨_, _, _, hv⟩ := hv; exact ⟨_, _, _, hv, rfl⟩
 have q1 := Lib.run_eql_slice_nil (P := P) w t e A n c 0 0 ht
 have q2 := Go.run_neq_slice_nil (P := P) w t e A n c ht
 have hrun : (execOp a.eval o).run P w = .ok (.value (.bool (if op = .eql then b else !b))) w := by
  unfold execOp
  have hv2 : a.eval (.const (.slice none 0 0)) = .slice none 0 0 := rfl
  subst hA
  rcases hop with rfl | rfl
  ·simp only [ho, hv, hv2, Sem.run_bind, eqGuard, q1]
   simp [q1]
  ·simp only [ho, hv, hv2, Sem.run_bind, eqGuard, q2]
   simp [q2]
 unfold Oper.wp
 rw [hrun]
 exact hN _ _ _ h ⟨g, by cases o.dst <;> exact hpp, hR.put (dok_lt hd) rfl⟩
theorem stp_ap0 (hd : dok o st.n = true) {t : TypeId} {s x : Operand} {y z : Ty} (ho : o.op = .call ⟨.builtin .append, #[s, x], #[t, t]⟩) (hty : tyOf P t = some y) (hk : y.kind = 1) (hz : tyOf P y.elem = some z)
  {b : C} (hs : st.ev s = .a (.c b)) (hb : b = .v (.slice none 0 0) ∨ ∃ id n, b = .s id n) (hx : st.ev x = .a (.c (.v (.slice none 0 0))) ∨ (∃ id, st.ev x = .a (.c (.s id 0))) ∨ ∃ k, 0 < k ∧ st.ev x = .a (.c (.t k [])))
  (h : K (st.put o.dst (.a (.c b)))) : Stp P o st K := by
 intro M0 w0 a w N Q hR hN
 obtain ⟨g, hpp, hR⟩ := hR
 have hvs := hR.ev s
 have hvx := hR.ev x
 rw [hs] at hvs
 obtain ⟨A, n, c, e1, hnc⟩ : ∃ A n c, a.eval s = .slice A n c ∧ n ≤ c := by
  rcases hb with rfl | ⟨id, n, rfl⟩
  ·exact ⟨_, _, _, hvs, Nat.le_refl _⟩
  ·obtain ⟨_, h2, A, h3, _⟩ := hvs; exact ⟨_, _, _, h3, h2⟩
 obtain ⟨B, d, e2⟩ : ∃ B d, a.eval x = .slice B 0 d := by
  rcases hx with hx | ⟨id, hx⟩ | ⟨k, hk0, hx⟩
  ·rw [hx] at hvx; exact ⟨_, _, hvx⟩
  ·rw [hx] at hvx; obtain ⟨_, _, A, h3, _⟩ := hvx; exact ⟨_, _, h3⟩
  ·rw [hx] at hvx
   obtain ⟨A, m, c, h1, h2, _⟩ := Rd.form hvx
   have hvx : Rd _ _ _ _ := hvx
   rw [h1] at hvx
   generalize hm : m = m' at hvx
   cases hvx with
   | e => subst hm; exact ⟨_, _, h1⟩
   | l _ _ _ _ _ _ us hn h0 => exact absurd hn (by have := Nat.mul_pos h0 hk0; simp; omega)
 have hts := tyOf.slice hty hk
 obtain ⟨i, zv, hi, hzv, _, _, _⟩ := tyOf.info hz
 have hrun : (execOp a.eval o).run P w = .ok (.value (.slice A n c)) w := by
  unfold execOp
  simp only [ho, resolve, invoke, builtin, Sem.run_bind, Sem.run_pure, Result.andThen_ok, List.map_toArray, List.map_cons, List.map_nil, e1, e2]
  cases A <;> cases B <;> simp [Builtin.append_, run_underlying hts, sizeOf, typeInfo, hi, Builtin.lenOf, Builtin.firstCells, hnc, loadCells, loadCellsFrom, storeCells]
 unfold Oper.wp
 rw [hrun]
 refine hN _ _ _ h ⟨g, by cases o.dst <;> exact hpp, hR.put (dok_lt hd) ?_⟩
 rw [← e1]; exact hvs
theorem stp_callAll {fop : Operand} {args : Array Operand} {ts : Array TypeId} {f : FuncId} {ids : List Nat} {R : AV → List Ob → Prop}
  (hd : dok o st.n = true) (ho : o.op = .call { callee := .value fop, args := args, argTypes := ts }) (hf : st.ev fop = .a (.c (.f f ids))) (hcal : callable P f = true)
  (hFC : FC P f (args.toList.map st.ev ++ clos ids) st.hp R)
  (hb : ∀ r outs, R r outs → ∀ (i : Nat) (o : Ob), outs[i]? = some o → okOb o = true)
  (hK : ∀ r outs, R r outs → K ({ st with hp := outs }.put o.dst r)) : Stp P o st K := by
 intro M0 w0 a w N Q hR hN
 obtain ⟨g, ⟨hp1, hp2⟩, hR⟩ := hR
 have hfv := hR.ev fop
 rw [hf] at hfv
 obtain ⟨hids, hfv⟩ := hfv
 have hargs : argsR g st.hp w (args.toList.map st.ev ++ clos ids) ((args.map a.eval).toList ++ ids.map fun id => Value.pointer (some ⟨g.γ (.ob id), 0, none⟩)) := by
  refine ⟨by simp [clos], fun i y hy => ?_⟩
  rcases Nat.lt_or_ge i (args.toList.map st.ev).length with hl | hl
  ·rw [List.getElem?_append_left hl, List.getElem?_map, Option.map_eq_some_iff] at hy
   obtain ⟨q, hq, rfl⟩ := hy
   refine ⟨a.eval q, ?_, hR.ev q⟩
   rw [List.getElem?_append_left (by simpa using hl)]
   simp only [Array.toList_map, List.getElem?_map, hq, Option.map_some]
  ·rw [List.getElem?_append_right hl] at hy
   unfold clos at hy
   rw [List.getElem?_map, Option.map_eq_some_iff] at hy
   obtain ⟨id, hid, rfl⟩ := hy
   refine ⟨.pointer (some ⟨g.γ (.ob id), 0, none⟩), ?_, ⟨hids id (List.mem_of_getElem? hid), rfl⟩⟩
   rw [List.getElem?_append_right (by simpa using hl)]
   simp only [List.length_map, Array.toList_map] at hid ⊢
   rw [List.getElem?_map, hid]; rfl
 have hcall := hFC g w _ hR.hr hargs
 unfold Oper.wp execOp
 simp only [ho, resolve, hfv, clo, Deferred.ofValue, Sem.run_bind, Sem.run_pure, Result.andThen_ok, invoke]
 have e1 : (#[] ++ args.map a.eval ++ (ids.map fun id => Value.pointer (some ⟨g.γ (.ob id), 0, none⟩)).toArray) = ((args.map a.eval).toList ++ ids.map fun id => Value.pointer (some ⟨g.γ (.ob id), 0, none⟩)).toArray := by simp
 rw [e1, run_callFunc_body hcal]
 refine Calls.mono hcall ?_
 rintro e w' ⟨v, r, outs, g', rfl, hr, hHR', ⟨hlen, hext⟩, hnew, hv, hfp⟩
 have hmo : Mo g st.hp w g' outs w' (fun _ => True) := by
  refine ⟨fun id hid => ?_, fun b hb ho => ?_, hfp.size, fun b hb ho => hfp.block b hb (fun ⟨ℓ, hl, e⟩ => ho (.inr ⟨ℓ, hl, e⟩)), fun id _ _ r' j k cs e1 e2 => ?_⟩
  ·obtain ⟨o1, h1, _⟩ := hid
   have hlt : id < st.hp.length := (List.getElem?_eq_some_iff.1 h1).1
   have hlt' : id < outs.length := by omega
   exact ⟨⟨outs[id], List.getElem?_eq_getElem hlt', okOb_born (hb r outs hr id _ (List.getElem?_eq_getElem hlt'))⟩, hext.2 id hlt⟩
  ·rcases ho with ho | ⟨ℓ, hl, e⟩
   ·rw [hext.1] at ho; exact .inl ho
   ·rcases hnew ℓ hl with ⟨ℓ0, h1, h2⟩ | h1
    ·exact .inr ⟨ℓ0, h1, h2.trans e⟩
    ·omega
  ·have := hb r outs hr id _ e1
   have := List.all_eq_true.1 (show r'.cells.all C.pl = true from this) _ (List.mem_of_getElem? e2)
   cases this
 have hback : RelG g' M0.P w0 { st with hp := outs } a w' := by
  refine ⟨hHR', fun ℓ hl => ?_, fun d => AVR.mo hmo (hR.tm d), hR.n, hR.df, ?_⟩
  ·rcases hnew ℓ hl with ⟨ℓ0, h1, h2⟩ | h1
   ·rw [← h2]; exact hR.new ℓ0 h1
   ·exact .inr (Nat.le_trans hR.fp.size h1)
  ·refine ⟨hfp.os.trans hR.fp.os, hfp.tape.trans hR.fp.tape, hfp.output.trans hR.fp.output, Nat.le_trans hR.fp.size hfp.size, fun k hk hMk => ?_, Nat.le_trans hR.fp.drawn hfp.drawn⟩
   rw [← hR.fp.block k hk hMk]
   refine hfp.block k (Nat.lt_of_lt_of_le hk hR.fp.size) (fun ⟨ℓ, hl, e⟩ => ?_)
   rcases hR.new ℓ hl with q | q
   ·exact hMk (e ▸ q)
   ·omega
 have hp3 : st.pin ≤ outs.length := by omega
 exact hN _ _ _ (hK r outs hr) ⟨g', ⟨by cases o.dst <;> exact hp3, by cases o.dst <;> exact hp2.trans (hext.le hp1)⟩, hback.put (dok_lt hd) hv⟩
end
end Go.Proofs.YtglchakimolfdaaDoor
