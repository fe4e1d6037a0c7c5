/- The runner, first part: trees of slots, answers, forced values. -/
import Derived.Test.YtknidjnbfnpkdaaGreatME
namespace Go.Proofs.YtknidjnbfnpkdaaGreat
set_option linter.unusedVariables false
set_option linter.unusedSimpArgs false
open Go.RowKit

/-! trees: slot 0 at the root, odd ones left, even ones right -/
inductive Bt (α : Type) where
  | e
  | n (x : Option α) (l r : Bt α)
/-! the runner's states -/
structure RS where
  tm : Bt AV
  hp : Bt Ob
  hn : Nat
  n : Nat
  pin : Nat
/-! answers -/
inductive Ans where
  | ok
  | bad (l : List Nat)
  | st (rs : RS)
def Ans.and : Ans → (Unit → Ans) → Ans
  | .ok, k => k ()
  | .bad l, _ => .bad l
  | .st _, _ => .bad [5]
theorem Ans.and_ok {x : Ans} {k : Unit → Ans} (h : x.and k = .ok) : x = .ok ∧ k () = .ok := by
  cases x with
  | ok => exact ⟨rfl, h⟩
  | bad l => cases h
  | st rs => cases h

def Bt.get {α : Type} : Bt α → Nat → Option α
  | .e, _ => none
  | .n x l r, i => bif i.beq 0 then x else bif (i % 2).beq 1 then l.get (i / 2) else r.get (i / 2 - 1)
def Bt.set {α : Type} : Nat → Bt α → Nat → α → (Bt α → Ans) → Ans
  | 0, _, _, _, _ => .bad [1]
  | f + 1, .e, i, x, k => bif i.beq 0 then k (.n (some x) .e .e) else bif (i % 2).beq 1 then Bt.set f .e (i / 2) x (fun l => k (.n none l .e)) else Bt.set f .e (i / 2 - 1) x (fun r => k (.n none .e r))
  | f + 1, .n y l r, i, x, k => bif i.beq 0 then k (.n (some x) l r) else bif (i % 2).beq 1 then Bt.set f l (i / 2) x (fun l => k (.n y l r)) else Bt.set f r (i / 2 - 1) x (fun r => k (.n y l r))
theorem beqT (a b : Nat) : a.beq b = decide (a = b) := by
  rw [Bool.eq_iff_iff, decide_eq_true_iff]
  exact Iff.of_eq Nat.beq_eq
theorem bltT (a b : Nat) : a.blt b = decide (a < b) := by
  rw [Bool.eq_iff_iff, decide_eq_true_iff]
  exact Iff.of_eq Nat.blt_eq
theorem Bt.get_n {α : Type} (x : Option α) (l r : Bt α) (i : Nat) : (Bt.n x l r).get i = if i = 0 then x else if i % 2 = 1 then l.get (i / 2) else r.get (i / 2 - 1) := by
  rw [Bt.get]
  simp only [beqT]
  by_cases h0 : i = 0
  · simp [h0]
  · by_cases h1 : i % 2 = 1 <;> simp [h0, h1]
theorem Bt.get_e {α : Type} (i : Nat) : (Bt.e : Bt α).get i = none := rfl
theorem Bt.set_ok {α : Type} : ∀ (f : Nat) (t : Bt α) (i : Nat) (x : α) (k : Bt α → Ans), Bt.set f t i x k = .ok → ∃ t', k t' = .ok ∧ ∀ j, t'.get j = if j = i then some x else t.get j
  | 0, _, _, _, _, h => by cases h
  | f + 1, t, i, x, k, h => by
    have key : ∀ (y : Option α) (l r : Bt α), (∀ j, t.get j = (Bt.n y l r).get j) → (bif i.beq 0 then k (.n (some x) l r) else bif (i % 2).beq 1 then Bt.set f l (i / 2) x (fun l => k (.n y l r)) else Bt.set f r (i / 2 - 1) x (fun r => k (.n y l r))) = .ok → ∃ t', k t' = .ok ∧ ∀ j, t'.get j = if j = i then some x else t.get j := by
      intro y l r ht h
      by_cases h0 : i = 0
      · have : i.beq 0 = true := by simpa [beqT] using h0
        rw [this] at h
        refine ⟨_, h, fun j => ?_⟩
        rw [ht, Bt.get_n, Bt.get_n]
        subst h0
        split <;> rfl
      · have : i.beq 0 = false := by simpa [beqT] using h0
        rw [this] at h
        simp only [cond_false] at h
        by_cases h1 : i % 2 = 1
        · have : (i % 2).beq 1 = true := by simpa [beqT] using h1
          rw [this] at h
          obtain ⟨l', k1, k2⟩ := Bt.set_ok f l (i / 2) x _ h
          refine ⟨_, k1, fun j => ?_⟩
          rw [ht, Bt.get_n, Bt.get_n, k2]
          by_cases j0 : j = 0
          · subst j0; simp [Ne.symm h0]
          · rw [if_neg j0, if_neg j0]
            by_cases j1 : j % 2 = 1
            · rw [if_pos j1, if_pos j1]
              by_cases e : j = i
              · subst e; simp
              · rw [if_neg e, if_neg (by omega)]
            · rw [if_neg j1, if_neg j1, if_neg (by rintro rfl; exact j1 h1)]
        · have : (i % 2).beq 1 = false := by simpa [beqT] using h1
          rw [this] at h
          obtain ⟨l', k1, k2⟩ := Bt.set_ok f r (i / 2 - 1) x _ h
          refine ⟨_, k1, fun j => ?_⟩
          rw [ht, Bt.get_n, Bt.get_n, k2]
          by_cases j0 : j = 0
          · subst j0; simp [Ne.symm h0]
          · rw [if_neg j0, if_neg j0]
            by_cases j1 : j % 2 = 1
            · rw [if_pos j1, if_pos j1, if_neg (by rintro rfl; exact h1 j1)]
            · rw [if_neg j1, if_neg j1]
              by_cases e : j = i
              · subst e; simp
              · rw [if_neg e, if_neg (by omega)]
    cases t with
    | e => exact key none .e .e (fun j => by rw [Bt.get_n]; simp [Bt.get_e]) h
    | n y l r => exact key y l r (fun _ => rfl) h

/-! forced values -/
def fN (n : Nat) (k : Nat → Ans) : Ans :=
  match n with
  | 0 => k 0
  | m + 1 => k (Nat.succ m)
theorem fN_eq (n : Nat) (k : Nat → Ans) : fN n k = k n := by cases n <;> rfl
def fI (n : Int) (k : Int → Ans) : Ans :=
  match n with
  | .ofNat n => fN n fun n => k (.ofNat n)
  | .negSucc n => fN n fun n => k (.negSucc n)
theorem fI_eq (n : Int) (k : Int → Ans) : fI n k = k n := by cases n <;> simp [fI, fN_eq]
def fB (b : Bool) (k : Bool → Ans) : Ans :=
  match b with
  | true => k true
  | false => k false
theorem fB_eq (b : Bool) (k : Bool → Ans) : fB b k = k b := by cases b <;> rfl
def fV (v : Value) (k : Value → Ans) : Ans :=
  match v with
  | .int t n => fI n fun n => k (.int t n)
  | .bool b => fB b fun b => k (.bool b)
  | v => k v
theorem fV_eq (v : Value) (k : Value → Ans) : fV v k = k v := by cases v <;> simp [fV, fI_eq, fB_eq]
def fL (l : List Nat) (k : List Nat → Ans) : Ans :=
  match l with
  | [] => k []
  | n :: r => fN n fun n => fL r fun r => k (n :: r)
theorem fL_eq (l : List Nat) (k : List Nat → Ans) : fL l k = k l := by
  induction l generalizing k with
  | nil => rfl
  | cons n r ih => simp only [fL, fN_eq, ih]
def fC (c : C) (k : C → Ans) : Ans :=
  match c with
  | .v v => fV v fun v => k (.v v)
  | .s id n => fN id fun id => fN n fun n => k (.s id n)
  | .p id off => fN id fun id => fN off fun off => k (.p id off)
  | .m id => fN id fun id => k (.m id)
  | .w id off n z => fN id fun id => fN off fun off => fN n fun n => fN z fun z => k (.w id off n z)
  | .f fn ids => fN fn fun fn => fL ids fun ids => k (.f fn ids)
  | c => k c
theorem fC_eq (c : C) (k : C → Ans) : fC c k = k c := by cases c <;> simp [fC, fN_eq, fV_eq, fL_eq]
def fCs (l : List C) (k : List C → Ans) : Ans :=
  match l with
  | [] => k []
  | c :: r => fC c fun c => fCs r fun r => k (c :: r)
theorem fCs_eq (l : List C) (k : List C → Ans) : fCs l k = k l := by
  induction l generalizing k with
  | nil => rfl
  | cons n r ih => simp only [fCs, fC_eq, ih]
def fA (x : A0) (k : A0 → Ans) : Ans :=
  match x with
  | .c c => fC c fun c => k (.c c)
  | .g l => fCs l fun l => k (.g l)
theorem fA_eq (x : A0) (k : A0 → Ans) : fA x k = k x := by cases x <;> simp [fA, fC_eq, fCs_eq]
def fAs (l : List A0) (k : List A0 → Ans) : Ans :=
  match l with
  | [] => k []
  | c :: r => fA c fun c => fAs r fun r => k (c :: r)
theorem fAs_eq (l : List A0) (k : List A0 → Ans) : fAs l k = k l := by
  induction l generalizing k with
  | nil => rfl
  | cons n r ih => simp only [fAs, fA_eq, ih]
def fAV (x : AV) (k : AV → Ans) : Ans :=
  match x with
  | .a x => fA x fun x => k (.a x)
  | .tup l => fAs l fun l => k (.tup l)
theorem fAV_eq (x : AV) (k : AV → Ans) : fAV x k = k x := by cases x <;> simp [fAV, fA_eq, fAs_eq]
def fKV (l : List (Value × C)) (k : List (Value × C) → Ans) : Ans :=
  match l with
  | [] => k []
  | (a, c) :: r => fV a fun a => fC c fun c => fKV r fun r => k ((a, c) :: r)
theorem fKV_eq (l : List (Value × C)) (k : List (Value × C) → Ans) : fKV l k = k l := by
  induction l generalizing k with
  | nil => rfl
  | cons n r ih => simp only [fKV, fV_eq, fC_eq, ih]
def fO (o : Ob) (k : Ob → Ans) : Ans :=
  match o with
  | .r ⟨e, z, sl, cs⟩ => fN z fun z => fB sl fun sl => fCs cs fun cs => k (.r ⟨e, z, sl, cs⟩)
  | .m kv => fKV kv fun kv => k (.m kv)
  | o => k o
theorem fO_eq (o : Ob) (k : Ob → Ans) : fO o k = k o := by
  cases o with
  | r q => simp [fO, fN_eq, fB_eq, fCs_eq]
  | m kv => simp [fO, fKV_eq]
  | _ => rfl

def okOb : Ob → Bool
  | .r q => q.cells.all C.pl
  | .m kv => kv.all fun p => p.2.pl
  | .d => true
  | .x => false
theorem okOb_born {o : Ob} (h : okOb o = true) : o.born = true := by cases o <;> first | rfl | cases h
def RR (rs : RS) (st : ST) : Prop :=
  (∀ d, st.get d = (rs.tm.get d).getD .u) ∧ (∀ i, st.hp[i]? = rs.hp.get i) ∧ st.hp.length = rs.hn ∧ st.n = rs.n ∧ st.pin = rs.pin ∧ ∀ i o, rs.hp.get i = some o → okOb o = true
def RS.ev (rs : RS) : Operand → AV
  | .tmp t => (rs.tm.get t).getD .u
  | .const v => .a (.c (.v v))
  | .global n => globA n
  | .func f => .a (.c (.f f []))
theorem RR.ev {rs : RS} {st : ST} (h : RR rs st) : st.ev = rs.ev := by
  funext x
  cases x <;> first | exact h.1 _ | rfl
def RS.put (rs : RS) (d : Option Nat) (x : AV) (k : RS → Ans) : Ans :=
  match d with
  | none => k rs
  | some d => match rs with
    | ⟨tm, hp, hn, n, pin⟩ => bif Nat.blt d n then fAV x fun x => Bt.set 30 tm d x fun tm => k ⟨tm, hp, hn, n, pin⟩ else .bad [2]
theorem RS.put_ok {rs : RS} {st : ST} (hR : RR rs st) {d : Option Nat} {x : AV} {k : RS → Ans} (h : rs.put d x k = .ok) : (∀ e, d = some e → e < st.n) ∧ ∃ rs', k rs' = .ok ∧ RR rs' (st.put d x) := by
  obtain ⟨tm, hp, hn, n, pin⟩ := rs
  cases d with
  | none => exact ⟨by simp, _, h, hR⟩
  | some d =>
    simp only [RS.put] at h
    cases hb : Nat.blt d n with
    | false => rw [hb] at h; cases h
    | true =>
      rw [hb] at h
      simp only [cond_true, fAV_eq] at h
      obtain ⟨tm', h1, h2⟩ := Bt.set_ok _ _ _ _ _ h
      have hlt : d < n := by simpa [bltT] using hb
      refine ⟨fun e he => by cases he; rw [hR.2.2.2.1]; exact hlt, _, h1, fun e => ?_, hR.2.1, hR.2.2.1, hR.2.2.2.1, hR.2.2.2.2.1, hR.2.2.2.2.2⟩
      show look ((d, x) :: st.tm) e = (tm'.get e).getD .u
      rw [h2]
      simp only [look]
      split
      · rfl
      · exact hR.1 e
def RS.push (rs : RS) (o : Ob) (k : RS → Ans) : Ans :=
  match rs with
  | ⟨tm, hp, hn, n, pin⟩ => fO o fun o => bif okOb o then Bt.set 30 hp hn o fun hp => fN (hn + 1) fun hn => k ⟨tm, hp, hn, n, pin⟩ else .bad [3]
theorem RS.push_ok {rs : RS} {st : ST} (hR : RR rs st) {o : Ob} {k : RS → Ans} (h : rs.push o k = .ok) : ∃ rs', k rs' = .ok ∧ RR rs' { st with hp := st.hp ++ [o] } := by
  obtain ⟨tm, hp, hn, n, pin⟩ := rs
  obtain ⟨r1, r2, r3, r4, r5, r6⟩ := hR
  simp only [RS.push, fO_eq, fN_eq] at h
  cases hb : okOb o with
  | false => rw [hb] at h; cases h
  | true =>
    rw [hb] at h
    obtain ⟨hp', h1, h2⟩ := Bt.set_ok _ _ _ _ _ h
    refine ⟨_, h1, r1, fun i => ?_, by simpa using r3, r4, r5, fun i ob hx => ?_⟩
    · show (st.hp ++ [o])[i]? = hp'.get i
      rw [h2]
      by_cases e : i = hn
      · subst e; simp only at r3; subst r3; simp
      · rw [if_neg e, push_ne _ _ (by simp only at r3; rw [r3]; exact e)]; exact r2 i
    · simp only [h2] at hx
      split at hx
      · cases hx; exact hb
      · exact r6 i ob hx
def RS.upd (rs : RS) (id : Nat) (o : Ob) (k : RS → Ans) : Ans :=
  match rs with
  | ⟨tm, hp, hn, n, pin⟩ => fO o fun o => bif okOb o then bif Nat.blt id hn then Bt.set 30 hp id o fun hp => k ⟨tm, hp, hn, n, pin⟩ else .bad [4] else .bad [5]
theorem RS.upd_ok {rs : RS} {st : ST} (hR : RR rs st) {id : Nat} {o : Ob} {k : RS → Ans} (h : rs.upd id o k = .ok) : ∃ rs', k rs' = .ok ∧ RR rs' { st with hp := st.hp.set id o } := by
  obtain ⟨tm, hp, hn, n, pin⟩ := rs
  obtain ⟨r1, r2, r3, r4, r5, r6⟩ := hR
  simp only [RS.upd, fO_eq] at h
  cases hb : okOb o with
  | false => rw [hb] at h; cases h
  | true =>
    rw [hb] at h
    simp only [cond_true] at h
    cases hl : Nat.blt id hn with
    | false => rw [hl] at h; cases h
    | true =>
      rw [hl] at h
      have hlt : id < hn := by simpa [bltT] using hl
      obtain ⟨hp', h1, h2⟩ := Bt.set_ok _ _ _ _ _ h
      refine ⟨_, h1, r1, fun i => ?_, by simpa using r3, r4, r5, fun i ob hx => ?_⟩
      · show (st.hp.set id o)[i]? = hp'.get i
        simp only at r3
        rw [h2, List.getElem?_set]
        by_cases e : i = id
        · subst e; simp [r3, hlt]
        · rw [if_neg e, if_neg (fun h => e h.symm)]; exact r2 i
      · simp only [h2] at hx
        split at hx
        · cases hx; exact hb
        · exact r6 i ob hx
end Go.Proofs.YtknidjnbfnpkdaaGreat
