/- The runner, first part: trees of slots, answers, forced values. -/
import Derived.Test.YthlckclbjknldaaME
namespace Go.Proofs.Ythlckclbjknldaa
set_option linter.unusedVariables false
set_option linter.unusedSimpArgs false
open Go.RowKit

/-! trees: slot 0 at the root, odd ones left, even ones right -/
inductive Bt (α : Type) where
 | e
 | n (x : Option α) (l r : Bt α)
/-! the runner's states -/
structure RS where
 tm : Bt AV
 hp : Bt Ob
 hn : Nat
 n : Nat
 pin : Nat
/-! answers -/
inductive Ans where
 | ok
 | bad (l : List Nat)
 | st (rs : RS)
def Ans.and : Ans → (Unit → Ans) → Ans
 | .ok, k => k ()
 | .bad l, _ => .bad l
 | .st _, _ => .bad [5]
def Bt.get {α : Type} : Bt α → Nat → Option α
 | .e, _ => none
 | .n x l r, i => bif i.beq 0 then x else bif (i % 2).beq 1 then l.get (i / 2) else r.get (i / 2 - 1)
def Bt.set {α : Type} : Nat → Bt α → Nat → α → (Bt α → Ans) → Ans
 | 0, _, _, _, _ => .bad [1]
 | f + 1, .e, i, x, k => bif i.beq 0 then k (.n (some x) .e .e) else bif (i % 2).beq 1 then Bt.set f .e (i / 2) x (fun l => k (.n none l .e)) else Bt.set f .e (i / 2 - 1) x (fun r => k (.n none .e r))
 | f + 1, .n y l r, i, x, k => bif i.beq 0 then k (.n (some x) l r) else bif (i % 2).beq 1 then Bt.set f l (i / 2) x (fun l => k (.n y l r)) else Bt.set f r (i / 2 - 1) x (fun r => k (.n y l r))
theorem beqT (a b : Nat) : a.beq b = decide (a = b) := by
 rw [Bool.eq_iff_iff, decide_eq_true_iff]
 exact Iff.of_eq Nat.beq_eq
/-! forced values -/
def fN (n : Nat) (k : Nat → Ans) : Ans :=
 match n with
 | 0 => k 0
 | m + 1 => k (Nat.succ m)
def fI (n : Int) (k : Int → Ans) : Ans :=
 match n with
 | .ofNat n => fN n fun n => k (.ofNat n)
 | .negSucc n => fN n fun n => k (.negSucc n)
def fB (b : Bool) (k : Bool → Ans) : Ans :=
 match b with
 | true => k true
 | false => k false
def fV (v : Value) (k : Value → Ans) : Ans :=
 match v with
 | .int t n => fI n fun n => k (.int t n)
 | .bool b => fB b fun b => k (.bool b)
 | v => k v
def fL (l : List Nat) (k : List Nat → Ans) : Ans :=
 match l with
 | [] => k []
 | n :: r => fN n fun n => fL r fun r => k (n :: r)
def fC (c : C) (k : C → Ans) : Ans :=
 match c with
 | .v v => fV v fun v => k (.v v)
 | .s id n => fN id fun id => fN n fun n => k (.s id n)
 | .p id off => fN id fun id => fN off fun off => k (.p id off)
 | .m id => fN id fun id => k (.m id)
 | .w id off n z => fN id fun id => fN off fun off => fN n fun n => fN z fun z => k (.w id off n z)
 | .f fn ids => fN fn fun fn => fL ids fun ids => k (.f fn ids)
 | c => k c
def fCs (l : List C) (k : List C → Ans) : Ans :=
 match l with
 | [] => k []
 | c :: r => fC c fun c => fCs r fun r => k (c :: r)
def fA (x : A0) (k : A0 → Ans) : Ans :=
 match x with
 | .c c => fC c fun c => k (.c c)
 | .g l => fCs l fun l => k (.g l)
def fAs (l : List A0) (k : List A0 → Ans) : Ans :=
 match l with
 | [] => k []
 | c :: r => fA c fun c => fAs r fun r => k (c :: r)
def fAV (x : AV) (k : AV → Ans) : Ans :=
 match x with
 | .a x => fA x fun x => k (.a x)
 | .tup l => fAs l fun l => k (.tup l)
def fKV (l : List (Value × C)) (k : List (Value × C) → Ans) : Ans :=
 match l with
 | [] => k []
 | (a, c) :: r => fV a fun a => fC c fun c => fKV r fun r => k ((a, c) :: r)
def fO (o : Ob) (k : Ob → Ans) : Ans :=
 match o with
 | .r ⟨e, z, sl, cs⟩ => fN z fun z => fB sl fun sl => fCs cs fun cs => k (.r ⟨e, z, sl, cs⟩)
 | .m kv => fKV kv fun kv => k (.m kv)
 | o => k o
def okOb : Ob → Bool
 | .r q => q.cells.all C.pl
 | .m kv => kv.all fun p => p.2.pl
 | .d => true
 | .x => false
def RR (rs : RS) (st : ST) : Prop :=
 (∀ d, st.get d = (rs.tm.get d).getD .u) ∧ (∀ i, st.hp[i]? = rs.hp.get i) ∧ st.hp.length = rs.hn ∧ st.n = rs.n ∧ st.pin = rs.pin ∧ ∀ i o, rs.hp.get i = some o → okOb o = true
def RS.ev (rs : RS) : Operand → AV
 | .tmp t => (rs.tm.get t).getD .u
 | .const v => .a (.c (.v v))
 | .global n => globA n
 | .func f => .a (.c (.f f []))
theorem RR.ev {rs : RS} {st : ST} (h : RR rs st) : st.ev = rs.ev := by
 funext x
 cases x <;> first | exact h.1 _ | rfl
def RS.put (rs : RS) (d : Option Nat) (x : AV) (k : RS → Ans) : Ans :=
 match d with
 | none => k rs
 | some d => match rs with
  | ⟨tm, hp, hn, n, pin⟩ => bif Nat.blt d n then fAV x fun x => Bt.set 30 tm d x fun tm => k ⟨tm, hp, hn, n, pin⟩ else .bad [2]
def RS.push (rs : RS) (o : Ob) (k : RS → Ans) : Ans :=
 match rs with
 | ⟨tm, hp, hn, n, pin⟩ => fO o fun o => bif okOb o then Bt.set 30 hp hn o fun hp => fN (hn + 1) fun hn => k ⟨tm, hp, hn, n, pin⟩ else .bad [3]
def RS.upd (rs : RS) (id : Nat) (o : Ob) (k : RS → Ans) : Ans :=
 match rs with
 | ⟨tm, hp, hn, n, pin⟩ => fO o fun o => bif okOb o then bif Nat.blt id hn then Bt.set 30 hp id o fun hp => k ⟨tm, hp, hn, n, pin⟩ else .bad [4] else .bad [5]
end Go.Proofs.Ythlckclbjknldaa
