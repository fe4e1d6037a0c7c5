/- Lemmas. -/
import Derived.Test.YthnkailnoobdoaaGreatDoorMF
import Derived.Test.YthnkailnoobdoaaGreatDoorMfl
import Derived.Test.YthnkailnoobdoaaGreatDoorZk
import Derived.Test.YthnkailnoobdoaaGreatDoorShlf
namespace Go.Proofs.YthnkailnoobdoaaGreatDoor
set_option linter.unusedVariables false
set_option linter.unusedSimpArgs false
open Go.RowKit
set_option maxRecDepth 100000

theorem Tw : UU Tryz.prog 40 2 := UA Tryz.underlying40 (by kernel_rfl) (by kernel_rfl) (by decide) (by decide) rfl rfl (by kernel_rfl) (by kernel_rfl)
theorem Rk (x y : Operand) (a b c d : Int) : GH Tryz.prog .eql 40 x y [.int .i64 a, .int .i64 b] [.int .i64 c, .int .i64 d] (a == c && b == d) = True := by
 refine eq_true ?_
 have := (Tw x y [.v (.int .i64 a), .v (.int .i64 b)] [.v (.int .i64 c), .v (.int .i64 d)] _ _ rfl rfl rfl rfl).1
 simpa [Vn] using this
theorem Ef {a b : Ar} : (a.1 == b.1 && a.2 == b.2) = decide (a = b) := by
 obtain ⟨a1, a2⟩ := a
 obtain ⟨b1, b2⟩ := b
 simp [Prod.ext_iff, Bool.beq_eq_decide_eq]
theorem MQ (x y : Operand) (a b : Ar) : GH Tryz.prog .eql 40 x y [.int .i64 a.1, .int .i64 a.2] [.int .i64 b.1, .int .i64 b.2] (decide (a = b)) = True := by
 rw [<- Ef]; exact Rk x y _ _ _ _
theorem Al (n : Nat) : n * 2 / 2 = n := by omega
attribute [local go_sem] lga C.pl C.one
def GF (x : Int) (l : List Int) : Int := l.foldl (fun a b => if b < a then b else a) x
theorem Rl (l : List Int) : ∀ x : Int, GF x l <= x /\ ∀ y ∈ l, GF x l <= y := by
 induction l with
 | nil => intro x; exact ⟨Int.le_refl _, by simp⟩
 | cons a r ih =>
  intro x
  have e : GF x (a :: r) = GF (if a < x then a else x) r := rfl
  obtain ⟨h1, h2⟩ := ih (if a < x then a else x)
  rw [e]
  have h3 : (if a < x then a else x) <= x /\ (if a < x then a else x) <= a := by split <;> omega
  refine ⟨Int.le_trans h1 h3.1, fun y hy => ?_⟩
  rcases List.mem_cons.1 hy with rfl | h
  ·exact Int.le_trans h1 h3.2
  exact h2 y h
theorem Pa (l : List Int) : ∀ x : Int, GF x l = x \/ GF x l ∈ l := by
 induction l with
 | nil => intro x; exact .inl rfl
 | cons a r ih =>
  intro x
  have e : GF x (a :: r) = GF (if a < x then a else x) r := rfl
  rw [e]
  rcases ih (if a < x then a else x) with h | h
  rotate_left
  ·exact .inr (gEf _ h)
  rw [h]; split
  ·exact .inr (List.mem_cons_self)
  exact .inl rfl
theorem Hu {O : List Int} {off k : Nat} (h : off + k < O.length) : (O.drop off).take (k + 1) = (O.drop off).take k ++ [O[off + k]] := by
 have h1 : k < (O.drop off).length := by simp; omega
 rw [gE8 h1, List.getElem_drop]
theorem MR (x : Int) (l : List Int) (y : Int) : GF x (l ++ [y]) = if y < GF x l then y else GF x l := by unfold GF; rw [List.foldl_append]; rfl

theorem Rm (O : List Int) (off n : Nat) (hn : 0 < n) (hO : off + n <= O.length) (hb : off + n <= 140737488355328) : FC Tryz.prog 86 [.a (.c (.w 0 off n 1))] [Aw O] (fun r o => o = [Aw O] /\ r = .i (GF O[off] ((O.drop off).take n))) := by
 refine A9 Tryz.func86 rfl (by rw [Tryz.ntmps86]; simp) ?_
 rw [Tryz.ntmps86]
 simp only [Bz, Aw]
 have d0 : decide ((n : Int) < 1) = false := by simp; omega
 have h0 : off < O.length := by omega
 have g0 : (A7 O)[off]? = some (.v (.int .i64 O[off])) := Ax (gE1 h0)
 (refine Wf @d0 ?_;(repeat clear hK K);repeat refine kq fun K hK=>?_)
 refine Wm ?_
 (refine Wf (an @g0 (an @Int.toNat_zero @Nat.add_zero)) ?_;(repeat clear hK K);repeat refine kq fun K hK=>?_)
 refine A6 (fun k : Nat => { tm := [(0, .a (.c (.w 0 off n 1))), (3, .i (GF O[off] ((O.drop off).take k))), (4, .i k)], hp := [.r ⟨3, 1, true, A7 O⟩], n := 25, pin := 1 }) (fun k => 1 <= k /\ k <= n) (fun k => n - k) 1 ?_ ?_ ?_
 ·omega
 ·have e : (O.drop off).take 1 = [O[off]] := by
   have := Hu (O := O) (off := off) (k := 0) (by omega)
   simpa using this
  have e2 : GF O[off] [O[off]] = O[off] := by simp [GF]
  (refine BP ?_; simp only [Dq, go_sem, e, e2]; try simp)
 rintro k ⟨hk1, hk⟩ K hK
 by_cases hlt : k < n
 rotate_left
 ·have d1 : decide ((k : Int) < (n : Int)) = false := by simpa using hlt
  have hke : k = n := by omega
  subst hke
  (refine Wf @d1 ?_;(repeat clear hK K);repeat refine kq fun K hK=>?_)
  refine Wm ?_
  (refine Wi ?_;repeat clear hK K)
  (refine We ?_;(repeat clear hK K);repeat refine kq fun K hK=>?_)
  exact Uq [0] Tryz.results86 @Ak
 have d1 : decide ((k : Int) < (n : Int)) = true := by simpa using hlt
 have g1 : (A7 O)[off + k]? = some (.v (.int .i64 O[off + k])) := Ax (gE1 (by omega))
 (refine Wf @d1 ?_;(repeat clear hK K);repeat refine kq fun K hK=>?_)
 refine Wl ?_
 (refine Wf @g1 ?_;(repeat clear hK K);repeat refine kq fun K hK=>?_)
 refine Wn ?_
 refine hK _ (k + 1) ⟨by omega, by omega⟩ (by omega) ?_
 have e := Hu (O := O) (off := off) (k := k) (by omega)
 (refine BP ?_; simp only [Dq, go_sem, e, MR]; try simp)

def Eg (W : List Int) (l : List Int) (x : Int) : List Int := l.foldl (fun w u => w.set u.toNat x) W
theorem Ge (l : List Int) (x : Int) : ∀ W, (Eg W l x).length = W.length := by
 induction l with
 | nil => intro W; rfl
 | cons a r ih => intro W; show (Eg (W.set a.toNat x) r x).length = _; rw [ih, List.length_set]
theorem LF (W l : List Int) (x y : Int) : Eg W (l ++ [y]) x = (Eg W l x).set y.toNat x := by unfold Eg; rw [List.foldl_append]; rfl
theorem MS (l : List Int) (x : Int) : ∀ (W : List Int) (i : Nat), i < W.length -> (∀ a ∈ l, 0 <= a) -> (Eg W l x)[i]? = if (i : Int) ∈ l then some x else W[i]? := by
 induction l with
 | nil => intro W i _ _; simp [Eg]
 | cons a r ih =>
  intro W i hi h0
  show (Eg (W.set a.toNat x) r x)[i]? = _
  rw [ih _ _ (by rw [List.length_set]; exact hi) (fun b hb => h0 b (gEf _ hb))]
  have ha := h0 a List.mem_cons_self
  by_cases h1 : (i : Int) ∈ r
  ·rw [if_pos h1, if_pos (gEf _ h1)]
  rw [if_neg h1]
  by_cases h2 : (i : Int) = a
  rotate_left
  ·rw [if_neg (by rw [List.mem_cons]; rintro (h | h) <;> contradiction), gE5 (by omega)]
  rw [if_pos (by rw [h2]; exact List.mem_cons_self)]
  have : a.toNat = i := by omega
  rw [this, gEc hi]
theorem B3 (L : List Int) (i : Nat) (x : Int) : (A7 L).set i (.v (.int .i64 x)) = A7 (L.set i x) := by simp [A7, List.map_set]

theorem Pb (O W : List Int) (m k : Nat) (s : Int) (hk : k < m) (hm : m <= O.length) (hs : O[k]? = some s) (hu : ∀ j, k < j -> j < m -> O[j]? ≠ some s) (hW : ∀ j x, k <= j -> j < m -> O[j]? = some x -> 0 <= x /\ x < W.length) (hb : m <= 140737488355328) (hb2 : W.length <= 140737488355328) :
  FC Tryz.prog 63 [.a (.c (.s 0 m)), .i s, .a (.c (.s 1 W.length))] [Aw O, Aw W] (fun r o => o = [Aw O, Aw (Eg W ((O.drop k).take (m - k)) (GF s ((O.drop k).take (m - k))))] /\ r = .a (.c (.s 0 k))) := by
 refine A9 Tryz.func63 rfl (by rw [Tryz.ntmps63]; simp) ?_
 rw [Tryz.ntmps63]
 simp only [Bz, Aw]
 have e0 : (m : Int) - 1 = ((m - 1 : Nat) : Int) := by omega
 (refine Wf (an @A5 @e0) ?_;(repeat clear hK K);repeat refine kq fun K hK=>?_)
 refine A6 (fun j : Nat => { tm := [(0, .a (.c (.s 0 m))), (1, .i s), (2, .a (.c (.s 1 W.length))), (7, .i j)], hp := [.r ⟨3, 1, true, A7 O⟩, .r ⟨3, 1, true, A7 W⟩], n := 42, pin := 2 }) (fun j => k <= j /\ j < m) (fun j => j) (m - 1) ?_ ?_ ?_
 ·omega
 ·exact Wo
 rintro j ⟨hj1, hj2⟩ K hK
 have g1 : (A7 O)[j]? = some (.v (.int .i64 O[j])) := Ax (gE1 (by omega))
 by_cases hjk : k < j
 ·have d1 : (O[j] != s) = true := by
   have := hu j hjk hj2
   rw [gE1 (by omega)] at this
   simpa using this
  have e1 : (j : Int) - 1 = ((j - 1 : Nat) : Int) := by omega
  (refine Wf (an @g1 (an @d1 @A5)) ?_;(repeat clear hK K);repeat refine kq fun K hK=>?_)
  refine Wl ?_
  (refine Wf @e1 ?_;(repeat clear hK K);repeat refine kq fun K hK=>?_)
  refine Wn ?_
  refine hK _ (j - 1) ⟨by omega, by omega⟩ (by omega) ?_
  exact Wo
 have hje : j = k := by omega
 subst hje
 have hOs : O[j] = s := by rw [gE1 (by omega)] at hs; cases hs; rfl
 have d1 : (O[j] != s) = false := by simp [hOs]
 (refine Wf (an @g1 (an @d1 @A5)) ?_;(repeat clear hK K);repeat refine kq fun K hK=>?_)
 refine Wm ?_
 (refine Wi ?_;repeat clear hK K)
 (refine Wf @A5 ?_;(repeat clear hK K);repeat refine kq fun K hK=>?_)
 (refine Ad rfl ?_; intro K1 hK1; refine AX (ids := []) [0] (Rm O j (m - j) (by omega) (by omega) (by omega)) rfl rfl (by simp only [go_sem]) (by first | assumption | kernel_rfl) rfl rfl (by (simp only [List.map_append, List.append_nil, go_sem]) <;> rfl) (by (simp only [VC, Aw, Ak, go_sem]) <;> rfl) ?_ ?_)
 ·rintro _ _ ⟨rfl, rfl⟩; rfl
 rintro _ _ ⟨rfl, rfl⟩
 (simp only [Aq, Bc, Aw, CT, List.append_nil, List.nil_append, List.length_map, go_sem]; refine hK1 _ ?_; clear hK1 K1)
 generalize hM : GF O[j] ((O.drop j).take (m - j)) = M
 (refine Wf @A5 ?_;(repeat clear hK K);repeat refine kq fun K hK=>?_)
 refine A6 (fun i : Nat => { tm := [(0, .a (.c (.s 0 m))), (2, .a (.c (.s 1 W.length))), (7, .i j), (8, .i M), (28, .a (.c (.w 0 j (m - j) 1))), (29, .i ((m - j : Nat) : Int)), (30, .i i)], hp := [.r ⟨3, 1, true, A7 O⟩, .r ⟨3, 1, true, A7 (Eg W ((O.drop j).take i) M)⟩], n := 42, pin := 2 }) (fun i => i <= m - j) (fun i => m - j - i) 0 ?_ ?_ ?_
 ·omega
 ·(refine BP ?_; simp only [Dq, go_sem, Eg, List.foldl_nil]; try simp)
 rintro i hi K hK
 by_cases hlt : i < m - j
 rotate_left
 ·have d2 : decide ((i : Int) < ((m - j : Nat) : Int)) = false := by simp; omega
  have hie : i = m - j := by omega
  subst hie
  (refine Wf @d2 ?_;(repeat clear hK K);repeat refine kq fun K hK=>?_)
  refine Wm ?_
  (refine Wi ?_;repeat clear hK K)
  (refine Wf @A5 ?_;(repeat clear hK K);repeat refine kq fun K hK=>?_)
  refine Wq [0, 1] Tryz.results63 @Ak ?_
  rw [<- hOs, hM]
 have d2 : decide ((i : Int) < ((m - j : Nat) : Int)) = true := by simp; omega
 have g2 : (A7 O)[j + i]? = some (.v (.int .i64 O[j + i])) := Ax (gE1 (by omega))
 have hx := hW (j + i) _ (by omega) (by omega) (gE1 (by omega))
 have e := Hu (O := O) (off := j) (k := i) (by omega)
 have hl := Ge ((O.drop j).take i) M W
 (refine Wf @d2 ?_;(repeat clear hK K);repeat refine kq fun K hK=>?_)
 refine Wl ?_
 (refine Cr (an @g2 (an @A5 (an @hl @B3))) ?_;(repeat clear hK K);repeat refine kq fun K hK=>?_)
 refine Wn ?_
 refine hK _ (i + 1) (by omega) (by omega) ?_
 simp only [e, LF]
 exact Wo

theorem E5 {α : Type} (p : α -> Bool) (l : List α) (k : Nat) (h1 : ∀ j x, j < k -> l[j]? = some x -> p x = true) (h2 : ∀ x, l[k]? = some x -> p x = false) : l.takeWhile p = l.take k := by
 induction l generalizing k with
 | nil => simp
 | cons a r ih =>
  cases k with
  | zero => have := h2 a rfl; simp [List.takeWhile_cons, this]
  | succ k =>
   have := h1 0 a (by omega) rfl
   rw [List.takeWhile_cons, if_pos this, List.take_succ_cons, ih k (fun j x hj hx => h1 (j + 1) x (by omega) hx) (fun x hx => h2 x hx)]
def Ch (t : Bool) (r : List Ar) : List Ar := if t then r.takeWhile fun a => a.1 == 0 else r
theorem Hv (R : List (List Ar)) (s : Nat) (t : Bool) (hs : s < R.length) (hn : R.length <= 140737488355328) (hr : R[s].length <= 140737488355328) : FC Tryz.prog 62 [Bh R, .i s, .b t] [] (fun r o => o = [] /\ r = .a (.c (.t 2 (At (Ch t R[s]))))) := by
 refine A9 Tryz.func62 rfl (by rw [Tryz.ntmps62]; simp) ?_
 rw [Tryz.ntmps62]
 simp only [Bz, Bh]
 have hg := gE1 hs
 cases t with
 | false =>
  (refine Wf (an @A4 (an (Ac hg) @Bool.not_false)) ?_;(repeat clear hK K);repeat refine kq fun K hK=>?_)
  refine Wl ?_
  (refine We ?_;(repeat clear hK K);repeat refine kq fun K hK=>?_)
  refine Wp [] Tryz.results62 ?_
  simp [Ch]
 | true =>
  (refine Wf (an @A4 (an (Ac hg) @Bool.not_true)) ?_;(repeat clear hK K);repeat refine kq fun K hK=>?_)
  refine Wm ?_
  (refine We ?_;(repeat clear hK K);repeat refine kq fun K hK=>?_)
  refine A6 (fun k : Nat => { tm := [(7, .a (.c (.t 2 (At R[s])))), (8, .i k)], hp := [.r ⟨25, 1, false, [.t 1 (Ai R)]⟩], n := 34, pin := 0 }) (fun k => k <= R[s].length /\ ∀ j x, j < k -> R[s][j]? = some x -> (x.1 == 0) = true) (fun k => R[s].length - k) 0 ?_ ?_ ?_
  ·exact ⟨by omega, fun j x h => by omega⟩
  ·exact Wo
  rintro k ⟨hk, he⟩ K hK
  by_cases hlt : k < R[s].length
  rotate_left
  ·have d1 : decide ((k : Int) < (R[s].length : Int)) = false := by simpa using hlt
   (refine Wf (an @d1 (an @A3 @Al)) ?_;(repeat clear hK K);repeat refine kq fun K hK=>?_)
   refine Wm ?_
   (refine Wi ?_;repeat clear hK K)
   have ek := E5 (fun a : Ar => a.1 == 0) R[s] k he (fun x hx => by
    first
     | (rw [gE1 hlt] at hx; cases hx; exact q1)
     | (rw [List.getElem?_eq_none (by omega)] at hx; cases hx))
   (refine Wf (an @A3 (an @Al @Bl)) ?_;(repeat clear hK K);repeat refine kq fun K hK=>?_)
   refine Wp [] Tryz.results62 ?_
   simp only [Ch, if_pos, ek]
  have d1 : decide ((k : Int) < (R[s].length : Int)) = true := by simpa using hlt
  have ha0 := CQ hlt
  cases q1 : (R[s][k].1 == 0) with
  | true =>
   (refine Wf (an @d1 (an @q1 (an @ha0 (an @A3 @Al)))) ?_;(repeat clear hK K);repeat refine kq fun K hK=>?_)
   refine Wl ?_
   (refine We ?_;(repeat clear hK K);repeat refine kq fun K hK=>?_)
   refine Wn ?_
   refine hK _ (k + 1) ⟨by omega, fun j x hj hx => ?_⟩ (by omega) ?_
   rotate_left
   ·exact Wo
   rcases Nat.lt_or_ge j k with h | h
   ·exact he j x h hx
   have : j = k := by omega
   subst this
   rw [gE1 hlt] at hx; cases hx; exact q1
  | false =>
   (refine Wf (an @d1 (an @q1 (an @ha0 (an @A3 @Al)))) ?_;(repeat clear hK K);repeat refine kq fun K hK=>?_)
   refine Wm ?_
   (refine Wi ?_;repeat clear hK K)
   have ek := E5 (fun a : Ar => a.1 == 0) R[s] k he (fun x hx => by
    first
     | (rw [gE1 hlt] at hx; cases hx; exact q1)
     | (rw [List.getElem?_eq_none (by omega)] at hx; cases hx))
   (refine Wf (an @A3 (an @Al @Bl)) ?_;(repeat clear hK K);repeat refine kq fun K hK=>?_)
   refine Wp [] Tryz.results62 ?_
   simp only [Ch, if_pos, ek]
open Go.RowKit Go.Shelf
theorem Tx {P : Program} {f : FuncId} {args : List AV} {vals : List Value} {a b : Value} (ha : ∀ (g : Gh) (w : World) (vs : List Value), GI g [] w args vs -> vs = vals)
  (h : ∀ w, Calls P f vals.toArray w fun e w' => e = .returned (.tuple #[a, b]) /\ Fp (fun _ => False) w w') : FC P f args [] (fun x o => o = [] /\ x = .tup [.c (.v a), .c (.v b)]) := by
 intro g w vs hr hargs
 obtain rfl := ha g w vs hargs
 refine (h w).mono ?_
 rintro e w' ⟨rfl, hf⟩
 refine ⟨_, _, [], g, rfl, ⟨rfl, rfl⟩, ?_, ⟨Nat.le_refl _, Ext.refl _ _⟩, fun ℓ hl => ?_, ⟨[a, b], rfl, rfl, fun i x hx => ?_⟩, hf.mono (fun _ _ h => h.elim)⟩
 ·exact ⟨fun q hq => Nat.lt_of_lt_of_le (hr.ml q hq) hf.size, fun ℓ hl => hr.md ℓ hl, hr.inj, fun id r e => by simp at e, fun id kv e => by simp at e, hr.gl.keep hf.size (fun k hk _ => hf.block k hk (fun h => h)) (fun _ _ h => h)⟩
 ·cases ℓ with
  | ob i => rcases hl with ⟨r, e, _⟩ | ⟨kv, e⟩ <;> simp at e
  | cl i j => obtain ⟨r, k, cs, e, _⟩ := hl; simp at e
 match i, hx with
 | 0, hx => simp at hx; subst hx; exact ⟨a, rfl, rfl⟩
 | 1, hx => simp at hx; subst hx; exact ⟨b, rfl, rfl⟩
 | i + 2, hx => simp at hx
theorem Rn (n : Nat) (hn : n <= 1000000) : FC Tryz.prog 85 [.a (.c (.v (.int .u64 1))), .a (.c (.v (.int .u64 n)))] [] (fun x o => o = [] /\ x = .tup [.c (.v (.int .u64 0)), .c (.v (.int .u64 n))]) := by
 refine Tx (vals := [.int .u64 1, .int .u64 n]) (fun g w vs hv => ?_) fun w => ?_
 ·obtain ⟨h0, h1⟩ := hv
  obtain ⟨v, e1, e2⟩ := h1 0 _ rfl
  obtain ⟨u, e3, e4⟩ := h1 1 _ rfl
  match vs, h0 with
  | [x, y], _ => simp at e1 e3; subst e1; subst e3; rw [show x = _ from e2, show y = _ from e4]
 have hmul := Any.bits_Mul Tryz.bitsMul 1 n (by omega) (by omega) w
 rw [Nat.one_mul, Nat.div_eq_of_lt (by omega : n < 18446744073709551616), Nat.mod_eq_of_lt (by omega : n < 18446744073709551616)] at hmul
 exact hmul.mono fun e w' h => ⟨h.1, by rw [h.2]; exact Fp.refl _ _⟩

def IW (x : Int) (j m : Nat) : List Int := List.replicate j x ++ List.replicate m 0
theorem Pc (x : Int) (j m : Nat) : (IW x j m).length = j + m := by simp [IW]
theorem Ki (x : Int) (l : Nat) : ∀ j m, l <= m -> Dr (A7 (IW x j m)) j (A7 (List.replicate l x)) = A7 (IW x (j + l) (m - l)) := by
 induction l with
 | zero => intro j m _; rfl
 | succ l ih =>
  intro j m h
  rw [List.replicate_succ]
  show Dr ((A7 (IW x j m)).set j (.v (.int .i64 x))) (j + 1) (A7 (List.replicate l x)) = _
  have e : (A7 (IW x j m)).set j (.v (.int .i64 x)) = A7 (IW x (j + 1) (m - 1)) := by
   rw [B3, IW, List.set_append_right _ _ (by simp), IW]
   congr 1
   obtain ⟨m', rfl⟩ : ∃ m', m = m' + 1 := ⟨m - 1, by omega⟩
   rw [List.length_replicate, Nat.sub_self, List.replicate_succ, List.set_cons_zero, Nat.add_sub_cancel, List.replicate_succ' (n := j), List.append_assoc]
   rfl
  rw [e, ih (j + 1) (m - 1) (by omega), show j + 1 + l = j + (l + 1) from by omega, show m - 1 - l = m - (l + 1) from by omega]
theorem Gf (x : Int) (j m l : Nat) (h : l <= j) : (A7 (IW x j m)).take l = A7 (List.replicate l x) := by
 rw [AM, IW, List.take_append_of_le_length (by simpa using h), List.take_replicate, Nat.min_eq_left h]

theorem Gg (x : Int) (n : Nat) (h1 : 1 <= n) (hn : n <= 1000000) : FC Tryz.prog 61 [.a (.c (.s 0 1)), .i n] [Aw [x]] (fun r o => o = [Aw [x], Aw (List.replicate n x)] /\ r = .a (.c (.s 1 n))) := by
 refine A9 Tryz.func61 rfl (by rw [Tryz.ntmps61]; simp) ?_
 rw [Tryz.ntmps61]
 simp only [Bz, Aw]
 have d0 : decide ((n : Int) < 0) = false := by simp
 have w1 : IntKind.u64.wrap (1 : Int) = 1 := IntWalk.u64_in _ (by omega)
 have w2 : IntKind.u64.wrap (n : Int) = n := IntWalk.u64_in _ (by omega)
 have w3 : IntKind.i64.wrap (n : Int) = n := IntWalk.i64_in _ (by omega)
 have u1 := Tryz.underlying3
 have u2 := Tryz.underlying121
 have d3 : decide ((n : Int) > 9223372036854775807) = false := by simp; omega
 have d4 : decide ((0 : Int) > 0) = false := by simp
 (refine Wf @d0 ?_;(repeat clear hK K);repeat refine kq fun K hK=>?_)
 refine Wm ?_
 (refine Wf (an @w1 (an @w2 (an @u1 (an @u2 @Int.natCast_one)))) ?_;(repeat clear hK K);repeat refine kq fun K hK=>?_)
 (refine Wj (Rn n hn) ?_; intro K1 hK1)
 rintro _ _ ⟨rfl, rfl⟩
 (refine Wk ?_; clear hK1 K1)
 (refine Wf (an @d3 @d4) ?_;(repeat clear hK K);repeat refine kq fun K hK=>?_)
 refine Wm ?_
 (refine Wf (an @w3 (an @u1 @u2)) ?_;(repeat clear hK K);repeat refine kq fun K hK=>?_)
 (refine Ad rfl ?_; intro K1 hK1; refine JX (l := 1) rfl rfl (by simp only [go_sem] <;> rfl) rfl (by simp only [go_sem] <;> rfl) (by simp only [go_sem, Qs] <;> rfl) (by simp only [go_sem, Qs] <;> rfl) (by simp only [go_sem] <;> rfl) (by simp only [go_sem] <;> rfl) (by omega) (by omega) (by simp only [go_sem] <;> omega) rfl ?_ ?_ ?_ ?_)
 ·rfl
 ·rfl
 ·simp only [go_sem, List.length_replicate]; omega
 have f0 : Dr (List.replicate n (C.v (.int .i64 0))) 0 (List.take 1 (A7 [x])) = A7 (IW x 1 (n - 1)) := by
  have h := Ki x 1 0 n h1
  rw [Nat.zero_add] at h
  rw [<- h]
  have e1 : A7 (IW x 0 n) = List.replicate n (C.v (.int .i64 0)) := by simp [IW, A7]
  rw [e1]; rfl
 simp only [go_sem, f0]
 refine hK1 _ ?_; clear hK1 K1
 (refine We ?_;(repeat clear hK K);repeat refine kq fun K hK=>?_)
 refine A6 (fun j : Nat => { tm := [(7, .a (.c (.s 1 n))), (8, .i j)], hp := [.r ⟨3, 1, true, A7 [x]⟩, .r ⟨3, 1, true, A7 (IW x j (n - j))⟩], n := 48, pin := 1 }) (fun j => 1 <= j /\ j <= n) (fun j => n - j) 1 ?_ ?_ ?_
 ·omega
 ·exact Wo
 rintro j ⟨hj1, hj⟩ K hK
 have hfl := Pc x j (n - j)
 by_cases hlt : j < n
 rotate_left
 ·have d1 : decide ((j : Int) < (n : Int)) = false := by simpa using hlt
  have hje : j = n := by omega
  subst hje
  (refine Wf @d1 ?_;(repeat clear hK K);repeat refine kq fun K hK=>?_)
  refine Wm ?_
  (refine Wi ?_;repeat clear hK K)
  (refine We ?_;(repeat clear hK K);repeat refine kq fun K hK=>?_)
  refine Wq [0, 1] Tryz.results61 @Ak ?_
  rw [Nat.sub_self, IW, List.replicate_zero, List.append_nil]
 have d1 : decide ((j : Int) < (n : Int)) = true := by simpa using hlt
 (refine Wf @d1 ?_;(repeat clear hK K);repeat refine kq fun K hK=>?_)
 refine Wl ?_
 (refine We ?_;(repeat clear hK K);repeat refine kq fun K hK=>?_)
 (refine BJ [] [(0, 0, 0), (1, 0, 0), (2, 0, 0), (3, 0, 0), (4, 0, 0), (5, 0, 0), (6, 0, 0), (7, 2, 0), (8, 0, 0), (9, 0, 0)] (by kernel_rfl) (by kernel_rfl) (by intro c st h; simp [Ae, AJ, VD] at h) ?_)
 (refine Wc ?_; repeat clear hK K)
 (refine W1 rfl rfl rfl ?_; intro K1 hK1; refine JX (l := min j (n - j)) rfl rfl (by simp only [go_sem] <;> rfl) rfl (by simp only [go_sem] <;> rfl) (by simp only [go_sem, Qs] <;> rfl) (by simp only [go_sem, Qs] <;> rfl) (by simp only [go_sem] <;> rfl) (by simp only [go_sem] <;> rfl) rfl (by omega) (by simp only [go_sem] <;> omega) rfl ?_ ?_ ?_ ?_)
 ·simp only [go_sem, Gf x j (n - j) _ (Nat.min_le_left _ _), B6]
 ·simp only [go_sem, Gf x j (n - j) _ (Nat.min_le_left _ _), A5, List.length_replicate]
 ·simp only [go_sem, A5, hfl]; omega
 simp only [go_sem, Gf x j (n - j) _ (Nat.min_le_left _ _), Ki x _ j (n - j) (Nat.min_le_right _ _)]
 refine hK1 _ ?_; clear hK1 K1
 (refine Wc ?_; repeat clear hK K)
 refine MA ⟨by simp, by simp, ?_⟩
 simp only [Ae, AJ]
 refine hK _ (j + min j (n - j)) ⟨by omega, by omega⟩ (by omega) ?_
 have e : n - (j + min j (n - j)) = n - j - min j (n - j) := by omega
 simp only [e]
 (refine BP ?_; simp only [Dq, go_sem, Int.natCast_add]; try simp)
attribute [local go_sem] List.set_cons_zero List.set_cons_succ List.map_cons List.map_nil List.take_succ_cons List.take_zero List.drop_zero List.drop_succ_cons C.pl C.one List.all_cons List.all_nil Bool.and_true
def WC : List Int -> Int
 | [] => 0
 | x :: r => if x ≠ 0 then x else WC r
theorem Kj (xs : List Int) (hn : xs.length <= 100000000) : FC Tryz.prog 59 [Aq xs] [] (fun r o => o = [] /\ r = .i (WC xs)) := by
 refine A9 Tryz.func59 rfl (by rw [Tryz.ntmps59]; simp) ?_
 rw [Tryz.ntmps59]
 simp only [Bz, Aq]
 (refine Wf @Yi ?_;(repeat clear hK K);repeat refine kq fun K hK=>?_)
 refine A6 (fun k : Nat => { tm := [(3, .i 0), (6, .a (.c (.t 1 (Aa xs)))), (7, .i xs.length), (8, .i k)], hp := [], n := 18, pin := 0 }) (fun k => k <= xs.length /\ WC xs = WC (xs.drop k)) (fun k => xs.length - k) 0 ?_ ?_ ?_
 ·exact ⟨by omega, rfl⟩
 ·exact Wo
 rintro k ⟨hk, he⟩ K hK
 (refine We ?_;(repeat clear hK K);repeat refine kq fun K hK=>?_)
 (refine AA ?_; intro X Y hX hY; simp only [go_sem])
 refine ⟨fun h => hX ?_, fun h => hY ?_⟩
 rotate_left
 ·clear hX hY X Y
  have hge : k = xs.length := by simp at h; omega
  (refine Wi ?_;repeat clear hK K)
  (refine We ?_;(repeat clear hK K);repeat refine kq fun K hK=>?_)
  refine Wr Tryz.results59 ?_
  have hd : xs.drop k = [] := List.drop_eq_nil_of_le (by omega)
  rw [he, hd]; try rfl
 have hlt : k < xs.length := by simpa using h
 rw [P5 hlt] at he
 clear hX hY X Y h
 (refine Wf (an @Yi (Aj (gE1 hlt))) ?_;(repeat clear hK K);repeat refine kq fun K hK=>?_)
 (refine AA ?_; intro X Y hX hY; simp only [go_sem])
 refine ⟨fun h => hX ?_, fun h => hY ?_⟩
 ·clear hX hY X Y
  (refine We ?_;(repeat clear hK K);repeat refine kq fun K hK=>?_)
  refine Wr Tryz.results59 ?_
  have : xs[k] ≠ 0 := by simpa using h
  rw [he, WC, if_pos this]
 clear hX hY X Y
 (refine We ?_;(repeat clear hK K);repeat refine kq fun K hK=>?_)
 refine Wn ?_
 refine hK _ (k + 1) ⟨by omega, ?_⟩ (by omega) ?_
 ·have : xs[k] = 0 := by simpa using h
  rw [he, WC, if_neg (by simp [this])]
 exact Wo
theorem MT (a b : Ar) : WC [Fy a.1 b.1, Fy a.2 b.2] = Gb a b := by
 simp only [WC, Gb]
 split
 ·rfl
 split
 ·rfl
 rename_i h; simpa using Eq.symm (by simpa using h)
theorem Ro (a b : Ar) : FC Tryz.prog 41 [.a (.g [.v (.int .i64 a.1), .v (.int .i64 a.2)]), .a (.g [.v (.int .i64 b.1), .v (.int .i64 b.2)])] [] (fun r o => o = [] /\ r = .i (Gb a b)) := by
 refine A9 Tryz.func41 rfl (by rw [Tryz.ntmps41]; simp) ?_
 rw [Tryz.ntmps41]
 simp only [Bz]
 (refine Wf (an @List.set_cons_zero.{0} @List.set_cons_succ.{0}) ?_;(repeat clear hK K);repeat refine kq fun K hK=>?_)
 (refine BJ [] [(0, 0, 0), (2, 0, 0), (5, 0, 0), (7, 0, 0), (1, 1, 4), (3, 1, 4), (6, 1, 9), (8, 1, 9), (4, 2, 0), (9, 2, 0), (10, 2, 0), (11, 2, 0), (12, 2, 0)] (by kernel_rfl) (by kernel_rfl) (by intro c st h; simp [Ae, AJ, VD] at h) ?_)
 (refine Wc ?_; repeat clear hK K)
 (refine W0 rfl rfl ?_; intro K1 hK1; refine Au ?_; refine xv [] (Ka a.1 b.1) ?_ ?_)
 ·rintro _ _ ⟨rfl, rfl⟩ i o hi hl; simp at hl
 rintro _ _ ⟨rfl, rfl⟩
 (refine Wk ?_; clear hK1 K1)
 (refine Wc ?_; repeat clear hK K)
 (refine W0 rfl rfl ?_; intro K1 hK1; refine Au ?_; refine xv [] (Ka a.2 b.2) ?_ ?_)
 ·rintro _ _ ⟨rfl, rfl⟩ i o hi hl; simp at hl
 rintro _ _ ⟨rfl, rfl⟩
 (refine Wk ?_; clear hK1 K1)
 (refine Wc ?_; repeat clear hK K)
 (refine W1 rfl rfl rfl ?_; intro K1 hK1; refine B4 rfl ?_; simp only [go_sem, List.set_cons_zero, List.set_cons_succ]; (first | refine hK1 _ ?_ | refine AE (hK1 _ ?_)); clear hK1 K1)
 (refine UY (BA (r := ⟨3, 1, true, A7 [Fy a.1 b.1, Fy a.2 b.2]⟩) 2 (Aa [Fy a.1 b.1, Fy a.2 b.2]) rfl (Gd _) (show 0 < (1 : Nat) by omega)) ?_; simp only [ST.frz, A0.frz, AV.frz, C.frz, Nat.le_refl, List.set_cons_zero, List.set_cons_succ, go_sem, Yi, Az, List.length_cons, List.length_nil, List.take_succ_cons, List.take_zero])
 (refine Wc ?_; repeat clear hK K)
 (refine W0 rfl rfl ?_; intro K1 hK1; refine Au ?_; refine BG (ids := []) [] (Kj [Fy a.1 b.1, Fy a.2 b.2] (by simp)) rfl rfl (by simp only [go_sem]) (by kernel_rfl) rfl rfl rfl (by (simp only [List.map_append, List.append_nil, go_sem]) <;> rfl) (by (simp only [VC, Aq, go_sem]) <;> rfl) ?_ ?_)
 ·rintro _ _ ⟨rfl, rfl⟩ i o hi hl; simp at hl
 rintro _ _ ⟨rfl, rfl⟩
 (refine Wk ?_; clear hK1 K1)
 (refine W1 rfl rfl rfl ?_; intro K1 hK1; refine B4 rfl ?_; simp only [go_sem]; (first | refine hK1 _ ?_ | refine AE (hK1 _ ?_)); clear hK1 K1)
 (refine Wc ?_; repeat clear hK K)
 refine Wp [] Tryz.results41 ?_
 rw [MT]
def WD (n : Nat) (a : Ar) : Prop := 0 <= a.1 /\ a.1 <= 1025 /\ 0 <= a.2 /\ a.2 < (n : Int)
theorem Kk {R : List (List Ar)} (h1 : 1 <= R.length) (h2 : R.length <= 16384) (h3 : AN (R.take R.length) <= 262144) (h4 : ∀ i r, i < R.length -> R[i]? = some r -> ∀ a ∈ r, WD R.length a) : BK R = true := by
 rw [List.take_length] at h3
 rw [BK, decide_eq_true_iff]
 refine ⟨h1, h2, h3, fun r hr a ha => ?_⟩
 obtain ⟨i, hi⟩ := List.mem_iff_getElem?.1 hr
 exact h4 i r (List.getElem?_eq_some_iff.1 hi).1 hi a ha
theorem Kl {R : List (List Ar)} {k : Nat} (h : 262144 < AN (R.take k)) : BK R = false := by
 rw [BK, decide_eq_false_iff_not]
 intro h2
 have := Gc R k
 have := h2.2.2.1
 unfold T4 at this
 omega
theorem Km {R : List (List Ar)} {i j : Nat} {r : List Ar} {a : Ar} (hr : R[i]? = some r) (ha : r[j]? = some a) (h : ¬ WD R.length a) : BK R = false := by
 rw [BK, decide_eq_false_iff_not]
 exact fun h2 => h (h2.2.2.2 r (gE9 hr) a (gE9 ha))
theorem Kn {R : List (List Ar)} (h : ¬ 1 <= R.length) : BK R = false := by
 rw [BK, decide_eq_false_iff_not]; exact fun h2 => h h2.1
theorem Is {R : List (List Ar)} (h : ¬ R.length <= 16384) : BK R = false := by
 rw [BK, decide_eq_false_iff_not]; exact fun h2 => h h2.2.1
theorem Ko {R : List (List Ar)} {i j : Nat} {r : List Ar} {a b : Ar} (hr : R[i]? = some r) (ha : r[j]? = some a) (hb : r[j + 1]? = some b) (h : Wu a b = false) : BL R = false := by
 rw [BL, decide_eq_false_iff_not]
 exact fun h2 => MG ha hb h (h2.2 r (gE9 hr))
theorem Kp {R : List (List Ar)} (h : BK R = true) (h2 : ∀ i r, i < R.length -> R[i]? = some r -> SortA r) : BL R = true := by
 rw [BK, decide_eq_true_iff] at h
 rw [BL, decide_eq_true_iff]
 refine ⟨h, fun r hr => ?_⟩
 obtain ⟨i, hi⟩ := List.mem_iff_getElem?.1 hr
 exact h2 i r (List.getElem?_eq_some_iff.1 hi).1 hi


set_option maxHeartbeats 1000000 in
theorem Pd (R : List (List Ar)) (hn : R.length <= 140737488355328) (hr : ∀ r ∈ R, r.length <= 140737488355328) : FC Tryz.prog 40 [Bh R] [] (fun r o => o = [] /\ r = .b (BK R)) := by
 refine A9 Tryz.func40 rfl (by rw [Tryz.ntmps40]; simp) ?_
 rw [Tryz.ntmps40]
 simp only [Bz, Bh]
 by_cases g1 : (R.length : Int) < 1
 ·have e1 : decide ((R.length : Int) < 1) = true := by simpa using g1
  (refine Wf (an @e1 (an @A4 (an @List.set_cons_zero.{0} @List.set_cons_succ.{0}))) ?_;(repeat clear hK K);repeat refine kq fun K hK=>?_)
  refine Wl ?_
  (refine We ?_;(repeat clear hK K);repeat refine kq fun K hK=>?_)
  refine Wp [] Tryz.results40 ?_
  rw [Kn (by omega)]
 have e1 : decide ((R.length : Int) < 1) = false := by simpa using g1
 by_cases g2 : (R.length : Int) > 16384
 ·have e2 : decide ((R.length : Int) > 16384) = true := by simpa using g2
  (refine Wf (an @e1 (an @e2 (an @A4 (an @List.set_cons_zero.{0} @List.set_cons_succ.{0})))) ?_;(repeat clear hK K);repeat refine kq fun K hK=>?_)
  refine Wl ?_
  (refine We ?_;(repeat clear hK K);repeat refine kq fun K hK=>?_)
  refine Wp [] Tryz.results40 ?_
  rw [Is (by omega)]
 have e2 : decide ((R.length : Int) > 16384) = false := by simpa using g2
 (refine Wf (an @e1 (an @e2 (an @A4 (an @List.set_cons_zero.{0} @List.set_cons_succ.{0})))) ?_;(repeat clear hK K);repeat refine kq fun K hK=>?_)
 refine Wm ?_
 (refine Wf @A4 ?_;(repeat clear hK K);repeat refine kq fun K hK=>?_)
 refine A6 (fun k : Nat => { tm := [(1, .a (.c (.p 0 0))), (3, .i R.length), (4, .i (262144 - (AN (R.take k) : Int))), (19, .a (.c (.t 1 (Ai R)))), (20, .i R.length), (21, .i k)], hp := [.r ⟨25, 1, false, [.t 1 (Ai R)]⟩], n := 60, pin := 0 }) (fun k => k <= R.length /\ AN (R.take k) <= 262144 /\ ∀ i r, i < k -> R[i]? = some r -> ∀ a ∈ r, WD R.length a) (fun k => R.length - k) 0 ?_ ?_ ?_
 ·exact ⟨by omega, by simp [AN], fun i _ hi => by omega⟩
 ·(refine BP ?_; simp only [Dq, go_sem, List.take_zero, AN, List.map_nil, List.sum_nil, Int.natCast_zero, Int.sub_zero]; try simp)
 rintro k ⟨hk, hto, hc⟩ K hK
 by_cases hlt : k < R.length
 rotate_left
 ·have hl1 : decide ((k : Int) < (R.length : Int)) = false := by simpa using hlt
  have hke : k = R.length := by omega
  (refine Wf @hl1 ?_;(repeat clear hK K);repeat refine kq fun K hK=>?_)
  refine Wm ?_
  (refine Wi ?_;repeat clear hK K)
  (refine We ?_;(repeat clear hK K);repeat refine kq fun K hK=>?_)
  refine Wp [] Tryz.results40 ?_
  rw [Kk (by omega) (by omega) (by rw [<- hke]; exact hto) (by rw [<- hke]; intro i r hi; rw [hke]; exact hc i r hi)]
 have hl1 : decide ((k : Int) < (R.length : Int)) = true := by simpa using hlt
 have hgk := gE1 hlt
 have hrk := hr _ (gE6 hlt)
 have htk := BX hlt
 generalize hW : AN (R.take k) = W at *
 (refine Wf @hl1 ?_;(repeat clear hK K);repeat refine kq fun K hK=>?_)
 refine Wl ?_
 (refine Wf (an (Ac hgk) (an @A4 (an @A3 @Al))) ?_;(repeat clear hK K);repeat refine kq fun K hK=>?_)
 (refine AA ?_; intro X Y hX hY; simp only [go_sem])
 refine ⟨fun h => hX ?_, fun h => hY ?_⟩
 ·have hbig : 262144 < AN (R.take (k + 1)) := by simp at h; omega
  clear hX hY X Y
  (refine We ?_;(repeat clear hK K);repeat refine kq fun K hK=>?_)
  refine Wp [] Tryz.results40 ?_
  rw [Kl hbig]
 have hsm : AN (R.take (k + 1)) <= 262144 := by simp at h; omega
 have e3 : (262144 - (W : Int) - (R[k].length : Int)) = 262144 - (AN (R.take (k + 1)) : Int) := by omega
 clear hX hY X Y
 (refine Wf (an @A3 (an @Al @e3)) ?_;(repeat clear hK K);repeat refine kq fun K hK=>?_)
 refine A6 (fun j : Nat => { tm := [(1, .a (.c (.p 0 0))), (3, .i R.length), (4, .i (262144 - (AN (R.take (k + 1)) : Int))), (19, .a (.c (.t 1 (Ai R)))), (20, .i R.length), (21, .i k), (33, .a (.c (.t 2 (At R[k])))), (34, .i R[k].length), (35, .i j)], hp := [.r ⟨25, 1, false, [.t 1 (Ai R)]⟩], n := 60, pin := 0 }) (fun j => j <= R[k].length /\ ∀ i a, i < j -> R[k][i]? = some a -> WD R.length a) (fun j => R[k].length - j) 0 ?_ ?_ ?_
 ·exact ⟨by omega, fun i _ hi => by omega⟩
 ·exact Wo
 rintro j ⟨hj, hj2⟩ K hK
 by_cases hltj : j < R[k].length
 rotate_left
 ·have hl2 : decide ((j : Int) < (R[k].length : Int)) = false := by simpa using hltj
  have hje : j = R[k].length := by omega
  (refine Wf @hl2 ?_;(repeat clear hK K);repeat refine kq fun K hK=>?_)
  refine Wm ?_
  (refine Wi ?_;repeat clear hK K)
  (refine We ?_;(repeat clear hK K);repeat refine kq fun K hK=>?_)
  refine Wn ?_
  refine hK _ (k + 1) ⟨by omega, hsm, fun i r hi hir a ha => ?_⟩ (by omega) ?_
  rotate_left
  ·exact Wo
  by_cases e : i = k
  rotate_left
  ·exact hc i r (by omega) hir a ha
  subst e; rw [hgk] at hir; cases hir
  obtain ⟨q, hq⟩ := List.mem_iff_getElem?.1 ha
  exact hj2 q a (by rw [hje]; exact (List.getElem?_eq_some_iff.1 hq).1) hq
 have hl2 : decide ((j : Int) < (R[k].length : Int)) = true := by simpa using hltj
 have hgj := gE1 hltj
 have haj := Be hltj
 (refine Wf @hl2 ?_;(repeat clear hK K);repeat refine kq fun K hK=>?_)
 refine Wl ?_
 have bad : ¬ WD R.length R[k][j] -> BK R = false := fun h => Km hgk hgj h
 by_cases c1 : R[k][j].1 < 0
 ·have d1 : decide (R[k][j].1 < 0) = true := by simpa using c1
  (refine Wf (an @d1 (an @A3 (an @Al @haj))) ?_;(repeat clear hK K);repeat refine kq fun K hK=>?_)
  refine Wl ?_
  (refine We ?_;(repeat clear hK K);repeat refine kq fun K hK=>?_)
  refine Wp [] Tryz.results40 ?_
  rw [bad (fun h => by have := h.1; omega)]
 have d1 : decide (R[k][j].1 < 0) = false := by simpa using c1
 by_cases c2 : R[k][j].1 > 1025
 ·have d2 : decide (R[k][j].1 > 1025) = true := by simpa using c2
  (refine Wf (an @d1 (an @d2 (an @A3 (an @Al @haj)))) ?_;(repeat clear hK K);repeat refine kq fun K hK=>?_)
  refine Wl ?_
  (refine We ?_;(repeat clear hK K);repeat refine kq fun K hK=>?_)
  refine Wp [] Tryz.results40 ?_
  rw [bad (fun h => by have := h.2.1; omega)]
 have d2 : decide (R[k][j].1 > 1025) = false := by simpa using c2
 by_cases c3 : R[k][j].2 < 0
 ·have d3 : decide (R[k][j].2 < 0) = true := by simpa using c3
  (refine Wf (an @d1 (an @d2 (an @d3 (an @A3 (an @Al @haj))))) ?_;(repeat clear hK K);repeat refine kq fun K hK=>?_)
  refine Wl ?_
  (refine We ?_;(repeat clear hK K);repeat refine kq fun K hK=>?_)
  refine Wp [] Tryz.results40 ?_
  rw [bad (fun h => by have := h.2.2.1; omega)]
 have d3 : decide (R[k][j].2 < 0) = false := by simpa using c3
 by_cases c4 : R[k][j].2 >= (R.length : Int)
 ·have d4 : decide (R[k][j].2 >= (R.length : Int)) = true := by simpa using c4
  (refine Wf (an @d1 (an @d2 (an @d3 (an @d4 (an @A3 (an @Al @haj)))))) ?_;(repeat clear hK K);repeat refine kq fun K hK=>?_)
  refine Wl ?_
  (refine We ?_;(repeat clear hK K);repeat refine kq fun K hK=>?_)
  refine Wp [] Tryz.results40 ?_
  rw [bad (fun h => by have := h.2.2.2; omega)]
 have d4 : decide (R[k][j].2 >= (R.length : Int)) = false := by simpa using c4
 have hck : WD R.length R[k][j] := ⟨by omega, by omega, by omega, by omega⟩
 (refine Wf (an @d1 (an @d2 (an @d3 (an @d4 (an @A3 (an @Al @haj)))))) ?_;(repeat clear hK K);repeat refine kq fun K hK=>?_)
 refine Wm ?_
 (refine We ?_;(repeat clear hK K);repeat refine kq fun K hK=>?_)
 refine Wn ?_
 refine hK _ (j + 1) ⟨by omega, fun i a hi ha => ?_⟩ (by omega) ?_
 ·by_cases e : i = j
  ·subst e; rw [hgj] at ha; cases ha; exact hck
  exact hj2 i a (by omega) ha
 refine Le.trans (A8 [0] rfl rfl) ?_
 (try simp only [List.set_nil, List.take_nil, List.take_zero, List.map_append, go_sem])
 exact Wo

set_option maxHeartbeats 1000000 in
theorem EE (R : List (List Ar)) (hn : R.length <= 140737488355328) (hr : ∀ r ∈ R, r.length <= 140737488355328) : FC Tryz.prog 26 [Bh R] [] (fun r o => o = [] /\ r = .b (BL R)) := by
 refine A9 Tryz.func26 rfl (by rw [Tryz.ntmps26]; simp) ?_
 rw [Tryz.ntmps26]
 simp only [Bz, Bh]
 (repeat (first | (refine AG ?_; intro K hK) | refine Am ?_ | refine Ag ?_ | (refine Bg rfl rfl ?_; intro K1 hK1; simp only [go_sem, List.set_cons_zero, List.set_cons_succ, C.pl, C.one, List.all_cons, List.all_nil, Bool.and_true, List.take_succ_cons, List.take_zero, List.drop_zero]; (first | refine hK1 _ ?_ | refine AE (hK1 _ ?_)); clear hK1 K1) | ((first | refine Ab ?_ | refine Ap ?_); refine hK _ ?_; clear hK K)))
 (refine Wj (Pd R hn hr) ?_; intro K1 hK1)
 rintro _ _ ⟨rfl, rfl⟩
 (refine Wk ?_; clear hK1 K1)
 by_cases g0 : BK R = true
 rotate_left
 ·have g0' : BK R = false := by simpa using g0
  (refine Wf (an @g0' @Bool.not_false) ?_;(repeat clear hK K);repeat refine kq fun K hK=>?_)
  refine Wl ?_
  (refine We ?_;(repeat clear hK K);repeat refine kq fun K hK=>?_)
  refine Wp [] Tryz.results26 ?_
  rw [MH g0']
 (refine Wf (an @g0 @Bool.not_true) ?_;(repeat clear hK K);repeat refine kq fun K hK=>?_)
 refine Wm ?_
 (refine Wf @A4 ?_;(repeat clear hK K);repeat refine kq fun K hK=>?_)
 refine A6 (fun k : Nat => { tm := [(1, .a (.c (.p 0 0))), (10, .a (.c (.t 1 (Ai R)))), (11, .i R.length), (12, .i k)], hp := [.r ⟨25, 1, false, [.t 1 (Ai R)]⟩], n := 34, pin := 0 }) (fun k => k <= R.length /\ ∀ i r, i < k -> R[i]? = some r -> SortA r) (fun k => R.length - k) 0 ?_ ?_ ?_
 ·exact ⟨by omega, fun i _ hi => by omega⟩
 ·exact Wo
 rintro k ⟨hk, hc⟩ K hK
 by_cases hlt : k < R.length
 rotate_left
 ·have hl1 : decide ((k : Int) < (R.length : Int)) = false := by simpa using hlt
  (refine Wf @hl1 ?_;(repeat clear hK K);repeat refine kq fun K hK=>?_)
  refine Wm ?_
  (refine Wi ?_;repeat clear hK K)
  (refine We ?_;(repeat clear hK K);repeat refine kq fun K hK=>?_)
  refine Wp [] Tryz.results26 ?_
  rw [Kp g0 (fun i r hi => hc i r (by omega))]
 have hl1 : decide ((k : Int) < (R.length : Int)) = true := by simpa using hlt
 have hgk := gE1 hlt
 have hrk := hr _ (gE6 hlt)
 (refine Wf @hl1 ?_;(repeat clear hK K);repeat refine kq fun K hK=>?_)
 refine Wl ?_
 (refine Wf (an (Ac hgk) @A4) ?_;(repeat clear hK K);repeat refine kq fun K hK=>?_)
 refine A6 (fun j : Nat => { tm := [(1, .a (.c (.p 0 0))), (10, .a (.c (.t 1 (Ai R)))), (11, .i R.length), (12, .i k), (4, .a (.c (.t 2 (At R[k])))), (5, .i (j + 1 : Nat))], hp := [.r ⟨25, 1, false, [.t 1 (Ai R)]⟩], n := 34, pin := 0 }) (fun j => j <= R[k].length /\ ∀ i a b, i < j -> R[k][i]? = some a -> R[k][i + 1]? = some b -> Wu a b = true) (fun j => R[k].length - j) 0 ?_ ?_ ?_
 ·exact ⟨by omega, fun i _ _ hi => by omega⟩
 ·exact Wo
 rintro j ⟨hj, hj2⟩ K hK
 by_cases hltj : j + 1 < R[k].length
 rotate_left
 ·have hl2 : decide (((j + 1 : Nat) : Int) < (R[k].length : Int)) = false := by simp; omega
  (refine Wf (an @hl2 (an @A3 @Al)) ?_;(repeat clear hK K);repeat refine kq fun K hK=>?_)
  refine Wm ?_
  (refine Wi ?_;repeat clear hK K)
  (refine We ?_;(repeat clear hK K);repeat refine kq fun K hK=>?_)
  refine Wn ?_
  refine hK _ (k + 1) ⟨by omega, fun i r hi hir => ?_⟩ (by omega) ?_
  rotate_left
  ·exact Wo
  by_cases e : i = k
  rotate_left
  ·exact hc i r (by omega) hir
  subst e; rw [hgk] at hir; cases hir
  exact Io fun i a b ha hb => hj2 i a b (by have := (List.getElem?_eq_some_iff.1 hb).1; omega) ha hb
 have hl2 : decide (((j + 1 : Nat) : Int) < (R[k].length : Int)) = true := by simp; omega
 have hltj0 : j < R[k].length := by omega
 have hgj := gE1 hltj0
 have hgj1 := gE1 hltj
 have haj := Be hltj0
 have haj1 := Be hltj
 have e1 : ((j + 1 : Nat) : Int) - 1 = (j : Int) := by omega
 (refine Wf (an @hl2 (an @A3 @Al)) ?_;(repeat clear hK K);repeat refine kq fun K hK=>?_)
 refine Wl ?_
 (refine We ?_;(repeat clear hK K);repeat refine kq fun K hK=>?_)
 (refine Ao 9 [(0, 0), (1, 0), (2, 0), (3, 0), (4, 1), (5, 0), (6, 0), (7, 0), (8, 1), (9, 2), (10, 0)] (by kernel_rfl) (by kernel_rfl) (by intro c st h; simp [Ae, AJ, VD] at h) ?_)
 (refine Wb (an @e1 (an @A3 (an @A3 (an @Al (an @haj @haj1))))) ?_; repeat clear hK K)
 (refine T1 (Ro R[k][j] R[k][j + 1]) ?_; intro K1 hK1)
 rintro _ _ ⟨rfl, rfl⟩
 (refine Wk ?_; clear hK1 K1)
 cases hlt2 : Wu R[k][j] R[k][j + 1] with
 | false =>
  (refine Wb (an @Hr (an @hlt2 @Bool.not_false)) ?_; repeat clear hK K)
  refine Wl ?_
  (refine We ?_;(repeat clear hK K);repeat refine kq fun K hK=>?_)
  refine Wp [] Tryz.results26 ?_
  rw [Ko hgk hgj hgj1 hlt2]
 | true =>
  (refine Wb (an @Hr (an @hlt2 @Bool.not_true)) ?_; repeat clear hK K)
  refine Wm ?_
  (refine We ?_;(repeat clear hK K);repeat refine kq fun K hK=>?_)
  refine Wn ?_
  refine hK _ (j + 1) ⟨by omega, fun i a b hi ha hb => ?_⟩ (by omega) ?_
  ·by_cases e : i = j
   ·subst e; rw [hgj] at ha; rw [hgj1] at hb; cases ha; cases hb; exact hlt2
   exact hj2 i a b (by omega) ha hb
  have e2 : (((j + 1 : Nat) : Int) + 1) = ((j + 1 + 1 : Nat) : Int) := by omega
  (refine BP ?_; simp only [Dq, go_sem, e2]; try simp)
end Go.Proofs.YthnkailnoobdoaaGreatDoor
