/- ref23: inStates; Reach. Canonical forms, as plain functions. TauLoops as a plain function: numbers of the components, rows joined. The silent arcs of a sorted row come first: both closures see the same graph. ref23: Has at a tree; Components. Divergence, plain: predecessors, the search from the goals, states on silent cycles. -/
import Derived.Test.YtglchakimolfdaaGreatDoorZk
import Derived.Test.YtglchakimolfdaaGreatDoorG42
import Derived.Test.YtglchakimolfdaaGreatDoorG11
import Derived.Test.YtglchakimolfdaaGreatDoorTj1
namespace Go.Proofs.YtglchakimolfdaaGreatDoor
set_option linter.unusedVariables false
set_option linter.unusedSimpArgs false
open Go.RowKit
set_option maxRecDepth 100000
attribute [local go_sem] List.set_cons_zero List.set_cons_succ List.map_cons List.map_nil List.take_succ_cons List.take_zero List.drop_zero List.drop_succ_cons C.pl C.one List.all_cons List.all_nil Bool.and_true Nat.mul_one Int.toNat_natCast

theorem inSt_fc (R : List (List Ar)) (L : List Int) (hL : ∀ x ∈ L, 0 ≤ x ∧ x < (R.length : Int)) (hn : R.length ≤ 1000000) (hl : L.length ≤ 1000000) : FC Tryz.prog 98 [aLts R, .a (.c (.t 1 (tInts L)))] [] (fun r o => o = [] ∧ r = .b true) := by
 refine fc_intro Tryz.func98 rfl (by rw [Tryz.ntmps98]; simp) ?_
 rw [Tryz.ntmps98]
 simp only [enum, aLts]
 (refine wk0 ?_;(repeat clear hK K);repeat refine kq fun K hK=>?_)
 refine aw_loop (fun k : Nat => { tm := [(1, .a (.c (.t 1 (tInts L)))), (2, .a (.c (.p 0 0))), (5, .i k)], hp := [.r ⟨25, 1, false, [.t 1 (tRows R)]⟩], n := 27, pin := 0 }) (fun k => k ≤ L.length) (fun k => L.length - k) 0 ?_ ?_ ?_
 ·omega
 ·exact lmz
 ·rintro k hk K hK
  by_cases hlt : k < L.length
  ·have d1 : decide ((k : Int) < (L.length : Int)) = true := by simpa using hlt
   have gx : (tInts L)[k]? = some (.v (.int .i64 L[k])) := by simp [tInts, hlt]
   have hx := hL _ (List.getElem_mem hlt)
   have d2 : decide (L[k] < 0) = false := by simp; omega
   have d3 : decide (L[k] ≥ (R.length : Int)) = false := by simp; omega
   (refine wk1 (an @d1 @tInts_len) ?_;(repeat clear hK K);repeat refine kq fun K hK=>?_)
   refine cxz ?_
   (refine wk0 ?_;(repeat clear hK K);repeat refine kq fun K hK=>?_)
   (refine aw_regionU 14 [(0, 0), (1, 0), (2, 0), (3, 1), (4, 0), (5, 0), (6, 0), (7, 0), (8, 0), (9, 1), (10, 0), (11, 1), (12, 0), (13, 0), (14, 2)] (by kernel_rfl) (by kernel_rfl) (by intro c st h; simp [ThenA, InBl, Ret] at h) ?_)
   (refine uk1 (an @gx (an @tInts_len (an @d2 (an @d3 @tRows_len)))) ?_; repeat clear hK K)
   refine cyz ?_
   (refine wk0 ?_;(repeat clear hK K);repeat refine kq fun K hK=>?_)
   refine rnz ?_
   refine hK _ (k + 1) (by omega) (by omega) ?_
   exact lmz
  ·have d1 : decide ((k : Int) < (L.length : Int)) = false := by simpa using hlt
   (refine wk1 (an @d1 @tInts_len) ?_;(repeat clear hK K);repeat refine kq fun K hK=>?_)
   refine cyz ?_
   (refine ekz ?_;repeat clear hK K)
   (refine wk0 ?_;(repeat clear hK K);repeat refine kq fun K hK=>?_)
   exact rpc0 [] Tryz.results98

def cBs (B : List Bool) : List C := B.map fun b => C.v (.bool b)
theorem cBs_len (B : List Bool) : (cBs B).length = B.length := by simp [cBs]
theorem cBs_get {B : List Bool} {i : Nat} {b : Bool} (h : B[i]? = some b) : (cBs B)[i]? = some (.v (.bool b)) := by simp [cBs, h]
theorem cBs_set (B : List Bool) (i : Nat) (b : Bool) : (cBs B).set i (.v (.bool b)) = cBs (B.set i b) := by simp [cBs, List.map_set]
theorem cBs_ren (f : List Nat) (B : List Bool) : (cBs B).map (C.ren f) = cBs B := by simp [cBs, C.ren, Function.comp_def]
def tauF (t : Bool) (r : List Ar) : List Ar := r.filter fun a => !t || a.1 == 0
def AdjF (t : Bool) (R : List (List Ar)) (v : Nat) : List Nat := (tauF t (R.getD v [])).map fun a => a.2.toNat
def seenB (B : List Bool) (u : Nat) : Bool := B.getD u false
structure Rs (E : Nat → List Nat) (n : Nat) (F : List Nat) (B : List Bool) (Q : List Nat) : Prop where
 len : B.length = n
 snd : ∀ u, seenB B u = true → ∃ v ∈ F, Rc E v u
 q : ∀ u ∈ Q, u < n ∧ ∃ v ∈ F, Rc E v u
 cl : ∀ u, seenB B u = true → ∀ w ∈ E u, seenB B w = true ∨ w ∈ Q
 st : ∀ v ∈ F, seenB B v = true ∨ v ∈ Q
theorem seen_set {B : List Bool} {u : Nat} (h : u < B.length) (w : Nat) : seenB (B.set u true) w = if w = u then true else seenB B w := by
 unfold seenB
 simp only [List.getD_eq_getElem?_getD]
 by_cases e : w = u
 ·subst e; rw [if_pos rfl, List.getElem?_set_self h]; rfl
 ·rw [if_neg e, List.getElem?_set_ne (fun h => e h.symm)]
variable {E : Nat → List Nat} {n u : Nat} {F : List Nat} {B : List Bool} {Q : List Nat}
theorem Rs.start (hF : ∀ v ∈ F, v < n) : Rs E n F (List.replicate n false) F := by
 have e : ∀ u, seenB (List.replicate n false) u = false := fun u => by
  unfold seenB; rw [List.getD_eq_getElem?_getD, List.getElem?_replicate]; split <;> rfl
 exact ⟨by simp, fun u h => (by rw [e] at h; cases h), fun u h => ⟨hF u h, u, h, .refl _⟩, fun u h => (by rw [e] at h; cases h), fun v h => .inr h⟩
theorem Rs.old (h : Rs E n F B (Q ++ [u])) (hs : seenB B u = true) : Rs E n F B Q := by
 refine ⟨h.len, h.snd, fun w hw => h.q w (List.mem_append_left _ hw), fun w hw x hx => ?_, fun v hv => ?_⟩
 ·rcases h.cl w hw x hx with h1 | h1
  ·exact .inl h1
  ·rcases List.mem_append.1 h1 with h1 | h1
   ·exact .inr h1
   ·simp at h1; subst h1; exact .inl hs
 ·rcases h.st v hv with h1 | h1
  ·exact .inl h1
  ·rcases List.mem_append.1 h1 with h1 | h1
   ·exact .inr h1
   ·simp at h1; subst h1; exact .inl hs
theorem Rs.new (h : Rs E n F B (Q ++ [u])) (hE : ∀ w ∈ E u, w < n) : Rs E n F (B.set u true) (Q ++ E u) := by
 have hu := h.q u (by simp)
 have hs := seen_set (B := B) (u := u) (by rw [h.len]; exact hu.1)
 refine ⟨by rw [List.length_set]; exact h.len, fun w hw => ?_, fun w hw => ?_, fun w hw x hx => ?_, fun v hv => ?_⟩
 ·rw [hs] at hw
  split at hw
  ·rename_i e; rw [e]; exact hu.2
  ·exact h.snd w hw
 ·rcases List.mem_append.1 hw with h1 | h1
  ·exact h.q w (List.mem_append_left _ h1)
  ·obtain ⟨v, q1, q2⟩ := hu.2
   exact ⟨hE w h1, v, q1, q2.tail h1⟩
 ·rw [hs] at hw ⊢
  by_cases e2 : x = u
  ·left; rw [if_pos e2]
  rw [if_neg e2]
  split at hw
  ·rename_i e; subst e; exact .inr (List.mem_append_right _ hx)
  ·rcases h.cl w hw x hx with h1 | h1
   ·exact .inl h1
   ·rcases List.mem_append.1 h1 with h1 | h1
    ·exact .inr (List.mem_append_left _ h1)
    ·simp at h1; exact absurd h1 e2
 ·rw [hs]
  by_cases e2 : v = u
  ·left; rw [if_pos e2]
  rw [if_neg e2]
  rcases h.st v hv with h1 | h1
  ·exact .inl h1
  ·rcases List.mem_append.1 h1 with h1 | h1
   ·exact .inr (List.mem_append_left _ h1)
   ·simp at h1; exact absurd h1 e2
theorem Rs.done (h : Rs E n F B []) (u : Nat) : seenB B u = true ↔ ∃ v ∈ F, Rc E v u := by
 refine ⟨h.snd u, fun ⟨v, hv, hr⟩ => ?_⟩
 induction hr with
 | refl => exact (h.st v hv).resolve_right (by simp)
 | tail _ he ih => exact (h.cl _ (ih ⟨v, hv, ‹_›⟩) _ he).resolve_right (by simp)
theorem countF_set {B : List Bool} {u : Nat} (h : u < B.length) (hb : B[u] = false) : (B.set u true).count false + 1 = B.count false := by
 induction B generalizing u with
 | nil => simp at h
 | cons x r ih =>
  cases u with
  | zero => simp at hb; subst hb; simp
  | succ u =>
   rw [List.set_cons_succ]
   have := ih (u := u) (by simpa using h) (by simpa using hb)
   rw [List.count_cons, List.count_cons]
   omega

theorem tauF_snoc (t : Bool) (r : List Ar) (a : Ar) : tauF t (r ++ [a]) = tauF t r ++ (if !t || a.1 == 0 then [a] else []) := by
 unfold tauF
 rw [List.filter_append]
 congr 1
 rw [List.filter_cons, List.filter_nil]
theorem stk_cut (Q : List Nat) (u : Nat) (J : List Int) : cInts ((Q ++ [u]).map Int.ofNat ++ J) = cInts (Q.map Int.ofNat ++ ((u : Int) :: J)) := by
 rw [List.map_append, List.append_assoc]; rfl
theorem stk_top (Q : List Nat) (u : Nat) (J : List Int) : (cInts (Q.map Int.ofNat ++ ((u : Int) :: J)))[Q.length]? = some (.v (.int .i64 u)) := by
 refine cInts_get ?_
 rw [List.getElem?_append_right (by simp), List.length_map, Nat.sub_self]; rfl
theorem stack_le {c0 c1 q e n w m : Nat} (h1 : c1 + 1 = c0) (h2 : c0 * w + (q + 1) ≤ n * w + m) (h3 : e + 1 ≤ w) : c1 * w + (q + e) ≤ n * w + m := by
 subst h1
 rw [Nat.add_mul, Nat.one_mul] at h2
 generalize c1 * w = x at *
 generalize n * w = y at *
 omega
set_option maxHeartbeats 8000000 in
theorem reachF_fc (R : List (List Ar)) (F : List Nat) (t : Bool) (hv : valB R = true) (hF : ∀ v ∈ F, v < R.length) (hFl : F.length ≤ 1000000) (hn : R.length ≤ 1000000) (hr : ∀ r ∈ R, r.length ≤ 1000000) : FC Tryz.prog 86 [aLts R, .a (.c (.t 1 (tInts (F.map Int.ofNat)))), .b t] [] (fun r o => ∃ B : List Bool, B.length = R.length ∧ (∀ u, seenB B u = true ↔ ∃ v ∈ F, Rc (AdjF t R) v u) ∧ ∃ L, L = ((List.range R.length).filter (seenB B)).map Int.ofNat ∧ o = [rInts L] ∧ r = .a (.c (.s 0 L.length))) := by
 refine fc_intro Tryz.func86 rfl (by rw [Tryz.ntmps86]; simp) ?_
 rw [Tryz.ntmps86]
 simp only [enum, aLts]
 have hlo : looB R = true := decide_eq_true (of_decide_eq_true hv).1
 have hbd := (of_decide_eq_true hlo).2.2.2
 have hFi : ∀ x ∈ F.map Int.ofNat, 0 ≤ x ∧ x < (R.length : Int) := fun x h => by
  obtain ⟨u, hu, rfl⟩ := List.mem_map.1 h
  have := hF u hu
  simp only [Int.ofNat_eq_natCast]
  omega
 (refine wk0 ?_;(repeat clear hK K);repeat refine kq fun K hK=>?_)
 (refine ckz (validR_fc R (by omega) (fun r h => by have := hr r h; omega)) ?_; intro K1 hK1)
 rintro _ _ ⟨rfl, rfl⟩
 (refine bkz ?_; clear hK1 K1)
 (refine wk1 (an @hv @Bool.not_true) ?_;(repeat clear hK K);repeat refine kq fun K hK=>?_)
 (refine lst_goU rfl rfl (by simp only [go_sem] <;> rfl) ?_; intro K1 hK1; refine (stp_call0 (ids := []) (inSt_fc R (F.map Int.ofNat) hFi hn (by rw [List.length_map]; exact hFl)) rfl rfl (by simp only [go_sem]) (by kernel_rfl) (by (simp only [List.append_nil, go_sem]) <;> rfl) ?_).stp)
 rintro _ _ ⟨rfl, rfl⟩
 (refine bkz ?_; clear hK1 K1)
 (refine wk1 @Bool.not_true ?_;(repeat clear hK K);repeat refine kq fun K hK=>?_)
 refine cyz ?_
 (refine wk1 (an @tRows_len (an @tInts_c (an @tInts_len (an @List.length_map.{0, 0} (an @List.length_cons.{0} @List.length_nil.{0}))))) ?_;(repeat clear hK K);repeat refine kq fun K hK=>?_)
 have e0 : List.replicate R.length (C.v (.bool false)) = cBs (List.replicate R.length false) := by simp [cBs]
 rw [e0]
 refine aw_le (le_pick [0, 1, 3] rfl rfl) ?_
 (try simp only [List.set_nil, List.take_nil, List.take_zero, List.map_append, go_sem])
 (try simp only [cInts_ren, cBs_ren])
 have hAd : ∀ u, u < R.length → ∀ w ∈ AdjF t R u, w < R.length := fun u hu w hw => by
  unfold AdjF at hw
  rw [List.getD_eq_getElem?_getD, List.getElem?_eq_getElem hu, Option.getD_some] at hw
  obtain ⟨a, ha, rfl⟩ := List.mem_map.1 hw
  have h2 := hbd _ (List.getElem_mem hu) a (List.mem_filter.1 ha).1
  omega
 refine aw_loop (fun x : List Bool × List Nat × List Int => { tm := [(2, .b t), (3, .a (.c (.p 0 0))), (7, .a (.c (.s 1 R.length))), (8, .a (.c (.s 2 x.2.1.length)))], hp := [.r ⟨25, 1, false, [.t 1 (tRows R)]⟩, .r ⟨4, 1, true, cBs x.1⟩, .r ⟨3, 1, true, cInts (x.2.1.map Int.ofNat ++ x.2.2)⟩], n := 101, pin := 0 }) (fun x => Rs (AdjF t R) R.length F x.1 x.2.1 ∧ x.1.count false * 1000001 + x.2.1.length ≤ R.length * 1000001 + F.length) (fun x => x.1.count false * 1000001 + x.2.1.length) (List.replicate R.length false, F, []) ?_ ?_ ?_
 ·exact ⟨Rs.start hF, by simp⟩
 ·simp only [List.append_nil]
  exact lmz
 ·rintro ⟨B, Q, J⟩ ⟨hR, hM⟩ K hK
  simp only at hR hM
  have hBl := hR.len
  rcases List.eq_nil_or_concat Q with hQ | ⟨Q', u, hQ⟩
  ·subst hQ
   have d1 : decide (((0 : Nat) : Int) > 0) = false := rfl
   (refine wk1 @d1 ?_;(repeat clear hK K);repeat refine kq fun K hK=>?_)
   refine cyz ?_
   (refine ekz ?_;repeat clear hK K)
   (refine wk0 ?_;(repeat clear hK K);repeat refine kq fun K hK=>?_)
   refine aw_le (le_nil 11 3 1 ?_) ?_
   ·simp only [go_sem]
   refine aw_le (le_pick [0, 1, 3] rfl rfl) ?_
   (try simp only [List.set_nil, List.take_nil, List.take_zero, List.map_append, go_sem])
   (try simp only [cInts_ren, cBs_ren])
   refine aw_loop (fun k : Nat => { tm := [(7, .a (.c (.s 1 R.length))), (11, .a (.c (.s 2 ((List.range k).filter (seenB B)).length))), (12, .i k)], hp := [.r ⟨25, 1, false, [.t 1 (tRows R)]⟩, .r ⟨4, 1, true, cBs B⟩, .r ⟨3, 1, true, cInts (((List.range k).filter (seenB B)).map Int.ofNat)⟩], n := 101, pin := 0 }) (fun k => k ≤ R.length) (fun k => R.length - k) 0 ?_ ?_ ?_
   ·omega
   ·exact lmz
   ·rintro k hk K hK
    by_cases hlt : k < R.length
    ·have d2 : decide ((k : Int) < (R.length : Int)) = true := by simpa using hlt
     have gb : (cBs B)[k]? = some (.v (.bool B[k])) := cBs_get (List.getElem?_eq_getElem (by omega))
     have hsB : seenB B k = B[k] := by unfold seenB; rw [List.getD_eq_getElem?_getD, List.getElem?_eq_getElem (by omega)]; rfl
     have hrg : (List.range (k + 1)).filter (seenB B) = (List.range k).filter (seenB B) ++ (if seenB B k then [k] else []) := by
      rw [List.range_succ, List.filter_append]
      congr 1
      rw [List.filter_cons, List.filter_nil]
     have hfl : ((List.range k).filter (seenB B)).length ≤ k := by
      have := List.length_filter_le (seenB B) (List.range k)
      simpa using this
     have op1 := op_push ((List.range k).filter (seenB B)) k []
     simp only [List.append_nil] at op1
     generalize hQ : (List.range k).filter (seenB B) = Qk at *
     (refine wk1 (an @d2 (an @cBs_len @hBl)) ?_;(repeat clear hK K);repeat refine kq fun K hK=>?_)
     refine cxz ?_
     cases hb : B[k] with
     | true =>
      rw [hsB, hb] at hrg
      rw [hb] at gb
      (refine wk1 (an @gb (an @cBs_len @hBl)) ?_;(repeat clear hK K);repeat refine kq fun K hK=>?_)
      refine cxz ?_
      (refine wk1 (an @op1 (an @cInts_len (an @List.length_map.{0, 0} @Nat.le_refl))) ?_;(repeat clear hK K);repeat refine kq fun K hK=>?_)
      refine rnz ?_
      refine hK _ (k + 1) (by omega) (by omega) ?_
      refine Le.trans (le_pick [0, 1, 4] rfl rfl) ?_
      (try simp only [List.set_nil, List.take_nil, List.take_zero, List.map_append, go_sem])
      (try simp only [cInts_ren, cBs_ren])
      rw [List.range_succ] at hrg
      simp only [hrg, if_true, List.map_append, List.map_cons, List.map_nil, List.length_append, List.length_cons, List.length_nil]
      exact lmz
     | false =>
      rw [hsB, hb] at hrg
      rw [hb] at gb
      (refine wk1 (an @gb (an @cBs_len @hBl)) ?_;(repeat clear hK K);repeat refine kq fun K hK=>?_)
      refine cyz ?_
      (refine wk0 ?_;(repeat clear hK K);repeat refine kq fun K hK=>?_)
      refine rnz ?_
      refine hK _ (k + 1) (by omega) (by omega) ?_
      simp only [hrg, Bool.false_eq_true, if_false, List.append_nil]
      exact lmz
    ·have d2 : decide ((k : Int) < (R.length : Int)) = false := by simpa using hlt
     have hke : k = R.length := by omega
     rw [hke] at d2
     rw [hke]
     (refine wk1 (an @d2 (an @cBs_len @hBl)) ?_;(repeat clear hK K);repeat refine kq fun K hK=>?_)
     refine cyz ?_
     (refine ekz ?_;repeat clear hK K)
     (refine wk0 ?_;(repeat clear hK K);repeat refine kq fun K hK=>?_)
     refine rp1 [2] Tryz.results86 @cInts_ren ?_
     exact ⟨B, hBl, fun u => hR.done u, _, rfl, rfl, by simp⟩
  ·rw [List.concat_eq_append] at hQ
   subst hQ
   have hKo := hK
   have hQl : (Q' ++ [u]).length = Q'.length + 1 := by simp
   rw [hQl] at hM
   have d1 : decide (((Q'.length + 1 : Nat) : Int) > 0) = true := by simp
   have e5 : ((Q'.length + 1 : Nat) : Int) - 1 = (Q'.length : Int) := by omega
   have gt := stk_top Q' u J
   have hul := (hR.q u (by simp)).1
   have gb : (cBs B)[u]? = some (.v (.bool B[u])) := cBs_get (List.getElem?_eq_getElem (by omega))
   have hsB : seenB B u = B[u] := by unfold seenB; rw [List.getD_eq_getElem?_getD, List.getElem?_eq_getElem (by omega)]; rfl
   have hcl : Q'.length + 1 ≤ (Q'.map Int.ofNat ++ ((u : Int) :: J)).length := by simp
   rw [stk_cut, hQl]
   (refine wk1 @d1 ?_;(repeat clear hK K);repeat refine kq fun K hK=>?_)
   refine cxz ?_
   (refine wk1 (an @e5 (an @gt (an @cInts_len (an @cBs_len (an @hBl @gb))))) ?_;(repeat clear hK K);repeat refine kq fun K hK=>?_)
   cases hb : B[u] with
   | true =>
    rw [hb] at hsB
    (refine aw_cnd ?_; intro X Y hX hY; simp only [go_sem, hb])
    refine hX ?_
    clear hX hY X Y
    (refine aw_exit ?_; simp only [ThenA, InBl, reduceIte, Nat.reduceEqDiff])
    refine hKo _ (B, Q', (u : Int) :: J) ⟨hR.old hsB, by simp only; omega⟩ (by simp only [hQl]; omega) ?_
    exact lmz
   | false =>
    have hcs := countF_set (B := B) (u := u) (by omega) hb
    (refine aw_cnd ?_; intro X Y hX hY; simp only [go_sem, hb])
    refine hY ?_
    clear hX hY X Y
    (refine wks1 (an @cBs_len (an @hBl @cBs_set)) ?_;(repeat clear hK K);repeat refine kq fun K hK=>?_)
    have hgR := List.getElem?_eq_getElem hul
    have hrl := hr _ (List.getElem_mem hul)
    have hbu := hbd _ (List.getElem_mem hul)
    have hEu : AdjF t R u = (tauF t R[u]).map fun a => a.2.toNat := by
     unfold AdjF
     rw [List.getD_eq_getElem?_getD, hgR]; rfl
    have hnew := hR.new (hAd u hul)
    generalize hrr : R[u] = r at *
    have hql1 : Q'.length ≤ 1000002000001 := by omega
    refine aw_loop (fun x : Nat × List Int => { tm := [(2, .b t), (3, .a (.c (.p 0 0))), (7, .a (.c (.s 1 R.length))), (8, .a (.c (.s 2 (Q' ++ (tauF t (r.take x.1)).map fun a => a.2.toNat).length))), (9, .i u), (10, .i x.1)], hp := [.r ⟨25, 1, false, [.t 1 (tRows R)]⟩, .r ⟨4, 1, true, cBs (B.set u true)⟩, .r ⟨3, 1, true, cInts ((Q' ++ (tauF t (r.take x.1)).map fun a => a.2.toNat).map Int.ofNat ++ x.2)⟩], n := 101, pin := 0 }) (fun x => x.1 ≤ r.length) (fun x => r.length - x.1) (0, (u : Int) :: J) ?_ ?_ ?_
    ·simp only; omega
    ·simp only [List.take_zero, tauF, List.filter_nil, List.map_nil, List.append_nil]
     exact lmz
    ·rintro ⟨k, J2⟩ hk K hK
     simp only at hk
     have hQk : ((tauF t (r.take k)).map fun a => a.2.toNat).length ≤ k := by
      rw [List.length_map]
      refine Nat.le_trans (List.length_filter_le _ _) (by simp; omega)
     by_cases hlt : k < r.length
     ·have d2 : decide ((k : Int) < (r.length : Int)) = true := by simpa using hlt
      have ha0 := tArcs_c0 hlt
      have ha1 := tArcs_c1 hlt
      have hb2 := hbu _ (List.getElem_mem hlt)
      obtain ⟨tn, htn⟩ : ∃ tn : Nat, r[k].2 = tn := ⟨r[k].2.toNat, by omega⟩
      rw [htn] at ha1
      have hsn : tauF t (r.take (k + 1)) = tauF t (r.take k) ++ (if !t || r[k].1 == 0 then [r[k]] else []) := by
       rw [List.take_succ_eq_append_getElem hlt, tauF_snoc]
      have htm : (r[k].2.toNat) = tn := by rw [htn]; rfl
      have op1 := op_push (Q' ++ (tauF t (r.take k)).map fun a => a.2.toNat) tn J2
      have hQt : (Q' ++ (tauF t (r.take k)).map fun a => a.2.toNat).length ≤ 1000002000001 := by rw [List.length_append]; omega
      generalize hQ0 : (Q' ++ (tauF t (r.take k)).map fun a => a.2.toNat) = Qk at *
      have hQle : Qk.length ≤ (Qk.map Int.ofNat ++ J2).length := by simp
      cases t with
      | false =>
       rw [if_pos (by rfl)] at hsn
       (refine wk1 (an @d2 (an @tRows_len (an (tRows_get hgR) (an @tArcs_len @half2)))) ?_;(repeat clear hK K);repeat refine kq fun K hK=>?_)
       refine cxz ?_
       (refine wk1 (an @Bool.not_false (an @ha0 (an @ha1 (an @tRows_len (an (tRows_get hgR) (an @tArcs_len (an @half2 (an @op1 @cInts_len)))))))) ?_;(repeat clear hK K);repeat refine kq fun K hK=>?_)
       refine cxz ?_
       (refine wk1 (an @ha0 (an @ha1 (an @tRows_len (an (tRows_get hgR) (an @tArcs_len (an @half2 (an @op1 @cInts_len))))))) ?_;(repeat clear hK K);repeat refine kq fun K hK=>?_)
       refine rnz ?_
       refine hK _ (k + 1, []) (by simp only; omega) (by simp only; omega) ?_
       refine Le.trans (le_pick [0, 1, 4] rfl rfl) ?_
       (try simp only [List.set_nil, List.take_nil, List.take_zero, List.map_append, go_sem])
       (try simp only [cInts_ren, cBs_ren])
       rw [hsn]
       simp only [List.map_append, List.map_cons, List.map_nil, ← List.append_assoc, htm, ← hQ0, List.length_append, List.length_cons, List.length_nil]
       exact lmz
      | true =>
       cases q1 : (r[k].1 == 0) with
       | true =>
        rw [if_pos (by rw [q1]; rfl)] at hsn
        (refine wk1 (an @d2 (an @tRows_len (an (tRows_get hgR) (an @tArcs_len @half2)))) ?_;(repeat clear hK K);repeat refine kq fun K hK=>?_)
        refine cxz ?_
        (refine wk1 (an @Bool.not_true (an @q1 (an @ha0 (an @ha1 (an @tRows_len (an (tRows_get hgR) (an @tArcs_len (an @half2 (an @op1 @cInts_len))))))))) ?_;(repeat clear hK K);repeat refine kq fun K hK=>?_)
        refine cxz ?_
        (refine wk1 (an @ha0 (an @ha1 (an @tRows_len (an (tRows_get hgR) (an @tArcs_len (an @half2 (an @op1 @cInts_len))))))) ?_;(repeat clear hK K);repeat refine kq fun K hK=>?_)
        refine rnz ?_
        refine hK _ (k + 1, []) (by simp only; omega) (by simp only; omega) ?_
        refine Le.trans (le_pick [0, 1, 4] rfl rfl) ?_
        (try simp only [List.set_nil, List.take_nil, List.take_zero, List.map_append, go_sem])
        (try simp only [cInts_ren, cBs_ren])
        rw [hsn]
        simp only [List.map_append, List.map_cons, List.map_nil, ← List.append_assoc, htm, ← hQ0, List.length_append, List.length_cons, List.length_nil]
        exact lmz
       | false =>
        rw [if_neg (by rw [q1]; simp), List.append_nil] at hsn
        (refine wk1 (an @d2 (an @tRows_len (an (tRows_get hgR) (an @tArcs_len @half2)))) ?_;(repeat clear hK K);repeat refine kq fun K hK=>?_)
        refine cxz ?_
        (refine wk1 (an @Bool.not_true (an @q1 (an @ha0 (an @ha1 (an @tRows_len (an (tRows_get hgR) (an @tArcs_len (an @half2 (an @op1 @cInts_len))))))))) ?_;(repeat clear hK K);repeat refine kq fun K hK=>?_)
        refine cyz ?_
        (refine wk0 ?_;(repeat clear hK K);repeat refine kq fun K hK=>?_)
        refine rnz ?_
        refine hK _ (k + 1, J2) (by simp only; omega) (by simp only; omega) ?_
        simp only [hsn, hQ0]
        exact lmz
     ·have d2 : decide ((k : Int) < (r.length : Int)) = false := by simpa using hlt
      have hke : r.take k = r := List.take_of_length_le (by omega)
      rw [hke, ← hEu]
      (refine wk1 (an @d2 (an @tRows_len (an (tRows_get hgR) (an @tArcs_len @half2)))) ?_;(repeat clear hK K);repeat refine kq fun K hK=>?_)
      refine cyz ?_
      (refine aw_exit ?_; simp only [ThenA, InBl, reduceIte, Nat.reduceEqDiff])
      have hEl : (AdjF t R u).length ≤ 1000000 := by
       rw [hEu, List.length_map]
       exact Nat.le_trans (List.length_filter_le _ _) hrl
      refine hKo _ (B.set u true, Q' ++ AdjF t R u, J2) ⟨hnew, ?_⟩ ?_ ?_
      ·simp only [List.length_append]
       exact stack_le hcs hM (Nat.succ_le_succ hEl)
      ·simp only [List.length_append, hQl]; omega
      ·exact lmz
end Go.Proofs.YtglchakimolfdaaGreatDoor
namespace Go.Proofs.YtglchakimolfdaaGreatDoor
set_option linter.unusedVariables false
set_option linter.unusedSimpArgs false

def rowOf (r : List Ar) : List Ar := r.foldl (fun acc a => insA a acc) []
def numOne (num old : List Int) (t : Int) : List Int × List Int := if num.getD t.toNat 0 < 0 then (num.set t.toNat old.length, old ++ [t]) else (num, old)
def rowGo : List Ar → List Int → List Int → List Ar → List Int × List Int × List Ar
 | [], num, old, nxt => (num, old, nxt)
 | a :: tl, num, old, nxt => rowGo tl (numOne num old a.2).1 (numOne num old a.2).2 (insA (a.1, (numOne num old a.2).1.getD a.2.toNat 0) nxt)
def canGo (rows : List (List Ar)) : Nat → Nat → List Int → List Int → List (List Ar) → List (List Ar) × List Int
 | 0, _, _, old, out => (out, old)
 | f + 1, i, num, old, out => match old[i]? with
  | none => (out, old)
  | some s => canGo rows f (i + 1) (rowGo (rowOf (rows.getD s.toNat [])) num old []).1 (rowGo (rowOf (rows.getD s.toNat [])) num old []).2.1 (out ++ [(rowGo (rowOf (rows.getD s.toNat [])) num old []).2.2])
def canonR (rows : List (List Ar)) : List (List Ar) × List Int := canGo rows rows.length 0 ((List.replicate rows.length (-1)).set 0 0) [0] []

theorem mem_foldl_ins (r acc : List Ar) (a : Ar) : a ∈ r.foldl (fun acc a => insA a acc) acc ↔ a ∈ acc ∨ a ∈ r := by
 induction r generalizing acc with
 | nil => simp
 | cons x xs ih => rw [List.foldl_cons, ih, mem_insA, List.mem_cons, or_comm (a := a = x), or_assoc]
theorem mem_rowOf (r : List Ar) (a : Ar) : a ∈ rowOf r ↔ a ∈ r := by unfold rowOf; rw [mem_foldl_ins]; simp
theorem len_foldl_ins (r acc : List Ar) : (r.foldl (fun acc a => insA a acc) acc).length ≤ acc.length + r.length := by
 induction r generalizing acc with
 | nil => simp
 | cons x xs ih => rw [List.foldl_cons, List.length_cons]; have := ih (insA x acc); have := insA_len x acc; omega
theorem len_rowOf (r : List Ar) : (rowOf r).length ≤ r.length := by have := len_foldl_ins r []; simpa [rowOf] using this

structure NumOk (n : Nat) (num old : List Int) : Prop where
 len : num.length = n
 rng : ∀ x ∈ num, -1 ≤ x ∧ x < n
 st : ∀ s ∈ old, 0 ≤ s ∧ s < n
 cnt : old.length + num.countP (fun x => decide (x < 0)) = n
theorem countP_set {p : Int → Bool} {l : List Int} {i : Nat} {x y : Int} (h : l[i]? = some x) (hx : p x = true) (hy : p y = false) : (l.set i y).countP p + 1 = l.countP p := by
 induction l generalizing i with
 | nil => simp at h
 | cons z zs ih =>
  cases i with
  | zero => simp at h; subst h; simp [List.countP_cons, hx, hy]
  | succ i =>
   simp only [List.getElem?_cons_succ] at h
   have := ih h
   simp only [List.set_cons_succ, List.countP_cons]
   omega
theorem NumOk.le {n : Nat} {num old : List Int} (h : NumOk n num old) : old.length ≤ n := by have := h.cnt; omega
theorem NumOk.get {n : Nat} {num old : List Int} (h : NumOk n num old) {t : Int} (h0 : 0 ≤ t) (h1 : t < n) : ∃ x, num[t.toNat]? = some x ∧ num.getD t.toNat 0 = x ∧ -1 ≤ x ∧ x < n := by
 have hl : t.toNat < num.length := by rw [h.len]; omega
 exact ⟨num[t.toNat], List.getElem?_eq_getElem hl, by simp [hl], h.rng _ (List.getElem_mem hl)⟩
theorem NumOk.one {n : Nat} {num old : List Int} (h : NumOk n num old) {t : Int} (h0 : 0 ≤ t) (h1 : t < n) : NumOk n (numOne num old t).1 (numOne num old t).2 := by
 obtain ⟨x, hx, hd, hb⟩ := h.get h0 h1
 unfold numOne
 rw [hd]
 split
 ·rename_i hneg
  have hc := countP_set (p := fun x => decide (x < 0)) (y := (old.length : Int)) hx (by simpa using hneg) (by simp)
  have hcnt := h.cnt
  refine ⟨by simp [h.len], fun y hy => ?_, fun s hs => ?_, by simp; omega⟩
  ·rcases List.mem_or_eq_of_mem_set hy with hy | hy
   ·exact h.rng y hy
   ·subst hy; omega
  ·rcases List.mem_append.1 hs with hs | hs
   ·exact h.st s hs
   ·simp at hs; subst hs; exact ⟨h0, h1⟩
 ·exact h
theorem NumOk.go {n : Nat} : ∀ (r : List Ar) {num old : List Int} (nxt : List Ar), NumOk n num old → (∀ a ∈ r, 0 ≤ a.2 ∧ a.2 < n) → NumOk n (rowGo r num old nxt).1 (rowGo r num old nxt).2.1
 | [], _, _, _, h, _ => h
 | a :: tl, _, _, nxt, h, hr => NumOk.go tl _ (h.one (hr a (by simp)).1 (hr a (by simp)).2) (fun b hb => hr b (List.mem_cons_of_mem _ hb))
theorem NumOk.start {n : Nat} (hn : 0 < n) : NumOk n ((List.replicate n (-1)).set 0 0) [0] := by
 obtain ⟨k, rfl⟩ : ∃ k, n = k + 1 := ⟨n - 1, by omega⟩
 refine ⟨by simp, fun x hx => ?_, fun s hs => ?_, ?_⟩
 ·rcases List.mem_or_eq_of_mem_set hx with h | h
  ·rw [(List.mem_replicate.1 h).2]; omega
  ·subst h; omega
 ·simp at hs; subst hs; omega
 ·simp [List.replicate_succ, List.countP_replicate]; omega


theorem canGo_stop {rows : List (List Ar)} {f i : Nat} {num old : List Int} {out : List (List Ar)} (h : old.length ≤ i) : canGo rows f i num old out = (out, old) := by
 cases f with
 | zero => rfl
 | succ f => simp [canGo, List.getElem?_eq_none h]
theorem canGo_step {rows : List (List Ar)} {n i : Nat} {num old : List Int} {out : List (List Ar)} {s : Int} {r : List Ar} (hi : i < n) (hs : old[i]? = some s) (hr : rows[s.toNat]? = some r) {row : List Ar} (hrow : row = rowOf r) :
  canGo rows (n - i) i num old out = canGo rows (n - (i + 1)) (i + 1) (rowGo row num old []).1 (rowGo row num old []).2.1 (out ++ [(rowGo row num old []).2.2]) := by
 obtain ⟨m, hm⟩ : ∃ m, n - i = m + 1 := ⟨n - i - 1, by omega⟩
 have hm' : n - (i + 1) = m := by omega
 rw [hm, hm', canGo, hs, hrow]
 have : rows.getD s.toNat [] = r := by simp [List.getD, hr]
 simp only [this]

def compGo (p : Ar) : List Ar → List Ar
 | [] => []
 | y :: ys => if y = p then compGo p ys else y :: compGo y ys
def compL : List Ar → List Ar
 | [] => []
 | x :: xs => x :: compGo x xs


theorem sorted_ext : ∀ {l m : List Ar}, SortA l → SortA m → (∀ a, a ∈ l ↔ a ∈ m) → l = m
 | [], [], _, _, _ => rfl
 | [], b :: m, _, _, h => by have := (h b).2 (by simp); simp at this
 | a :: l, [], _, _, h => by have := (h a).1 (by simp); simp at this
 | a :: l, b :: m, hl, hm, h => by
  have hl' := List.pairwise_cons.1 hl
  have hm' := List.pairwise_cons.1 hm
  have hab : a = b := by
   rcases List.mem_cons.1 ((h a).1 (by simp)) with e | e
   ·exact e
   ·rcases List.mem_cons.1 ((h b).2 (by simp)) with e' | e'
    ·exact e'.symm
    ·have h1 := hm'.1 a e
     have h2 := hl'.1 b e'
     rw [ltA_iff] at h1 h2; omega
  subst hab
  congr 1
  refine sorted_ext hl'.2 hm'.2 fun c => ⟨fun hc => ?_, fun hc => ?_⟩
  ·rcases List.mem_cons.1 ((h c).1 (List.mem_cons_of_mem _ hc)) with e | e
   ·subst e; have := hl'.1 c hc; rw [ltA_irr] at this; cases this
   ·exact e
  ·rcases List.mem_cons.1 ((h c).2 (List.mem_cons_of_mem _ hc)) with e | e
   ·subst e; have := hm'.1 c hc; rw [ltA_irr] at this; cases this
   ·exact e
def LeA (a b : Ar) : Prop := ltA b a = false
theorem compGo_mem (p : Ar) (l : List Ar) (a : Ar) : a ∈ p :: compGo p l ↔ a ∈ p :: l := by
 induction l generalizing p with
 | nil => simp [compGo]
 | cons y ys ih =>
  unfold compGo
  split
  ·rename_i h; subst h; rw [ih]; simp
  ·have := ih y
   simp only [List.mem_cons] at this ⊢
   rw [this]
theorem compGo_sorted (p : Ar) (l : List Ar) (h : (p :: l).Pairwise LeA) : SortA (p :: compGo p l) := by
 induction l generalizing p with
 | nil => simp [compGo, SortA]
 | cons y ys ih =>
  have h1 := List.pairwise_cons.1 h
  have h2 := List.pairwise_cons.1 h1.2
  unfold compGo
  split
  ·rename_i e; subst e
   exact ih _ (List.pairwise_cons.2 ⟨fun a ha => h2.1 a ha, h2.2⟩)
  ·rename_i e
   have hy := ih y h1.2
   refine List.pairwise_cons.2 ⟨fun a ha => ?_, hy⟩
   have hpy : ltA p y = true := by
    have := h1.1 y (by simp)
    rcases ltA_tri p y with h | h | h
    ·exact h
    ·exact absurd h.symm e
    ·unfold LeA at this; rw [h] at this; cases this
   rcases List.mem_cons.1 ha with rfl | ha
   ·exact hpy
   ·exact ltA_trans hpy ((List.pairwise_cons.1 hy).1 a ha)
theorem rowOf_sorted (r : List Ar) : SortA (rowOf r) := by
 unfold rowOf
 have : ∀ (l acc : List Ar), SortA acc → SortA (l.foldl (fun acc a => insA a acc) acc) := by
  intro l
  induction l with
  | nil => intro acc h; exact h
  | cons x xs ih => intro acc h; exact ih _ (insA_sort h)
 exact this r [] List.Pairwise.nil
theorem comp_sort {r q : List Ar} (hp : q.Perm r) (h : q.Pairwise LeA) : compL q = rowOf r := by
 refine sorted_ext ?_ (rowOf_sorted r) fun a => ?_
 ·cases q with
  | nil => exact List.Pairwise.nil
  | cons x xs => exact compGo_sorted x xs h
 ·rw [mem_rowOf, ← hp.mem_iff]
  cases q with
  | nil => simp [compL]
  | cons x xs => exact compGo_mem x xs a
theorem sort_nodup {r q : List Ar} (h : r.Nodup) (hp : q.Perm r) (h1 : q.Pairwise LeA) : q = rowOf r := by
 refine sorted_ext ?_ (rowOf_sorted r) fun a => by rw [mem_rowOf, hp.mem_iff]
 have h2 := hp.symm.nodup h
 refine (List.pairwise_iff_forall_sublist.2 ?_)
 intro a b hab
 have hle := List.pairwise_iff_forall_sublist.1 h1 hab
 have hne := List.pairwise_iff_forall_sublist.1 h2 hab
 rcases ltA_tri a b with h | h | h
 ·exact h
 ·exact absurd h hne
 ·unfold LeA at hle; rw [h] at hle; cases hle
def numL : List Ar → List Int → List Int → List Int × List Int × List Ar
 | [], num, old => (num, old, [])
 | a :: tl, num, old =>
  ((numL tl (numOne num old a.2).1 (numOne num old a.2).2).1, (numL tl (numOne num old a.2).1 (numOne num old a.2).2).2.1,
   (a.1, (numOne num old a.2).1.getD a.2.toNat 0) :: (numL tl (numOne num old a.2).1 (numOne num old a.2).2).2.2)
theorem rowGo_numL (r : List Ar) (num old : List Int) (nxt : List Ar) :
  rowGo r num old nxt = ((numL r num old).1, (numL r num old).2.1, (numL r num old).2.2.foldl (fun acc a => insA a acc) nxt) := by
 induction r generalizing num old nxt with
 | nil => rfl
 | cons a tl ih => simp only [rowGo, numL, ih, List.foldl_cons]
structure NumInj (num old : List Int) : Prop where
 inj : ∀ (t : Nat) (x : Int), num[t]? = some x → 0 ≤ x → old[x.toNat]? = some (t : Int)
theorem NumInj.one {num old : List Int} (h : NumInj num old) {t : Int} (h0 : 0 ≤ t) (h1 : t < num.length) : NumInj (numOne num old t).1 (numOne num old t).2 := by
 unfold numOne
 split
 ·refine ⟨fun s x hx hp => ?_⟩
  rw [List.getElem?_set] at hx
  split at hx
  ·rename_i hs
   rw [if_pos (by omega)] at hx
   injection hx with hx
   subst hx
   simp
   omega
  ·have := h.inj s x hx hp
   rw [List.getElem?_append_left (List.getElem?_eq_some_iff.1 this).1]
   exact this
 ·exact h
theorem numOne_len (num old : List Int) (t : Int) : (numOne num old t).1.length = num.length := by unfold numOne; split <;> simp
theorem numOne_keep {num old : List Int} {t : Int} {s : Nat} {x : Int} (h0 : 0 ≤ t) (hx : num[s]? = some x) (hp : 0 ≤ x) : (numOne num old t).1[s]? = some x := by
 unfold numOne
 split
 ·rename_i hneg
  simp only [List.getElem?_set]
  split
  ·rename_i hs
   subst hs
   simp [List.getD, hx] at hneg
   omega
  ·exact hx
 ·exact hx
theorem numOne_at {num old : List Int} {t : Int} (h0 : 0 ≤ t) (h1 : t < num.length) : ∃ x, (numOne num old t).1[t.toNat]? = some x ∧ 0 ≤ x := by
 unfold numOne
 split
 ·exact ⟨_, by rw [List.getElem?_set, if_pos rfl, if_pos (by omega)], by omega⟩
 ·rename_i hneg
  have hl : t.toNat < num.length := by omega
  refine ⟨num[t.toNat], List.getElem?_eq_getElem hl, ?_⟩
  simpa [List.getD, List.getElem?_eq_getElem hl] using hneg
theorem numL_keep (r : List Ar) {num old : List Int} (hr : ∀ a ∈ r, 0 ≤ a.2) {s : Nat} {x : Int} (hx : num[s]? = some x) (hp : 0 ≤ x) : (numL r num old).1[s]? = some x := by
 induction r generalizing num old with
 | nil => exact hx
 | cons a tl ih => exact ih (fun b hb => hr b (by simp [hb])) (numOne_keep (hr a (by simp)) hx hp)
theorem numL_inj (r : List Ar) {num old : List Int} (hr : ∀ a ∈ r, 0 ≤ a.2 ∧ a.2 < num.length) (h : NumInj num old) : NumInj (numL r num old).1 (numL r num old).2.1 := by
 induction r generalizing num old with
 | nil => exact h
 | cons a tl ih =>
  have ha := hr a (by simp)
  exact ih (fun b hb => by rw [numOne_len]; exact hr b (by simp [hb])) (h.one ha.1 ha.2)
theorem numL_map (r : List Ar) {num old : List Int} (hr : ∀ a ∈ r, 0 ≤ a.2 ∧ a.2 < num.length) :
  (numL r num old).2.2 = r.map (fun a => (a.1, (numL r num old).1.getD a.2.toNat 0)) ∧ ∀ a ∈ r, ∃ x, (numL r num old).1[a.2.toNat]? = some x ∧ 0 ≤ x := by
 induction r generalizing num old with
 | nil => exact ⟨rfl, by simp⟩
 | cons a tl ih =>
  have ha := hr a (by simp)
  obtain ⟨i1, i2⟩ := ih (num := (numOne num old a.2).1) (old := (numOne num old a.2).2) (fun b hb => by rw [numOne_len]; exact hr b (by simp [hb]))
  obtain ⟨x, hx, hp⟩ := numOne_at (old := old) ha.1 ha.2
  have hk := numL_keep (old := (numOne num old a.2).2) tl (fun b hb => (hr b (by simp [hb])).1) hx hp
  refine ⟨?_, fun b hb => ?_⟩
  ·simp only [numL, List.map_cons]
   congr 1
   simp [List.getD, hx, hk]
  ·rcases List.mem_cons.1 hb with rfl | hb
   ·exact ⟨x, hk, hp⟩
   ·exact i2 b hb
theorem numL_nodup (r : List Ar) {num old : List Int} (hs : SortA r) (hr : ∀ a ∈ r, 0 ≤ a.2 ∧ a.2 < num.length) (h : NumInj num old) : (numL r num old).2.2.Nodup := by
 obtain ⟨h1, h2⟩ := numL_map (old := old) r hr
 have hi := numL_inj r hr h
 rw [h1, List.Nodup, List.pairwise_map]
 have hnd : r.Pairwise (· ≠ ·) := hs.imp (fun {a b} hab e => by subst e; rw [ltA_irr] at hab; cases hab)
 refine hnd.imp_of_mem (fun {a b} ha hb hne e => hne ?_)
 obtain ⟨x, hx, hxp⟩ := h2 a ha
 obtain ⟨y, hy, hyp⟩ := h2 b hb
 have ha' := hr a ha
 have hb' := hr b hb
 simp only [Prod.mk.injEq, List.getD, hx, hy, Option.getD_some] at e
 obtain ⟨e1, e2⟩ := e
 subst e2
 have q1 := hi.inj _ _ hx hxp
 have q2 := hi.inj _ _ hy hxp
 rw [q1] at q2
 injection q2 with q2
 rcases a with ⟨a1, a2⟩
 rcases b with ⟨b1, b2⟩
 simp only at *
 have : a2 = b2 := by omega
 rw [e1, this]
theorem NumInj.start {n : Nat} (hn : 0 < n) : NumInj ((List.replicate n (-1)).set 0 0) [0] := ⟨fun t x hx hp => by
 rw [List.getElem?_set] at hx
 split at hx
 ·rename_i h
  subst h
  simp [hn] at hx
  subst hx; rfl
 ·rw [List.getElem?_replicate] at hx
  split at hx
  ·cases hx; omega
  ·cases hx⟩

theorem numL_neg {tl : List Ar} {num old : List Int} {e x : Int} {tn L : Nat} (hx : num[tn]? = some x) (hneg : x < 0) (hL : old.length = L) :
  numL ((e, (tn : Int)) :: tl) num old = ((numL tl (num.set tn L) (old ++ [(tn : Int)])).1, (numL tl (num.set tn L) (old ++ [(tn : Int)])).2.1, (e, (L : Int)) :: (numL tl (num.set tn L) (old ++ [(tn : Int)])).2.2) := by
 have hl : tn < num.length := (List.getElem?_eq_some_iff.1 hx).1
 have h1 : numOne num old (tn : Int) = (num.set tn L, old ++ [(tn : Int)]) := by
  simp only [numOne, Int.toNat_natCast, List.getD, hx, Option.getD_some, if_pos hneg, hL]
 simp only [numL, h1, Int.toNat_natCast]
 simp [List.getD, hl]
theorem numL_pos {tl : List Ar} {num old : List Int} {e x : Int} {tn : Nat} (hx : num[tn]? = some x) (hpos : ¬ x < 0) :
  numL ((e, (tn : Int)) :: tl) num old = ((numL tl num old).1, (numL tl num old).2.1, (e, x) :: (numL tl num old).2.2) := by
 have h1 : numOne num old (tn : Int) = (num, old) := by
  simp only [numOne, Int.toNat_natCast, List.getD, hx, Option.getD_some, if_neg hpos]
 simp only [numL, h1, Int.toNat_natCast, List.getD, hx, Option.getD_some]
def NL (R : List Int × List Int × List Ar) (ya q : List Ar) (k : Nat) (num old : List Int) : Prop :=
 ya.take k ++ (numL (q.drop k) num old).2.2 = R.2.2 ∧ (numL (q.drop k) num old).1 = R.1 ∧ (numL (q.drop k) num old).2.1 = R.2.1 ∧ ya.drop k = q.drop k
theorem NL.neg {R : List Int × List Int × List Ar} {ya q : List Ar} {k : Nat} {num old : List Int} {e x : Int} {tn L : Nat} (h : NL R ya q k num old) (hk : ya[k]? = some (e, (tn : Int))) (hx : num[tn]? = some x) (hneg : x < 0) (hL : old.length = L) :
  NL R (ya.set k (e, (L : Int))) q (k + 1) (num.set tn L) (old ++ [(tn : Int)]) := by
 obtain ⟨h1, h2, h3, h4⟩ := h
 have hl := (List.getElem?_eq_some_iff.1 hk).1
 have hd : q.drop k = (e, (tn : Int)) :: q.drop (k + 1) := by
  have h5 : ya.drop k = (e, (tn : Int)) :: ya.drop (k + 1) := by
   rw [List.drop_eq_getElem_cons hl]; congr 1
   rw [List.getElem?_eq_getElem hl] at hk; exact Option.some.inj hk
  have h6 := congrArg (List.drop 1) h4
  rw [List.drop_drop, List.drop_drop] at h6
  rw [← h4, h5, h6]
 rw [hd, numL_neg hx hneg hL] at h1 h2 h3
 refine ⟨?_, h2, h3, ?_⟩
 ·rw [← h1, List.take_add_one, List.take_set_of_le (Nat.le_refl k)]
  simp [List.getElem?_set, hl]
 ·rw [List.drop_set, if_pos (by omega)]
  have h6 := congrArg (List.drop 1) h4
  rwa [List.drop_drop, List.drop_drop] at h6
theorem NL.pos {R : List Int × List Int × List Ar} {ya q : List Ar} {k : Nat} {num old : List Int} {e x : Int} {tn : Nat} (h : NL R ya q k num old) (hk : ya[k]? = some (e, (tn : Int))) (hx : num[tn]? = some x) (hpos : ¬ x < 0) :
  NL R (ya.set k (e, x)) q (k + 1) num old := by
 obtain ⟨h1, h2, h3, h4⟩ := h
 have hl := (List.getElem?_eq_some_iff.1 hk).1
 have hd : q.drop k = (e, (tn : Int)) :: q.drop (k + 1) := by
  have h5 : ya.drop k = (e, (tn : Int)) :: ya.drop (k + 1) := by
   rw [List.drop_eq_getElem_cons hl]; congr 1
   rw [List.getElem?_eq_getElem hl] at hk; exact Option.some.inj hk
  have h6 := congrArg (List.drop 1) h4
  rw [List.drop_drop, List.drop_drop] at h6
  rw [← h4, h5, h6]
 rw [hd, numL_pos hx hpos] at h1 h2 h3
 refine ⟨?_, h2, h3, ?_⟩
 ·rw [← h1, List.take_add_one, List.take_set_of_le (Nat.le_refl k)]
  simp [List.getElem?_set, hl]
 ·rw [List.drop_set, if_pos (by omega)]
  have h6 := congrArg (List.drop 1) h4
  rwa [List.drop_drop, List.drop_drop] at h6


def tlA (f : Nat → Nat) (c : Nat) (o : List (List Ar)) (a : Ar) : List (List Ar) := o.set c (o.getD c [] ++ [(a.1, (f a.2.toNat : Int))])
def tlRow (f : Nat → Nat) (c : Nat) (o : List (List Ar)) (row : List Ar) : List (List Ar) := row.foldl (tlA f c) o
theorem tlA_len (f : Nat → Nat) (c : Nat) (o : List (List Ar)) (a : Ar) : (tlA f c o a).length = o.length := by simp [tlA]
theorem Rc.lt {E : Nat → List Nat} {n u v : Nat} (h : Rc E u v) (hu : u < n) (hE : ∀ x, x < n → ∀ y ∈ E x, y < n) : v < n := by
 induction h with
 | refl => exact hu
 | tail _ he ih => exact hE _ ih _ he
theorem adj_lt {R : List (List Ar)} (t : Bool) (hv : looB R = true) : ∀ x, x < R.length → ∀ y ∈ Adj t R x, y < R.length := by
 intro x hx y hy
 unfold Adj at hy
 rw [List.getD_eq_getElem?_getD, List.getElem?_eq_getElem hx, Option.getD_some] at hy
 obtain ⟨a, ha, rfl⟩ := List.mem_map.1 hy
 have h1 : a ∈ R[x] := by
  unfold tauOf at ha
  split at ha
  ·exact (List.takeWhile_sublist _).subset ha
  ·exact ha
 have h2 := (of_decide_eq_true hv).2.2.2 _ (List.getElem_mem hx) a h1
 omega
theorem totA_set (o : List (List Ar)) {c : Nat} (h : c < o.length) (x : Ar) : totA (o.set c (o.getD c [] ++ [x])) = totA o + 1 := by
 induction o generalizing c with
 | nil => simp at h
 | cons a r ih =>
  cases c with
  | zero => simp [totA]; omega
  | succ c =>
   have := ih (c := c) (by simpa using h)
   simp only [List.set_cons_succ, List.getD_cons_succ]
   simp only [totA, List.map_cons, List.sum_cons] at this ⊢
   omega
theorem totA_row (o : List (List Ar)) (c : Nat) : (o.getD c []).length ≤ totA o := by
 induction o generalizing c with
 | nil => simp
 | cons a r ih =>
  cases c with
  | zero => simp [totA]
  | succ c =>
   have := ih c
   simp only [List.getD_cons_succ]
   simp only [totA, List.map_cons, List.sum_cons] at this ⊢
   omega
theorem totA_rep (m : Nat) : totA (List.replicate m []) = 0 := by
 unfold totA
 rw [List.map_replicate, List.sum_replicate_nat]; simp
def TlP (m : Nat) (o : List (List Ar)) : Prop := ∀ r ∈ o, ∀ a ∈ r, 0 ≤ a.1 ∧ a.1 ≤ 1025 ∧ 0 ≤ a.2 ∧ a.2 < (m : Int)
theorem TlP.one {f : Nat → Nat} {m c : Nat} {o : List (List Ar)} {a : Ar} (h : TlP m o) (ha : 0 ≤ a.1 ∧ a.1 ≤ 1025) (hf : f a.2.toNat < m) : TlP m (tlA f c o a) := by
 intro r hr b hb
 rcases List.mem_or_eq_of_mem_set hr with h1 | h1
 ·exact h r h1 b hb
 ·subst h1
  rcases List.mem_append.1 hb with h2 | h2
  ·rw [List.getD_eq_getElem?_getD] at h2
   rcases Nat.lt_or_ge c o.length with h3 | h3
   ·rw [List.getElem?_eq_getElem h3, Option.getD_some] at h2
    exact h _ (List.getElem_mem h3) b h2
   ·rw [List.getElem?_eq_none h3] at h2; simp at h2
  ·simp at h2; subst h2
   exact ⟨ha.1, ha.2, by simp only; omega, by simp only; omega⟩
theorem tau_sorted {r : List Ar} (hs : SortA r) (h0 : ∀ a ∈ r, 0 ≤ a.1) (t : Bool) : tauF t r = tauOf t r := by
 cases t with
 | false => unfold tauF tauOf; simp
 | true =>
  unfold tauF tauOf
  rw [if_pos rfl]
  simp only [Bool.not_true, Bool.false_or]
  induction r with
  | nil => rfl
  | cons a r ih =>
   have hs2 := List.pairwise_cons.1 hs
   by_cases h : (a.1 == 0) = true
   ·rw [List.filter_cons, if_pos h, List.takeWhile_cons, if_pos h, ih hs2.2 fun b hb => h0 b (List.mem_cons_of_mem _ hb)]
   ·rw [List.filter_cons, if_neg h, List.takeWhile_cons, if_neg h]
    refine List.filter_eq_nil_iff.2 fun b hb => ?_
    have h1 := hs2.1 b hb
    rw [ltA_iff] at h1
    have h2 := h0 a List.mem_cons_self
    have h3 : a.1 ≠ 0 := fun e => h (by simp [e])
    have : b.1 ≠ 0 := by omega
    simpa using this
theorem adj_eq {R : List (List Ar)} (t : Bool) (hv : valB R = true) : AdjF t R = Adj t R := by
 funext v
 unfold AdjF Adj
 rcases Nat.lt_or_ge v R.length with h | h
 ·rw [List.getD_eq_getElem?_getD, List.getElem?_eq_getElem h, Option.getD_some]
  have h2 := of_decide_eq_true hv
  rw [tau_sorted (h2.2 _ (List.getElem_mem h)) fun a ha => (h2.1.2.2.2 _ (List.getElem_mem h) a ha).1]
 ·rw [List.getD_eq_getElem?_getD, List.getElem?_eq_none h, Option.getD_none]
  cases t <;> rfl
theorem Least.uniq {E : Nat → List Nat} {v : Nat} {x y : Int} (h1 : Least E v x) (h2 : Least E v y) : x = y := by
 obtain ⟨m, a1, a2, a3, a4⟩ := h1
 obtain ⟨k, b1, b2, b3, b4⟩ := h2
 have := a4 k b2 b3
 have := b4 m a2 a3
 omega
open Go.RowKit
set_option maxRecDepth 100000
attribute [local go_sem] List.set_cons_zero List.set_cons_succ List.map_cons List.map_nil List.take_succ_cons List.take_zero List.drop_zero List.drop_succ_cons C.pl C.one List.all_cons List.all_nil Bool.and_true Nat.mul_one Int.toNat_natCast
def cSetsO (L : List (List Int)) : List C := L.map fun r => C.o (1, 3) (tInts r)
theorem cSetsO_len (L : List (List Int)) : (cSetsO L).length = L.length := by simp [cSetsO]
theorem cSetsO_set (L : List (List Int)) (i : Nat) (x : List Int) : (cSetsO L).set i (.o (1, 3) (tInts x)) = cSetsO (L.set i x) := by simp [cSetsO, List.map_set]
theorem cSetsO_ren (f : List Nat) (L : List (List Int)) : (cSetsO L).map (C.ren f) = cSetsO L := by simp [cSetsO, C.ren, Function.comp_def]
theorem tInts_one (x : Int) : (tInts [x]).take 1 = tInts [x] := rfl
def RowOk (E : Nat → List Nat) (n j : Nat) (L : List Int) : Prop := ∃ B : List Bool, B.length = n ∧ (∀ u, seenB B u = true ↔ Rc E j u) ∧ L = ((List.range n).filter (seenB B)).map Int.ofNat
theorem RowOk.len {E : Nat → List Nat} {n j : Nat} {L : List Int} (h : RowOk E n j L) : L.length ≤ n := by
 obtain ⟨B, _, h2, rfl⟩ := h
 rw [List.length_map]
 have := List.length_filter_le (seenB B) (List.range n)
 simpa using this
def Dv (R : List (List Ar)) (s : Nat) : Prop := ∃ g, Rc (Adj true R) s g ∧ ∃ w, w ∈ Adj true R g ∧ Rc (Adj true R) w g
def bfA (s : Nat) (o : List (List Int)) (a : Ar) : List (List Int) := o.set a.2.toNat (o.getD a.2.toNat [] ++ [(s : Int)])
def bfRow (s : Nat) (o : List (List Int)) (row : List Ar) : List (List Int) := row.foldl (bfA s) o
def bfL (R : List (List Ar)) : Nat → List (List Int)
 | 0 => List.replicate R.length []
 | k + 1 => bfRow k (bfL R k) (tauOf true (R.getD k []))
def totI (o : List (List Int)) : Nat := (o.map List.length).sum
theorem bfA_len (s : Nat) (o : List (List Int)) (a : Ar) : (bfA s o a).length = o.length := by simp [bfA]
theorem bfRow_len (s : Nat) (row : List Ar) : ∀ o, (bfRow s o row).length = o.length := by
 induction row with
 | nil => intro o; rfl
 | cons a r ih => intro o; show (bfRow s (bfA s o a) r).length = _; rw [ih, bfA_len]
theorem bfL_len (R : List (List Ar)) (k : Nat) : (bfL R k).length = R.length := by
 induction k with
 | zero => simp [bfL]
 | succ k ih => rw [bfL, bfRow_len, ih]
theorem bfRow_snoc (s : Nat) (o : List (List Int)) (row : List Ar) (a : Ar) : bfRow s o (row ++ [a]) = bfA s (bfRow s o row) a := by unfold bfRow; rw [List.foldl_append]; rfl
theorem totI_set (o : List (List Int)) {c : Nat} (h : c < o.length) (x : Int) : totI (o.set c (o.getD c [] ++ [x])) = totI o + 1 := by
 induction o generalizing c with
 | nil => simp at h
 | cons y r ih =>
  cases c with
  | zero => simp [totI]; omega
  | succ c =>
   have := ih (c := c) (by simpa using h)
   simp only [List.set_cons_succ, List.getD_cons_succ]
   simp only [totI, List.map_cons, List.sum_cons] at this ⊢
   omega
theorem totI_row (o : List (List Int)) (c : Nat) : (o.getD c []).length ≤ totI o := by
 induction o generalizing c with
 | nil => simp
 | cons y r ih =>
  cases c with
  | zero => simp [totI]
  | succ c =>
   have := ih c
   simp only [List.getD_cons_succ]
   simp only [totI, List.map_cons, List.sum_cons] at this ⊢
   omega
theorem totI_bf (s : Nat) (row : List Ar) : ∀ o : List (List Int), (∀ a ∈ row, a.2.toNat < o.length) → totI (bfRow s o row) = totI o + row.length := by
 induction row with
 | nil => intro o _; rfl
 | cons a r ih =>
  intro o h
  show totI (bfRow s (bfA s o a) r) = _
  rw [ih _ (by rw [bfA_len]; exact fun b hb => h b (List.mem_cons_of_mem _ hb))]
  unfold bfA
  rw [totI_set o (h a (by simp))]
  simp only [List.length_cons]; omega
theorem mem_bfA {s t : Nat} {o : List (List Int)} {a : Ar} {x : Int} (h : a.2.toNat < o.length) : x ∈ (bfA s o a).getD t [] ↔ x ∈ o.getD t [] ∨ (a.2.toNat = t ∧ x = (s : Int)) := by
 unfold bfA
 rw [List.getD_eq_getElem?_getD]
 by_cases e : a.2.toNat = t
 ·subst e
  rw [List.getElem?_set_self h, Option.getD_some, List.mem_append]
  simp
 ·rw [List.getElem?_set_ne e, ← List.getD_eq_getElem?_getD]
  simp [e]
theorem mem_bfRow {s t : Nat} {x : Int} : ∀ (row : List Ar) (o : List (List Int)), (∀ a ∈ row, a.2.toNat < o.length) → (x ∈ (bfRow s o row).getD t [] ↔ x ∈ o.getD t [] ∨ (x = (s : Int) ∧ t ∈ row.map fun a => a.2.toNat)) := by
 intro row
 induction row with
 | nil => intro o _; simp [bfRow]
 | cons a r ih =>
  intro o h
  show x ∈ (bfRow s (bfA s o a) r).getD t [] ↔ _
  rw [ih _ (by rw [bfA_len]; exact fun b hb => h b (List.mem_cons_of_mem _ hb)), mem_bfA (h a (by simp))]
  simp only [List.map_cons, List.mem_cons]
  constructor
  ·rintro ((h | ⟨h1, h2⟩) | ⟨h1, h2⟩)
   ·exact .inl h
   ·exact .inr ⟨h2, .inl h1.symm⟩
   ·exact .inr ⟨h1, .inr h2⟩
  ·rintro (h | ⟨h1, h2 | h2⟩)
   ·exact .inl (.inl h)
   ·exact .inl (.inr ⟨h2.symm, h1⟩)
   ·exact .inr ⟨h1, h2⟩
theorem tauOf_sub {t : Bool} {r : List Ar} : ∀ a ∈ tauOf t r, a ∈ r := fun a ha => by
 unfold tauOf at ha
 split at ha
 ·exact (List.takeWhile_sublist _).subset ha
 ·exact ha
theorem tauOf_len (t : Bool) (r : List Ar) : (tauOf t r).length ≤ r.length := by
 unfold tauOf
 split
 ·exact (List.takeWhile_sublist _).length_le
 ·exact Nat.le_refl _
theorem tau_lt {R : List (List Ar)} (hlo : looB R = true) {k : Nat} : ∀ a ∈ tauOf true (R.getD k []), 0 ≤ a.2 ∧ a.2.toNat < R.length := fun a ha => by
 have h1 := tauOf_sub a ha
 rcases Nat.lt_or_ge k R.length with h | h
 ·rw [List.getD_eq_getElem?_getD, List.getElem?_eq_getElem h] at h1
  have := (of_decide_eq_true hlo).2.2.2 _ (List.getElem_mem h) a h1
  omega
 ·rw [List.getD_eq_getElem?_getD, List.getElem?_eq_none h] at h1; simp at h1
theorem mem_bfL {R : List (List Ar)} (hlo : looB R = true) {t : Nat} {x : Int} : ∀ k, x ∈ (bfL R k).getD t [] ↔ ∃ s, s < k ∧ x = (s : Int) ∧ t ∈ Adj true R s := by
 intro k
 induction k with
 | zero =>
  simp only [bfL, List.getD_eq_getElem?_getD, List.getElem?_replicate]
  split <;> simp
 | succ k ih =>
  rw [bfL, mem_bfRow _ _ (by rw [bfL_len]; exact fun a ha => (tau_lt hlo a ha).2), ih]
  constructor
  ·rintro (⟨s, h1, h2, h3⟩ | ⟨h1, h2⟩)
   ·exact ⟨s, by omega, h2, h3⟩
   ·exact ⟨k, by omega, h1, h2⟩
  ·rintro ⟨s, h1, h2, h3⟩
   by_cases e : s = k
   ·subst e; exact .inr ⟨h2, h3⟩
   ·exact .inl ⟨s, by omega, h2, h3⟩
theorem totI_bfL {R : List (List Ar)} (hlo : looB R = true) : ∀ k, k ≤ R.length → totI (bfL R k) ≤ totA (R.take k) := by
 intro k
 induction k with
 | zero => intro _; simp [bfL, totI, totA]
 | succ k ih =>
  intro hk
  have h1 := ih (by omega)
  have h2 := totA_take (R := R) (k := k) hk
  have h3 := tauOf_len true (R.getD k [])
  have h4 : R.getD k [] = R[k] := by rw [List.getD_eq_getElem?_getD, List.getElem?_eq_getElem hk]; rfl
  rw [bfL, totI_bf _ _ _ (by rw [bfL_len]; exact fun a ha => (tau_lt hlo a ha).2)]
  rw [h4] at h3 ⊢
  omega
structure Bq (E : Nat → List Nat) (n : Nat) (G : Nat → Prop) (O : List Int) (Q : List Nat) : Prop where
 len : O.length = n
 lt : ∀ q ∈ Q, q < n
 nd : Q.Nodup
 iff : ∀ s, s < n → (0 ≤ fnL O (-1) s ↔ s ∈ Q)
 hi : ∀ s, fnL O (-1) s ≤ (Q.length : Int)
 rc : ∀ q ∈ Q, ∃ g, g < n ∧ G g ∧ Rc E q g
section
variable {E : Nat → List Nat} {n : Nat} {G : Nat → Prop} {O : List Int} {Q : List Nat}
theorem Bq.qlen (h : Bq E n G O Q) : Q.length ≤ n := by
 have := h.nd.length_le_of_subset (l₂ := List.range n) fun q hq => List.mem_range.2 (h.lt q hq)
 simpa using this
theorem Bq.start (E : Nat → List Nat) (n : Nat) (G : Nat → Prop) : Bq E n G (List.replicate n (-1)) [] := by
 refine ⟨by simp, by simp, List.nodup_nil, fun s hs => ?_, fun s => ?_, by simp⟩
 ·rw [fnL_get (by simpa using hs)]; simp
 ·unfold fnL
  rw [List.getElem?_replicate]
  split <;> simp
theorem Bq.push (h : Bq E n G O Q) {s : Nat} (hs : s < n) (hq : s ∉ Q) {v : Int} (h0 : 0 ≤ v) (h1 : v ≤ (Q.length : Int) + 1) (hr : ∃ g, g < n ∧ G g ∧ Rc E s g) : Bq E n G (O.set s v) (Q ++ [s]) := by
 have hl := h.len
 refine ⟨by simp [hl], fun q hq => ?_, ?_, fun t ht => ?_, fun t => ?_, fun q hq => ?_⟩
 ·rcases List.mem_append.1 hq with h2 | h2
  ·exact h.lt q h2
  ·simp at h2; subst h2; exact hs
 ·rw [List.nodup_append]
  exact ⟨h.nd, by simp, fun a ha b hb => by simp at hb; subst hb; intro e; subst e; exact hq ha⟩
 ·rw [fnL_set (by omega)]
  unfold upd
  split
  ·rename_i e; subst e; simp [h0]
  ·rename_i e; rw [h.iff t ht]; simp [e]
 ·rw [fnL_set (by omega)]
  unfold upd
  simp only [List.length_append, List.length_singleton]
  split
  ·omega
  ·have := h.hi t; omega
 ·rcases List.mem_append.1 hq with h2 | h2
  ·exact h.rc q h2
  ·simp at h2; subst h2; exact hr
theorem Bq.done (h : Bq E n G O Q) (hE : ∀ x, x < n → ∀ y ∈ E x, y < n) (hg : ∀ g, g < n → G g → g ∈ Q) (hc : ∀ q ∈ Q, ∀ p, p < n → q ∈ E p → p ∈ Q) {s : Nat} (hs : s < n) : 0 ≤ fnL O (-1) s ↔ ∃ g, g < n ∧ G g ∧ Rc E s g := by
 rw [h.iff s hs]
 constructor
 ·exact h.rc s
 ·rintro ⟨g, h1, h2, h3⟩
  have key : ∀ x, Rc E s x → x ∈ Q → s ∈ Q := by
   intro x hx
   induction hx with
   | refl => exact id
   | tail hv hw ih => exact fun hq => ih (hc _ hq _ (hv.lt hs hE) hw)
  exact key g h3 (hg g h1 h2)
end
def lp1 (D : List Int) (s : Nat) (row : List Ar) : Bool := row.any fun a => decide (D.getD a.2.toNat 0 = D.getD s 0)
def lpL (R : List (List Ar)) (D : List Int) (k : Nat) : List Bool := (List.range k).map fun s => lp1 D s (tauOf true (R.getD s []))
theorem lpL_len (R : List (List Ar)) (D : List Int) (k : Nat) : (lpL R D k).length = k := by simp [lpL]
theorem lp1_snoc (D : List Int) (s : Nat) (row : List Ar) (a : Ar) : lp1 D s (row ++ [a]) = (lp1 D s row || decide (D.getD a.2.toNat 0 = D.getD s 0)) := by simp [lp1]
theorem lpL_iff {R : List (List Ar)} {D : List Int} (hlo : looB R = true) (hD : D.length = R.length) (hL : ∀ v, v < R.length → Least (Adj true R) v (fnL D (-1) v)) {g : Nat} (hg : g < R.length) : (lpL R D R.length).getD g false = true ↔ ∃ w, w ∈ Adj true R g ∧ Rc (Adj true R) w g := by
 have e1 : (lpL R D R.length).getD g false = lp1 D g (tauOf true (R.getD g [])) := by simp [lpL, List.getD_eq_getElem?_getD, hg]
 have hE := adj_lt true hlo
 have hd : ∀ v, v < R.length → D.getD v 0 = fnL D (-1) v := fun v hv => by rw [fnL_get (by omega), List.getD_eq_getElem?_getD, List.getElem?_eq_getElem (by omega)]; rfl
 rw [e1]
 unfold lp1
 rw [List.any_eq_true]
 simp only [decide_eq_true_eq]
 constructor
 ·rintro ⟨a, ha, e⟩
  have hw : a.2.toNat ∈ Adj true R g := List.mem_map.2 ⟨a, ha, rfl⟩
  have hwl := hE g hg _ hw
  rw [hd _ hwl, hd _ hg] at e
  obtain ⟨x, ex, p1, p2, _⟩ := hL _ hwl
  obtain ⟨y, ey, q1, q2, _⟩ := hL _ hg
  have : x = y := by omega
  subst this
  exact ⟨_, hw, p1.trans q2⟩
 ·rintro ⟨w, hw, hr⟩
  obtain ⟨a, ha, rfl⟩ := List.mem_map.1 hw
  refine ⟨a, ha, ?_⟩
  have hwl := hE g hg _ hw
  rw [hd _ hwl, hd _ hg]
  obtain ⟨x, ex, p1, p2, p3⟩ := hL _ hwl
  obtain ⟨y, ey, q1, q2, q3⟩ := hL _ hg
  have hgw : Rc (Adj true R) g a.2.toNat := .one hw
  have l1 := p3 y (hr.trans q1) (q2.trans hgw)
  have l2 := q3 x (hgw.trans p1) (p2.trans hr)
  omega
def DvL (R : List (List Ar)) (B : List Bool) : Prop := B.length = R.length ∧ ∀ s, s < R.length → (B.getD s false = true ↔ Dv R s)
theorem DvL.uniq {R : List (List Ar)} {A B : List Bool} (h1 : DvL R A) (h2 : DvL R B) : A = B := by
 refine List.ext_getElem (by rw [h1.1, h2.1]) fun i hi hj => ?_
 have a := h1.2 i (by have := h1.1; omega)
 have b := h2.2 i (by have := h1.1; omega)
 rw [List.getD_eq_getElem?_getD, List.getElem?_eq_getElem hi, Option.getD_some] at a
 rw [List.getD_eq_getElem?_getD, List.getElem?_eq_getElem hj, Option.getD_some] at b
 rw [Bool.eq_iff_iff, a, b]
end Go.Proofs.YtglchakimolfdaaGreatDoor
