/- ref23: inStates; Reach. -/
import Derived.Test.YthlckclbjknldaaGreatZk
import Derived.Test.YthlckclbjknldaaGreatG42
namespace Go.Proofs.YthlckclbjknldaaGreat
set_option linter.unusedVariables false
set_option linter.unusedSimpArgs false
open Go.RowKit
set_option maxRecDepth 100000
attribute [local go_sem] List.set_cons_zero List.set_cons_succ List.map_cons List.map_nil List.take_succ_cons List.take_zero List.drop_zero List.drop_succ_cons C.pl C.one List.all_cons List.all_nil Bool.and_true Nat.mul_one Int.toNat_natCast

theorem inSt_fc (R : List (List Ar)) (L : List Int) (hL : ∀ x ∈ L, 0 ≤ x ∧ x < (R.length : Int)) (hn : R.length ≤ 1000000) (hl : L.length ≤ 1000000) : FC Tryz.prog 132 [aLts R, .a (.c (.t 1 (tInts L)))] [] (fun r o => o = [] ∧ r = .b true) := by
 refine fc_intro Tryz.func132 rfl (by rw [Tryz.ntmps132]; simp) ?_
 rw [Tryz.ntmps132]
 simp only [enum, aLts]
 (refine wk0 ?_; (repeat clear hK K); repeat (refine Kq.mk ?_; intro K hK))
 refine aw_loop (fun k : Nat => { tm := [(1, .a (.c (.t 1 (tInts L)))), (2, .a (.c (.p 0 0))), (5, .i k)], hp := [.r ⟨25, 1, false, [.t 1 (tRows R)]⟩], n := 27, pin := 0 }) (fun k => k ≤ L.length) (fun k => L.length - k) 0 ?_ ?_ ?_
 ·omega
 ·exact lmz
 ·rintro k hk K hK
  by_cases hlt : k < L.length
  ·have d1 : decide ((k : Int) < (L.length : Int)) = true := by simpa using hlt
   have gx : (tInts L)[k]? = some (.v (.int .i64 L[k])) := by simp [tInts, hlt]
   have hx := hL _ (List.getElem_mem hlt)
   have d2 : decide (L[k] < 0) = false := by simp; omega
   have d3 : decide (L[k] ≥ (R.length : Int)) = false := by simp; omega
   (refine wk1 (an @d1 @tInts_len) ?_; (repeat clear hK K); repeat (refine Kq.mk ?_; intro K hK))
   refine cxz ?_
   (refine wk0 ?_; (repeat clear hK K); repeat (refine Kq.mk ?_; intro K hK))
   (refine aw_regionU 14 [(0, 0), (1, 0), (2, 0), (3, 1), (4, 0), (5, 0), (6, 0), (7, 0), (8, 0), (9, 1), (10, 0), (11, 1), (12, 0), (13, 0), (14, 2)] (by kernel_rfl) (by kernel_rfl) (by intro c st h; simp [ThenA, InBl, Ret] at h) ?_)
   (refine uk1 (an @gx (an @tInts_len (an @d2 (an @d3 @tRows_len)))) ?_; repeat clear hK K)
   refine cyz ?_
   (refine wk0 ?_; (repeat clear hK K); repeat (refine Kq.mk ?_; intro K hK))
   refine rnz ?_
   refine hK _ (k + 1) (by omega) (by omega) ?_
   exact lmz
  ·have d1 : decide ((k : Int) < (L.length : Int)) = false := by simpa using hlt
   (refine wk1 (an @d1 @tInts_len) ?_; (repeat clear hK K); repeat (refine Kq.mk ?_; intro K hK))
   refine cyz ?_
   (refine ekz ?_; repeat clear hK K)
   (refine wk0 ?_; (repeat clear hK K); repeat (refine Kq.mk ?_; intro K hK))
   ((try refine aw_ret ?_); (try simp only [ThenA, InBl]); refine ret_le (le_pick [] rfl rfl) ?_; (try simp only [List.set_nil, List.take_nil, List.take_zero, List.map_append, go_sem]); ((try refine aw_ret ?_); (try refine lst_nil ?_); (try simp only [ThenA, InBl]); refine ret_mk (by first | exact .inl rfl | exact .inr rfl) rfl ?_; simp only [rtn, resA, resL, resV, Tryz.results132, go_sem, true_and, and_true]))

def cBs (B : List Bool) : List C := B.map fun b => C.v (.bool b)
theorem cBs_len (B : List Bool) : (cBs B).length = B.length := by simp [cBs]
theorem cBs_get {B : List Bool} {i : Nat} {b : Bool} (h : B[i]? = some b) : (cBs B)[i]? = some (.v (.bool b)) := by simp [cBs, h]
theorem cBs_set (B : List Bool) (i : Nat) (b : Bool) : (cBs B).set i (.v (.bool b)) = cBs (B.set i b) := by simp [cBs, List.map_set]
theorem cBs_ren (f : List Nat) (B : List Bool) : (cBs B).map (C.ren f) = cBs B := by simp [cBs, C.ren, Function.comp_def]
/-- the arcs that the reference follows -/
def tauF (t : Bool) (r : List Ar) : List Ar := r.filter fun a => !t || a.1 == 0
def AdjF (t : Bool) (R : List (List Ar)) (v : Nat) : List Nat := (tauF t (R.getD v [])).map fun a => a.2.toNat
def seenB (B : List Bool) (u : Nat) : Bool := B.getD u false
/-- the reference's search -/
structure Rs (E : Nat → List Nat) (n : Nat) (F : List Nat) (B : List Bool) (Q : List Nat) : Prop where
 len : B.length = n
 snd : ∀ u, seenB B u = true → ∃ v ∈ F, Rc E v u
 q : ∀ u ∈ Q, u < n ∧ ∃ v ∈ F, Rc E v u
 cl : ∀ u, seenB B u = true → ∀ w ∈ E u, seenB B w = true ∨ w ∈ Q
 st : ∀ v ∈ F, seenB B v = true ∨ v ∈ Q
theorem seen_set {B : List Bool} {u : Nat} (h : u < B.length) (w : Nat) : seenB (B.set u true) w = if w = u then true else seenB B w := by
 unfold seenB
 simp only [List.getD_eq_getElem?_getD]
 by_cases e : w = u
 ·subst e; rw [if_pos rfl, List.getElem?_set_self h]; rfl
 ·rw [if_neg e, List.getElem?_set_ne (fun h => e h.symm)]
variable {E : Nat → List Nat} {n u : Nat} {F : List Nat} {B : List Bool} {Q : List Nat}
theorem Rs.start (hF : ∀ v ∈ F, v < n) : Rs E n F (List.replicate n false) F := by
 have e : ∀ u, seenB (List.replicate n false) u = false := fun u => by
  unfold seenB; rw [List.getD_eq_getElem?_getD, List.getElem?_replicate]; split <;> rfl
 exact ⟨by simp, fun u h => (by rw [e] at h; cases h), fun u h => ⟨hF u h, u, h, .refl _⟩, fun u h => (by rw [e] at h; cases h), fun v h => .inr h⟩
theorem Rs.old (h : Rs E n F B (Q ++ [u])) (hs : seenB B u = true) : Rs E n F B Q := by
 refine ⟨h.len, h.snd, fun w hw => h.q w (List.mem_append_left _ hw), fun w hw x hx => ?_, fun v hv => ?_⟩
 ·rcases h.cl w hw x hx with h1 | h1
  ·exact .inl h1
  ·rcases List.mem_append.1 h1 with h1 | h1
   ·exact .inr h1
   ·simp at h1; subst h1; exact .inl hs
 ·rcases h.st v hv with h1 | h1
  ·exact .inl h1
  ·rcases List.mem_append.1 h1 with h1 | h1
   ·exact .inr h1
   ·simp at h1; subst h1; exact .inl hs
theorem Rs.new (h : Rs E n F B (Q ++ [u])) (hE : ∀ w ∈ E u, w < n) : Rs E n F (B.set u true) (Q ++ E u) := by
 have hu := h.q u (by simp)
 have hs := seen_set (B := B) (u := u) (by rw [h.len]; exact hu.1)
 refine ⟨by rw [List.length_set]; exact h.len, fun w hw => ?_, fun w hw => ?_, fun w hw x hx => ?_, fun v hv => ?_⟩
 ·rw [hs] at hw
  split at hw
  ·rename_i e; rw [e]; exact hu.2
  ·exact h.snd w hw
 ·rcases List.mem_append.1 hw with h1 | h1
  ·exact h.q w (List.mem_append_left _ h1)
  ·obtain ⟨v, q1, q2⟩ := hu.2
   exact ⟨hE w h1, v, q1, q2.tail h1⟩
 ·rw [hs] at hw ⊢
  by_cases e2 : x = u
  ·left; rw [if_pos e2]
  rw [if_neg e2]
  split at hw
  ·rename_i e; subst e; exact .inr (List.mem_append_right _ hx)
  ·rcases h.cl w hw x hx with h1 | h1
   ·exact .inl h1
   ·rcases List.mem_append.1 h1 with h1 | h1
    ·exact .inr (List.mem_append_left _ h1)
    ·simp at h1; exact absurd h1 e2
 ·rw [hs]
  by_cases e2 : v = u
  ·left; rw [if_pos e2]
  rw [if_neg e2]
  rcases h.st v hv with h1 | h1
  ·exact .inl h1
  ·rcases List.mem_append.1 h1 with h1 | h1
   ·exact .inr (List.mem_append_left _ h1)
   ·simp at h1; exact absurd h1 e2
theorem Rs.done (h : Rs E n F B []) (u : Nat) : seenB B u = true ↔ ∃ v ∈ F, Rc E v u := by
 refine ⟨h.snd u, fun ⟨v, hv, hr⟩ => ?_⟩
 induction hr with
 | refl => exact (h.st v hv).resolve_right (by simp)
 | tail _ he ih => exact (h.cl _ (ih ⟨v, hv, ‹_›⟩) _ he).resolve_right (by simp)
theorem countF_set {B : List Bool} {u : Nat} (h : u < B.length) (hb : B[u] = false) : (B.set u true).count false + 1 = B.count false := by
 induction B generalizing u with
 | nil => simp at h
 | cons x r ih =>
  cases u with
  | zero => simp at hb; subst hb; simp
  | succ u =>
   rw [List.set_cons_succ]
   have := ih (u := u) (by simpa using h) (by simpa using hb)
   rw [List.count_cons, List.count_cons]
   omega

theorem tauF_snoc (t : Bool) (r : List Ar) (a : Ar) : tauF t (r ++ [a]) = tauF t r ++ (if !t || a.1 == 0 then [a] else []) := by
 unfold tauF
 rw [List.filter_append]
 congr 1
 rw [List.filter_cons, List.filter_nil]
theorem stk_cut (Q : List Nat) (u : Nat) (J : List Int) : cInts ((Q ++ [u]).map Int.ofNat ++ J) = cInts (Q.map Int.ofNat ++ ((u : Int) :: J)) := by
 rw [List.map_append, List.append_assoc]; rfl
theorem stk_top (Q : List Nat) (u : Nat) (J : List Int) : (cInts (Q.map Int.ofNat ++ ((u : Int) :: J)))[Q.length]? = some (.v (.int .i64 u)) := by
 refine cInts_get ?_
 rw [List.getElem?_append_right (by simp), List.length_map, Nat.sub_self]; rfl
theorem stack_le {c0 c1 q e n w m : Nat} (h1 : c1 + 1 = c0) (h2 : c0 * w + (q + 1) ≤ n * w + m) (h3 : e + 1 ≤ w) : c1 * w + (q + e) ≤ n * w + m := by
 subst h1
 rw [Nat.add_mul, Nat.one_mul] at h2
 generalize c1 * w = x at *
 generalize n * w = y at *
 omega
set_option maxHeartbeats 8000000 in
theorem reachF_fc (R : List (List Ar)) (F : List Nat) (t : Bool) (hv : valB R = true) (hF : ∀ v ∈ F, v < R.length) (hFl : F.length ≤ 1000000) (hn : R.length ≤ 1000000) (hr : ∀ r ∈ R, r.length ≤ 1000000) : FC Tryz.prog 83 [aLts R, .a (.c (.t 1 (tInts (F.map Int.ofNat)))), .b t] [] (fun r o => ∃ B : List Bool, B.length = R.length ∧ (∀ u, seenB B u = true ↔ ∃ v ∈ F, Rc (AdjF t R) v u) ∧ ∃ L, L = ((List.range R.length).filter (seenB B)).map Int.ofNat ∧ o = [rInts L] ∧ r = .a (.c (.s 0 L.length))) := by
 refine fc_intro Tryz.func83 rfl (by rw [Tryz.ntmps83]; simp) ?_
 rw [Tryz.ntmps83]
 simp only [enum, aLts]
 have hlo : looB R = true := decide_eq_true (of_decide_eq_true hv).1
 have hbd := (of_decide_eq_true hlo).2.2.2
 have hFi : ∀ x ∈ F.map Int.ofNat, 0 ≤ x ∧ x < (R.length : Int) := fun x h => by
  obtain ⟨u, hu, rfl⟩ := List.mem_map.1 h
  have := hF u hu
  simp only [Int.ofNat_eq_natCast]
  omega
 (refine wk0 ?_; (repeat clear hK K); repeat (refine Kq.mk ?_; intro K hK))
 (refine ckz (validR_fc R (by omega) (fun r h => by have := hr r h; omega)) ?_; intro K1 hK1)
 rintro _ _ ⟨rfl, rfl⟩
 (refine bkz ?_; clear hK1 K1)
 (refine wk1 (an @hv @Bool.not_true) ?_; (repeat clear hK K); repeat (refine Kq.mk ?_; intro K hK))
 (refine lst_goU rfl rfl (by simp only [go_sem] <;> rfl) ?_; intro K1 hK1; refine (stp_call0 (ids := []) (inSt_fc R (F.map Int.ofNat) hFi hn (by rw [List.length_map]; exact hFl)) rfl rfl (by simp only [go_sem]) (by kernel_rfl) (by (simp only [List.append_nil, go_sem]) <;> rfl) ?_).stp)
 rintro _ _ ⟨rfl, rfl⟩
 (refine bkz ?_; clear hK1 K1)
 (refine wk1 @Bool.not_true ?_; (repeat clear hK K); repeat (refine Kq.mk ?_; intro K hK))
 refine cyz ?_
 (refine wk1 (an @tRows_len (an @tInts_c (an @tInts_len (an @List.length_map.{0, 0} (an @List.length_cons.{0} @List.length_nil.{0}))))) ?_; (repeat clear hK K); repeat (refine Kq.mk ?_; intro K hK))
 have e0 : List.replicate R.length (C.v (.bool false)) = cBs (List.replicate R.length false) := by simp [cBs]
 rw [e0]
 refine aw_le (le_pick [0, 1, 3] rfl rfl) ?_
 (try simp only [List.set_nil, List.take_nil, List.take_zero, List.map_append, go_sem])
 (try simp only [cInts_ren, cBs_ren])
 have hAd : ∀ u, u < R.length → ∀ w ∈ AdjF t R u, w < R.length := fun u hu w hw => by
  unfold AdjF at hw
  rw [List.getD_eq_getElem?_getD, List.getElem?_eq_getElem hu, Option.getD_some] at hw
  obtain ⟨a, ha, rfl⟩ := List.mem_map.1 hw
  have h2 := hbd _ (List.getElem_mem hu) a (List.mem_filter.1 ha).1
  omega
 refine aw_loop (fun x : List Bool × List Nat × List Int => { tm := [(2, .b t), (3, .a (.c (.p 0 0))), (7, .a (.c (.s 1 R.length))), (8, .a (.c (.s 2 x.2.1.length)))], hp := [.r ⟨25, 1, false, [.t 1 (tRows R)]⟩, .r ⟨4, 1, true, cBs x.1⟩, .r ⟨3, 1, true, cInts (x.2.1.map Int.ofNat ++ x.2.2)⟩], n := 101, pin := 0 }) (fun x => Rs (AdjF t R) R.length F x.1 x.2.1 ∧ x.1.count false * 1000001 + x.2.1.length ≤ R.length * 1000001 + F.length) (fun x => x.1.count false * 1000001 + x.2.1.length) (List.replicate R.length false, F, []) ?_ ?_ ?_
 ·exact ⟨Rs.start hF, by simp⟩
 ·simp only [List.append_nil]
  exact lmz
 ·rintro ⟨B, Q, J⟩ ⟨hR, hM⟩ K hK
  simp only at hR hM
  have hBl := hR.len
  rcases List.eq_nil_or_concat Q with hQ | ⟨Q', u, hQ⟩
  ·subst hQ
   have d1 : decide (((0 : Nat) : Int) > 0) = false := rfl
   (refine wk1 @d1 ?_; (repeat clear hK K); repeat (refine Kq.mk ?_; intro K hK))
   refine cyz ?_
   (refine ekz ?_; repeat clear hK K)
   (refine wk0 ?_; (repeat clear hK K); repeat (refine Kq.mk ?_; intro K hK))
   refine aw_le (le_nil 11 3 1 ?_) ?_
   ·simp only [go_sem]
   refine aw_le (le_pick [0, 1, 3] rfl rfl) ?_
   (try simp only [List.set_nil, List.take_nil, List.take_zero, List.map_append, go_sem])
   (try simp only [cInts_ren, cBs_ren])
   refine aw_loop (fun k : Nat => { tm := [(7, .a (.c (.s 1 R.length))), (11, .a (.c (.s 2 ((List.range k).filter (seenB B)).length))), (12, .i k)], hp := [.r ⟨25, 1, false, [.t 1 (tRows R)]⟩, .r ⟨4, 1, true, cBs B⟩, .r ⟨3, 1, true, cInts (((List.range k).filter (seenB B)).map Int.ofNat)⟩], n := 101, pin := 0 }) (fun k => k ≤ R.length) (fun k => R.length - k) 0 ?_ ?_ ?_
   ·omega
   ·exact lmz
   ·rintro k hk K hK
    by_cases hlt : k < R.length
    ·have d2 : decide ((k : Int) < (R.length : Int)) = true := by simpa using hlt
     have gb : (cBs B)[k]? = some (.v (.bool B[k])) := cBs_get (List.getElem?_eq_getElem (by omega))
     have hsB : seenB B k = B[k] := by unfold seenB; rw [List.getD_eq_getElem?_getD, List.getElem?_eq_getElem (by omega)]; rfl
     have hrg : (List.range (k + 1)).filter (seenB B) = (List.range k).filter (seenB B) ++ (if seenB B k then [k] else []) := by
      rw [List.range_succ, List.filter_append]
      congr 1
      rw [List.filter_cons, List.filter_nil]
     have hfl : ((List.range k).filter (seenB B)).length ≤ k := by
      have := List.length_filter_le (seenB B) (List.range k)
      simpa using this
     have op1 := op_push ((List.range k).filter (seenB B)) k []
     simp only [List.append_nil] at op1
     generalize hQ : (List.range k).filter (seenB B) = Qk at *
     (refine wk1 (an @d2 (an @cBs_len @hBl)) ?_; (repeat clear hK K); repeat (refine Kq.mk ?_; intro K hK))
     refine cxz ?_
     cases hb : B[k] with
     | true =>
      rw [hsB, hb] at hrg
      rw [hb] at gb
      (refine wk1 (an @gb (an @cBs_len @hBl)) ?_; (repeat clear hK K); repeat (refine Kq.mk ?_; intro K hK))
      refine cxz ?_
      (refine wk1 (an @op1 (an @cInts_len (an @List.length_map.{0, 0} @Nat.le_refl))) ?_; (repeat clear hK K); repeat (refine Kq.mk ?_; intro K hK))
      refine rnz ?_
      refine hK _ (k + 1) (by omega) (by omega) ?_
      refine Le.trans (le_pick [0, 1, 4] rfl rfl) ?_
      (try simp only [List.set_nil, List.take_nil, List.take_zero, List.map_append, go_sem])
      (try simp only [cInts_ren, cBs_ren])
      rw [List.range_succ] at hrg
      simp only [hrg, if_true, List.map_append, List.map_cons, List.map_nil, List.length_append, List.length_cons, List.length_nil]
      exact lmz
     | false =>
      rw [hsB, hb] at hrg
      rw [hb] at gb
      (refine wk1 (an @gb (an @cBs_len @hBl)) ?_; (repeat clear hK K); repeat (refine Kq.mk ?_; intro K hK))
      refine cyz ?_
      (refine wk0 ?_; (repeat clear hK K); repeat (refine Kq.mk ?_; intro K hK))
      refine rnz ?_
      refine hK _ (k + 1) (by omega) (by omega) ?_
      simp only [hrg, Bool.false_eq_true, if_false, List.append_nil]
      exact lmz
    ·have d2 : decide ((k : Int) < (R.length : Int)) = false := by simpa using hlt
     have hke : k = R.length := by omega
     rw [hke] at d2
     rw [hke]
     (refine wk1 (an @d2 (an @cBs_len @hBl)) ?_; (repeat clear hK K); repeat (refine Kq.mk ?_; intro K hK))
     refine cyz ?_
     (refine ekz ?_; repeat clear hK K)
     (refine wk0 ?_; (repeat clear hK K); repeat (refine Kq.mk ?_; intro K hK))
     ((try refine aw_ret ?_); (try simp only [ThenA, InBl]); refine ret_le (le_pick [2] rfl rfl) ?_; (try simp only [List.set_nil, List.take_nil, List.take_zero, List.map_append, go_sem]); ((try refine aw_ret ?_); (try refine lst_nil ?_); (try simp only [ThenA, InBl]); refine ret_mk (by first | exact .inl rfl | exact .inr rfl) rfl ?_; simp only [rtn, resA, resL, resV, Tryz.results83, go_sem, true_and, and_true, cInts_ren]))
     exact ⟨B, hBl, fun u => hR.done u, _, rfl, rfl, by simp⟩
  ·rw [List.concat_eq_append] at hQ
   subst hQ
   have hKo := hK
   have hQl : (Q' ++ [u]).length = Q'.length + 1 := by simp
   rw [hQl] at hM
   have d1 : decide (((Q'.length + 1 : Nat) : Int) > 0) = true := by simp
   have e5 : ((Q'.length + 1 : Nat) : Int) - 1 = (Q'.length : Int) := by omega
   have gt := stk_top Q' u J
   have hul := (hR.q u (by simp)).1
   have gb : (cBs B)[u]? = some (.v (.bool B[u])) := cBs_get (List.getElem?_eq_getElem (by omega))
   have hsB : seenB B u = B[u] := by unfold seenB; rw [List.getD_eq_getElem?_getD, List.getElem?_eq_getElem (by omega)]; rfl
   have hcl : Q'.length + 1 ≤ (Q'.map Int.ofNat ++ ((u : Int) :: J)).length := by simp
   rw [stk_cut, hQl]
   (refine wk1 @d1 ?_; (repeat clear hK K); repeat (refine Kq.mk ?_; intro K hK))
   refine cxz ?_
   (refine wk1 (an @e5 (an @gt (an @cInts_len (an @cBs_len (an @hBl @gb))))) ?_; (repeat clear hK K); repeat (refine Kq.mk ?_; intro K hK))
   cases hb : B[u] with
   | true =>
    rw [hb] at hsB
    (refine aw_cnd ?_; intro X Y hX hY; simp only [go_sem, hb])
    refine hX ?_
    clear hX hY X Y
    (refine aw_exit ?_; simp only [ThenA, InBl, reduceIte, Nat.reduceEqDiff])
    refine hKo _ (B, Q', (u : Int) :: J) ⟨hR.old hsB, by simp only; omega⟩ (by simp only [hQl]; omega) ?_
    exact lmz
   | false =>
    have hcs := countF_set (B := B) (u := u) (by omega) hb
    (refine aw_cnd ?_; intro X Y hX hY; simp only [go_sem, hb])
    refine hY ?_
    clear hX hY X Y
    (refine wks1 (an @cBs_len (an @hBl @cBs_set)) ?_; (repeat clear hK K); repeat (refine Kq.mk ?_; intro K hK))
    have hgR := List.getElem?_eq_getElem hul
    have hrl := hr _ (List.getElem_mem hul)
    have hbu := hbd _ (List.getElem_mem hul)
    have hEu : AdjF t R u = (tauF t R[u]).map fun a => a.2.toNat := by
     unfold AdjF
     rw [List.getD_eq_getElem?_getD, hgR]; rfl
    have hnew := hR.new (hAd u hul)
    generalize hrr : R[u] = r at *
    have hql1 : Q'.length ≤ 1000002000001 := by omega
    refine aw_loop (fun x : Nat × List Int => { tm := [(2, .b t), (3, .a (.c (.p 0 0))), (7, .a (.c (.s 1 R.length))), (8, .a (.c (.s 2 (Q' ++ (tauF t (r.take x.1)).map fun a => a.2.toNat).length))), (9, .i u), (10, .i x.1)], hp := [.r ⟨25, 1, false, [.t 1 (tRows R)]⟩, .r ⟨4, 1, true, cBs (B.set u true)⟩, .r ⟨3, 1, true, cInts ((Q' ++ (tauF t (r.take x.1)).map fun a => a.2.toNat).map Int.ofNat ++ x.2)⟩], n := 101, pin := 0 }) (fun x => x.1 ≤ r.length) (fun x => r.length - x.1) (0, (u : Int) :: J) ?_ ?_ ?_
    ·simp only; omega
    ·simp only [List.take_zero, tauF, List.filter_nil, List.map_nil, List.append_nil]
     exact lmz
    ·rintro ⟨k, J2⟩ hk K hK
     simp only at hk
     have hQk : ((tauF t (r.take k)).map fun a => a.2.toNat).length ≤ k := by
      rw [List.length_map]
      refine Nat.le_trans (List.length_filter_le _ _) (by simp; omega)
     by_cases hlt : k < r.length
     ·have d2 : decide ((k : Int) < (r.length : Int)) = true := by simpa using hlt
      have ha0 := tArcs_c0 hlt
      have ha1 := tArcs_c1 hlt
      have hb2 := hbu _ (List.getElem_mem hlt)
      obtain ⟨tn, htn⟩ : ∃ tn : Nat, r[k].2 = tn := ⟨r[k].2.toNat, by omega⟩
      rw [htn] at ha1
      have hsn : tauF t (r.take (k + 1)) = tauF t (r.take k) ++ (if !t || r[k].1 == 0 then [r[k]] else []) := by
       rw [List.take_succ_eq_append_getElem hlt, tauF_snoc]
      have htm : (r[k].2.toNat) = tn := by rw [htn]; rfl
      have op1 := op_push (Q' ++ (tauF t (r.take k)).map fun a => a.2.toNat) tn J2
      have hQt : (Q' ++ (tauF t (r.take k)).map fun a => a.2.toNat).length ≤ 1000002000001 := by rw [List.length_append]; omega
      generalize hQ0 : (Q' ++ (tauF t (r.take k)).map fun a => a.2.toNat) = Qk at *
      have hQle : Qk.length ≤ (Qk.map Int.ofNat ++ J2).length := by simp
      cases t with
      | false =>
       rw [if_pos (by rfl)] at hsn
       (refine wk1 (an @d2 (an @tRows_len (an (tRows_get hgR) (an @tArcs_len @half2)))) ?_; (repeat clear hK K); repeat (refine Kq.mk ?_; intro K hK))
       refine cxz ?_
       (refine wk1 (an @Bool.not_false (an @ha0 (an @ha1 (an @tRows_len (an (tRows_get hgR) (an @tArcs_len (an @half2 (an @op1 @cInts_len)))))))) ?_; (repeat clear hK K); repeat (refine Kq.mk ?_; intro K hK))
       refine cxz ?_
       (refine wk1 (an @ha0 (an @ha1 (an @tRows_len (an (tRows_get hgR) (an @tArcs_len (an @half2 (an @op1 @cInts_len))))))) ?_; (repeat clear hK K); repeat (refine Kq.mk ?_; intro K hK))
       refine rnz ?_
       refine hK _ (k + 1, []) (by simp only; omega) (by simp only; omega) ?_
       refine Le.trans (le_pick [0, 1, 4] rfl rfl) ?_
       (try simp only [List.set_nil, List.take_nil, List.take_zero, List.map_append, go_sem])
       (try simp only [cInts_ren, cBs_ren])
       rw [hsn]
       simp only [List.map_append, List.map_cons, List.map_nil, ← List.append_assoc, htm, ← hQ0, List.length_append, List.length_cons, List.length_nil]
       exact lmz
      | true =>
       cases q1 : (r[k].1 == 0) with
       | true =>
        rw [if_pos (by rw [q1]; rfl)] at hsn
        (refine wk1 (an @d2 (an @tRows_len (an (tRows_get hgR) (an @tArcs_len @half2)))) ?_; (repeat clear hK K); repeat (refine Kq.mk ?_; intro K hK))
        refine cxz ?_
        (refine wk1 (an @Bool.not_true (an @q1 (an @ha0 (an @ha1 (an @tRows_len (an (tRows_get hgR) (an @tArcs_len (an @half2 (an @op1 @cInts_len))))))))) ?_; (repeat clear hK K); repeat (refine Kq.mk ?_; intro K hK))
        refine cxz ?_
        (refine wk1 (an @ha0 (an @ha1 (an @tRows_len (an (tRows_get hgR) (an @tArcs_len (an @half2 (an @op1 @cInts_len))))))) ?_; (repeat clear hK K); repeat (refine Kq.mk ?_; intro K hK))
        refine rnz ?_
        refine hK _ (k + 1, []) (by simp only; omega) (by simp only; omega) ?_
        refine Le.trans (le_pick [0, 1, 4] rfl rfl) ?_
        (try simp only [List.set_nil, List.take_nil, List.take_zero, List.map_append, go_sem])
        (try simp only [cInts_ren, cBs_ren])
        rw [hsn]
        simp only [List.map_append, List.map_cons, List.map_nil, ← List.append_assoc, htm, ← hQ0, List.length_append, List.length_cons, List.length_nil]
        exact lmz
       | false =>
        rw [if_neg (by rw [q1]; simp), List.append_nil] at hsn
        (refine wk1 (an @d2 (an @tRows_len (an (tRows_get hgR) (an @tArcs_len @half2)))) ?_; (repeat clear hK K); repeat (refine Kq.mk ?_; intro K hK))
        refine cxz ?_
        (refine wk1 (an @Bool.not_true (an @q1 (an @ha0 (an @ha1 (an @tRows_len (an (tRows_get hgR) (an @tArcs_len (an @half2 (an @op1 @cInts_len))))))))) ?_; (repeat clear hK K); repeat (refine Kq.mk ?_; intro K hK))
        refine cyz ?_
        (refine wk0 ?_; (repeat clear hK K); repeat (refine Kq.mk ?_; intro K hK))
        refine rnz ?_
        refine hK _ (k + 1, J2) (by simp only; omega) (by simp only; omega) ?_
        simp only [hsn, hQ0]
        exact lmz
     ·have d2 : decide ((k : Int) < (r.length : Int)) = false := by simpa using hlt
      have hke : r.take k = r := List.take_of_length_le (by omega)
      rw [hke, ← hEu]
      (refine wk1 (an @d2 (an @tRows_len (an (tRows_get hgR) (an @tArcs_len @half2)))) ?_; (repeat clear hK K); repeat (refine Kq.mk ?_; intro K hK))
      refine cyz ?_
      (refine aw_exit ?_; simp only [ThenA, InBl, reduceIte, Nat.reduceEqDiff])
      have hEl : (AdjF t R u).length ≤ 1000000 := by
       rw [hEu, List.length_map]
       exact Nat.le_trans (List.length_filter_le _ _) hrl
      refine hKo _ (B.set u true, Q' ++ AdjF t R u, J2) ⟨hnew, ?_⟩ ?_ ?_
      ·simp only [List.length_append]
       exact stack_le hcs hM (Nat.succ_le_succ hEl)
      ·simp only [List.length_append, hQl]; omega
      ·exact lmz
theorem reach_fc (R : List (List Ar)) (v : Nat) (t : Bool) (hv : valB R = true) (hvn : v < R.length) (hn : R.length ≤ 1000000) (hr : ∀ r ∈ R, r.length ≤ 1000000) : FC Tryz.prog 83 [aLts R, .a (.c (.t 1 (tInts [(v : Int)]))), .b t] [] (fun r o => ∃ B : List Bool, B.length = R.length ∧ (∀ u, seenB B u = true ↔ Rc (AdjF t R) v u) ∧ ∃ L, L = ((List.range R.length).filter (seenB B)).map Int.ofNat ∧ o = [rInts L] ∧ r = .a (.c (.s 0 L.length))) :=
 (reachF_fc R [v] t hv (by simpa using hvn) (by simp) hn hr).mono fun _ _ ⟨B, h1, h2, h3⟩ => ⟨B, h1, fun u => by rw [h2]; simp, h3⟩
end Go.Proofs.YthlckclbjknldaaGreat
