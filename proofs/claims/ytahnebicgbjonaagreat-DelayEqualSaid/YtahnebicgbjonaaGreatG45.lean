/- ref23: inStates; Reach. TauLoops as a plain function: numbers of the components, rows joined. The silent arcs of a sorted row come first: both closures see the same graph. Add, by the machine. delay.Arrows, ref25.DelayArrows, law27.arrows. ref23: Has at a tree; Components. Divergence, plain: predecessors, the search from the goals, states on silent cycles. Delay arrows of a system as rows, plain. -/
import Derived.Test.YtahnebicgbjonaaGreatZk
import Derived.Test.YtahnebicgbjonaaGreatG42
import Derived.Test.YtahnebicgbjonaaGreatTj1
import Derived.Test.YtahnebicgbjonaaGreatMF
import Derived.Test.YtahnebicgbjonaaGreatMG
namespace Go.Proofs.YtahnebicgbjonaaGreat
set_option linter.unusedVariables false
set_option linter.unusedSimpArgs false
open Go.RowKit
set_option maxRecDepth 100000
attribute [local go_sem] List.set_cons_zero List.set_cons_succ List.map_cons List.map_nil List.take_succ_cons List.take_zero List.drop_zero List.drop_succ_cons C.pl C.one List.all_cons List.all_nil Bool.and_true Nat.mul_one Int.toNat_natCast

theorem inSt_fc (R : List (List Ar)) (L : List Int) (hL : ∀ x ∈ L, 0 ≤ x ∧ x < (R.length : Int)) (hn : R.length ≤ 1000000) (hl : L.length ≤ 1000000) : FC Tryz.prog 79 [aLts R, .a (.c (.t 1 (tInts L)))] [] (fun r o => o = [] ∧ r = .b true) := by
 refine fc_intro Tryz.func79 rfl (by rw [Tryz.ntmps79]; simp) ?_
 rw [Tryz.ntmps79]
 simp only [enum, aLts]
 (refine wk0 ?_;(repeat clear hK K);repeat refine kq fun K hK=>?_)
 refine aw_loop (fun k : Nat => { tm := [(1, .a (.c (.t 1 (tInts L)))), (2, .a (.c (.p 0 0))), (5, .i k)], hp := [.r ⟨25, 1, false, [.t 1 (tRows R)]⟩], n := 27, pin := 0 }) (fun k => k ≤ L.length) (fun k => L.length - k) 0 ?_ ?_ ?_
 ·omega
 ·exact lmz
 ·rintro k hk K hK
  by_cases hlt : k < L.length
  ·have d1 : decide ((k : Int) < (L.length : Int)) = true := by simpa using hlt
   have gx : (tInts L)[k]? = some (.v (.int .i64 L[k])) := by simp [tInts, hlt]
   have hx := hL _ (List.getElem_mem hlt)
   have d2 : decide (L[k] < 0) = false := by simp; omega
   have d3 : decide (L[k] ≥ (R.length : Int)) = false := by simp; omega
   (refine wk1 (an @d1 @tInts_len) ?_;(repeat clear hK K);repeat refine kq fun K hK=>?_)
   refine cxz ?_
   (refine wk0 ?_;(repeat clear hK K);repeat refine kq fun K hK=>?_)
   (refine aw_regionU 14 [(0, 0), (1, 0), (2, 0), (3, 1), (4, 0), (5, 0), (6, 0), (7, 0), (8, 0), (9, 1), (10, 0), (11, 1), (12, 0), (13, 0), (14, 2)] (by kernel_rfl) (by kernel_rfl) (by intro c st h; simp [ThenA, InBl, Ret] at h) ?_)
   (refine uk1 (an @gx (an @tInts_len (an @d2 (an @d3 @tRows_len)))) ?_; repeat clear hK K)
   refine cyz ?_
   (refine wk0 ?_;(repeat clear hK K);repeat refine kq fun K hK=>?_)
   refine rnz ?_
   refine hK _ (k + 1) (by omega) (by omega) ?_
   exact lmz
  ·have d1 : decide ((k : Int) < (L.length : Int)) = false := by simpa using hlt
   (refine wk1 (an @d1 @tInts_len) ?_;(repeat clear hK K);repeat refine kq fun K hK=>?_)
   refine cyz ?_
   (refine ekz ?_;repeat clear hK K)
   (refine wk0 ?_;(repeat clear hK K);repeat refine kq fun K hK=>?_)
   exact rpc0 [] Tryz.results79

def cBs (B : List Bool) : List C := B.map fun b => C.v (.bool b)
theorem cBs_len (B : List Bool) : (cBs B).length = B.length := by simp [cBs]
theorem cBs_get {B : List Bool} {i : Nat} {b : Bool} (h : B[i]? = some b) : (cBs B)[i]? = some (.v (.bool b)) := by simp [cBs, h]
theorem cBs_set (B : List Bool) (i : Nat) (b : Bool) : (cBs B).set i (.v (.bool b)) = cBs (B.set i b) := by simp [cBs, List.map_set]
theorem cBs_ren (f : List Nat) (B : List Bool) : (cBs B).map (C.ren f) = cBs B := by simp [cBs, C.ren, Function.comp_def]
def tauF (t : Bool) (r : List Ar) : List Ar := r.filter fun a => !t || a.1 == 0
def AdjF (t : Bool) (R : List (List Ar)) (v : Nat) : List Nat := (tauF t (R.getD v [])).map fun a => a.2.toNat
def seenB (B : List Bool) (u : Nat) : Bool := B.getD u false
structure Rs (E : Nat → List Nat) (n : Nat) (F : List Nat) (B : List Bool) (Q : List Nat) : Prop where
 len : B.length = n
 snd : ∀ u, seenB B u = true → ∃ v ∈ F, Rc E v u
 q : ∀ u ∈ Q, u < n ∧ ∃ v ∈ F, Rc E v u
 cl : ∀ u, seenB B u = true → ∀ w ∈ E u, seenB B w = true ∨ w ∈ Q
 st : ∀ v ∈ F, seenB B v = true ∨ v ∈ Q
theorem seen_set {B : List Bool} {u : Nat} (h : u < B.length) (w : Nat) : seenB (B.set u true) w = if w = u then true else seenB B w := by
 unfold seenB
 simp only [List.getD_eq_getElem?_getD]
 by_cases e : w = u
 ·subst e; rw [if_pos rfl, List.getElem?_set_self h]; rfl
 ·rw [if_neg e, List.getElem?_set_ne (fun h => e h.symm)]
variable {E : Nat → List Nat} {n u : Nat} {F : List Nat} {B : List Bool} {Q : List Nat}
theorem Rs.start (hF : ∀ v ∈ F, v < n) : Rs E n F (List.replicate n false) F := by
 have e : ∀ u, seenB (List.replicate n false) u = false := fun u => by
  unfold seenB; rw [List.getD_eq_getElem?_getD, List.getElem?_replicate]; split <;> rfl
 exact ⟨by simp, fun u h => (by rw [e] at h; cases h), fun u h => ⟨hF u h, u, h, .refl _⟩, fun u h => (by rw [e] at h; cases h), fun v h => .inr h⟩
theorem Rs.old (h : Rs E n F B (Q ++ [u])) (hs : seenB B u = true) : Rs E n F B Q := by
 refine ⟨h.len, h.snd, fun w hw => h.q w (List.mem_append_left _ hw), fun w hw x hx => ?_, fun v hv => ?_⟩
 ·rcases h.cl w hw x hx with h1 | h1
  ·exact .inl h1
  ·rcases List.mem_append.1 h1 with h1 | h1
   ·exact .inr h1
   ·simp at h1; subst h1; exact .inl hs
 ·rcases h.st v hv with h1 | h1
  ·exact .inl h1
  ·rcases List.mem_append.1 h1 with h1 | h1
   ·exact .inr h1
   ·simp at h1; subst h1; exact .inl hs
theorem Rs.new (h : Rs E n F B (Q ++ [u])) (hE : ∀ w ∈ E u, w < n) : Rs E n F (B.set u true) (Q ++ E u) := by
 have hu := h.q u (by simp)
 have hs := seen_set (B := B) (u := u) (by rw [h.len]; exact hu.1)
 refine ⟨by rw [List.length_set]; exact h.len, fun w hw => ?_, fun w hw => ?_, fun w hw x hx => ?_, fun v hv => ?_⟩
 ·rw [hs] at hw
  split at hw
  ·rename_i e; rw [e]; exact hu.2
  ·exact h.snd w hw
 ·rcases List.mem_append.1 hw with h1 | h1
  ·exact h.q w (List.mem_append_left _ h1)
  ·obtain ⟨v, q1, q2⟩ := hu.2
   exact ⟨hE w h1, v, q1, q2.tail h1⟩
 ·rw [hs] at hw ⊢
  by_cases e2 : x = u
  ·left; rw [if_pos e2]
  rw [if_neg e2]
  split at hw
  ·rename_i e; subst e; exact .inr (List.mem_append_right _ hx)
  ·rcases h.cl w hw x hx with h1 | h1
   ·exact .inl h1
   ·rcases List.mem_append.1 h1 with h1 | h1
    ·exact .inr (List.mem_append_left _ h1)
    ·simp at h1; exact absurd h1 e2
 ·rw [hs]
  by_cases e2 : v = u
  ·left; rw [if_pos e2]
  rw [if_neg e2]
  rcases h.st v hv with h1 | h1
  ·exact .inl h1
  ·rcases List.mem_append.1 h1 with h1 | h1
   ·exact .inr (List.mem_append_left _ h1)
   ·simp at h1; exact absurd h1 e2
theorem Rs.done (h : Rs E n F B []) (u : Nat) : seenB B u = true ↔ ∃ v ∈ F, Rc E v u := by
 refine ⟨h.snd u, fun ⟨v, hv, hr⟩ => ?_⟩
 induction hr with
 | refl => exact (h.st v hv).resolve_right (by simp)
 | tail _ he ih => exact (h.cl _ (ih ⟨v, hv, ‹_›⟩) _ he).resolve_right (by simp)
theorem countF_set {B : List Bool} {u : Nat} (h : u < B.length) (hb : B[u] = false) : (B.set u true).count false + 1 = B.count false := by
 induction B generalizing u with
 | nil => simp at h
 | cons x r ih =>
  cases u with
  | zero => simp at hb; subst hb; simp
  | succ u =>
   rw [List.set_cons_succ]
   have := ih (u := u) (by simpa using h) (by simpa using hb)
   rw [List.count_cons, List.count_cons]
   omega

theorem tauF_snoc (t : Bool) (r : List Ar) (a : Ar) : tauF t (r ++ [a]) = tauF t r ++ (if !t || a.1 == 0 then [a] else []) := by
 unfold tauF
 rw [List.filter_append]
 congr 1
 rw [List.filter_cons, List.filter_nil]
theorem stk_cut (Q : List Nat) (u : Nat) (J : List Int) : cInts ((Q ++ [u]).map Int.ofNat ++ J) = cInts (Q.map Int.ofNat ++ ((u : Int) :: J)) := by
 rw [List.map_append, List.append_assoc]; rfl
theorem stk_top (Q : List Nat) (u : Nat) (J : List Int) : (cInts (Q.map Int.ofNat ++ ((u : Int) :: J)))[Q.length]? = some (.v (.int .i64 u)) := by
 refine cInts_get ?_
 rw [List.getElem?_append_right (by simp), List.length_map, Nat.sub_self]; rfl
theorem stack_le {c0 c1 q e n w m : Nat} (h1 : c1 + 1 = c0) (h2 : c0 * w + (q + 1) ≤ n * w + m) (h3 : e + 1 ≤ w) : c1 * w + (q + e) ≤ n * w + m := by
 subst h1
 rw [Nat.add_mul, Nat.one_mul] at h2
 generalize c1 * w = x at *
 generalize n * w = y at *
 omega
set_option maxHeartbeats 8000000 in
theorem reachF_fc (R : List (List Ar)) (F : List Nat) (t : Bool) (hv : valB R = true) (hF : ∀ v ∈ F, v < R.length) (hFl : F.length ≤ 1000000) (hn : R.length ≤ 1000000) (hr : ∀ r ∈ R, r.length ≤ 1000000) : FC Tryz.prog 65 [aLts R, .a (.c (.t 1 (tInts (F.map Int.ofNat)))), .b t] [] (fun r o => ∃ B : List Bool, B.length = R.length ∧ (∀ u, seenB B u = true ↔ ∃ v ∈ F, Rc (AdjF t R) v u) ∧ ∃ L, L = ((List.range R.length).filter (seenB B)).map Int.ofNat ∧ o = [rInts L] ∧ r = .a (.c (.s 0 L.length))) := by
 refine fc_intro Tryz.func65 rfl (by rw [Tryz.ntmps65]; simp) ?_
 rw [Tryz.ntmps65]
 simp only [enum, aLts]
 have hlo : looB R = true := decide_eq_true (of_decide_eq_true hv).1
 have hbd := (of_decide_eq_true hlo).2.2.2
 have hFi : ∀ x ∈ F.map Int.ofNat, 0 ≤ x ∧ x < (R.length : Int) := fun x h => by
  obtain ⟨u, hu, rfl⟩ := List.mem_map.1 h
  have := hF u hu
  simp only [Int.ofNat_eq_natCast]
  omega
 (refine wk0 ?_;(repeat clear hK K);repeat refine kq fun K hK=>?_)
 (refine ckz (validR_fc R (by omega) (fun r h => by have := hr r h; omega)) ?_; intro K1 hK1)
 rintro _ _ ⟨rfl, rfl⟩
 (refine bkz ?_; clear hK1 K1)
 (refine wk1 (an @hv @Bool.not_true) ?_;(repeat clear hK K);repeat refine kq fun K hK=>?_)
 (refine lst_goU rfl rfl (by simp only [go_sem] <;> rfl) ?_; intro K1 hK1; refine (stp_call0 (ids := []) (inSt_fc R (F.map Int.ofNat) hFi hn (by rw [List.length_map]; exact hFl)) rfl rfl (by simp only [go_sem]) (by kernel_rfl) (by (simp only [List.append_nil, go_sem]) <;> rfl) ?_).stp)
 rintro _ _ ⟨rfl, rfl⟩
 (refine bkz ?_; clear hK1 K1)
 (refine wk1 @Bool.not_true ?_;(repeat clear hK K);repeat refine kq fun K hK=>?_)
 refine cyz ?_
 (refine wk1 (an @tRows_len (an @tInts_c (an @tInts_len (an @List.length_map.{0, 0} (an @List.length_cons.{0} @List.length_nil.{0}))))) ?_;(repeat clear hK K);repeat refine kq fun K hK=>?_)
 have e0 : List.replicate R.length (C.v (.bool false)) = cBs (List.replicate R.length false) := by simp [cBs]
 rw [e0]
 refine aw_le (le_pick [0, 1, 3] rfl rfl) ?_
 (try simp only [List.set_nil, List.take_nil, List.take_zero, List.map_append, go_sem])
 (try simp only [cInts_ren, cBs_ren])
 have hAd : ∀ u, u < R.length → ∀ w ∈ AdjF t R u, w < R.length := fun u hu w hw => by
  unfold AdjF at hw
  rw [List.getD_eq_getElem?_getD, List.getElem?_eq_getElem hu, Option.getD_some] at hw
  obtain ⟨a, ha, rfl⟩ := List.mem_map.1 hw
  have h2 := hbd _ (List.getElem_mem hu) a (List.mem_filter.1 ha).1
  omega
 refine aw_loop (fun x : List Bool × List Nat × List Int => { tm := [(2, .b t), (3, .a (.c (.p 0 0))), (7, .a (.c (.s 1 R.length))), (8, .a (.c (.s 2 x.2.1.length)))], hp := [.r ⟨25, 1, false, [.t 1 (tRows R)]⟩, .r ⟨4, 1, true, cBs x.1⟩, .r ⟨3, 1, true, cInts (x.2.1.map Int.ofNat ++ x.2.2)⟩], n := 101, pin := 0 }) (fun x => Rs (AdjF t R) R.length F x.1 x.2.1 ∧ x.1.count false * 1000001 + x.2.1.length ≤ R.length * 1000001 + F.length) (fun x => x.1.count false * 1000001 + x.2.1.length) (List.replicate R.length false, F, []) ?_ ?_ ?_
 ·exact ⟨Rs.start hF, by simp⟩
 ·simp only [List.append_nil]
  exact lmz
 ·rintro ⟨B, Q, J⟩ ⟨hR, hM⟩ K hK
  simp only at hR hM
  have hBl := hR.len
  rcases List.eq_nil_or_concat Q with hQ | ⟨Q', u, hQ⟩
  ·subst hQ
   have d1 : decide (((0 : Nat) : Int) > 0) = false := rfl
   (refine wk1 @d1 ?_;(repeat clear hK K);repeat refine kq fun K hK=>?_)
   refine cyz ?_
   (refine ekz ?_;repeat clear hK K)
   (refine wk0 ?_;(repeat clear hK K);repeat refine kq fun K hK=>?_)
   refine aw_le (le_nil 11 3 1 ?_) ?_
   ·simp only [go_sem]
   refine aw_le (le_pick [0, 1, 3] rfl rfl) ?_
   (try simp only [List.set_nil, List.take_nil, List.take_zero, List.map_append, go_sem])
   (try simp only [cInts_ren, cBs_ren])
   refine aw_loop (fun k : Nat => { tm := [(7, .a (.c (.s 1 R.length))), (11, .a (.c (.s 2 ((List.range k).filter (seenB B)).length))), (12, .i k)], hp := [.r ⟨25, 1, false, [.t 1 (tRows R)]⟩, .r ⟨4, 1, true, cBs B⟩, .r ⟨3, 1, true, cInts (((List.range k).filter (seenB B)).map Int.ofNat)⟩], n := 101, pin := 0 }) (fun k => k ≤ R.length) (fun k => R.length - k) 0 ?_ ?_ ?_
   ·omega
   ·exact lmz
   ·rintro k hk K hK
    by_cases hlt : k < R.length
    ·have d2 : decide ((k : Int) < (R.length : Int)) = true := by simpa using hlt
     have gb : (cBs B)[k]? = some (.v (.bool B[k])) := cBs_get (List.getElem?_eq_getElem (by omega))
     have hsB : seenB B k = B[k] := by unfold seenB; rw [List.getD_eq_getElem?_getD, List.getElem?_eq_getElem (by omega)]; rfl
     have hrg : (List.range (k + 1)).filter (seenB B) = (List.range k).filter (seenB B) ++ (if seenB B k then [k] else []) := by
      rw [List.range_succ, List.filter_append]
      congr 1
      rw [List.filter_cons, List.filter_nil]
     have hfl : ((List.range k).filter (seenB B)).length ≤ k := by
      have := List.length_filter_le (seenB B) (List.range k)
      simpa using this
     have op1 := op_push ((List.range k).filter (seenB B)) k []
     simp only [List.append_nil] at op1
     generalize hQ : (List.range k).filter (seenB B) = Qk at *
     (refine wk1 (an @d2 (an @cBs_len @hBl)) ?_;(repeat clear hK K);repeat refine kq fun K hK=>?_)
     refine cxz ?_
     cases hb : B[k] with
     | true =>
      rw [hsB, hb] at hrg
      rw [hb] at gb
      (refine wk1 (an @gb (an @cBs_len @hBl)) ?_;(repeat clear hK K);repeat refine kq fun K hK=>?_)
      refine cxz ?_
      (refine wk1 (an @op1 (an @cInts_len (an @List.length_map.{0, 0} @Nat.le_refl))) ?_;(repeat clear hK K);repeat refine kq fun K hK=>?_)
      refine rnz ?_
      refine hK _ (k + 1) (by omega) (by omega) ?_
      refine Le.trans (le_pick [0, 1, 4] rfl rfl) ?_
      (try simp only [List.set_nil, List.take_nil, List.take_zero, List.map_append, go_sem])
      (try simp only [cInts_ren, cBs_ren])
      rw [List.range_succ] at hrg
      simp only [hrg, if_true, List.map_append, List.map_cons, List.map_nil, List.length_append, List.length_cons, List.length_nil]
      exact lmz
     | false =>
      rw [hsB, hb] at hrg
      rw [hb] at gb
      (refine wk1 (an @gb (an @cBs_len @hBl)) ?_;(repeat clear hK K);repeat refine kq fun K hK=>?_)
      refine cyz ?_
      (refine wk0 ?_;(repeat clear hK K);repeat refine kq fun K hK=>?_)
      refine rnz ?_
      refine hK _ (k + 1) (by omega) (by omega) ?_
      simp only [hrg, Bool.false_eq_true, if_false, List.append_nil]
      exact lmz
    ·have d2 : decide ((k : Int) < (R.length : Int)) = false := by simpa using hlt
     have hke : k = R.length := by omega
     rw [hke] at d2
     rw [hke]
     (refine wk1 (an @d2 (an @cBs_len @hBl)) ?_;(repeat clear hK K);repeat refine kq fun K hK=>?_)
     refine cyz ?_
     (refine ekz ?_;repeat clear hK K)
     (refine wk0 ?_;(repeat clear hK K);repeat refine kq fun K hK=>?_)
     refine rp1 [2] Tryz.results65 @cInts_ren ?_
     exact ⟨B, hBl, fun u => hR.done u, _, rfl, rfl, by simp⟩
  ·rw [List.concat_eq_append] at hQ
   subst hQ
   have hKo := hK
   have hQl : (Q' ++ [u]).length = Q'.length + 1 := by simp
   rw [hQl] at hM
   have d1 : decide (((Q'.length + 1 : Nat) : Int) > 0) = true := by simp
   have e5 : ((Q'.length + 1 : Nat) : Int) - 1 = (Q'.length : Int) := by omega
   have gt := stk_top Q' u J
   have hul := (hR.q u (by simp)).1
   have gb : (cBs B)[u]? = some (.v (.bool B[u])) := cBs_get (List.getElem?_eq_getElem (by omega))
   have hsB : seenB B u = B[u] := by unfold seenB; rw [List.getD_eq_getElem?_getD, List.getElem?_eq_getElem (by omega)]; rfl
   have hcl : Q'.length + 1 ≤ (Q'.map Int.ofNat ++ ((u : Int) :: J)).length := by simp
   rw [stk_cut, hQl]
   (refine wk1 @d1 ?_;(repeat clear hK K);repeat refine kq fun K hK=>?_)
   refine cxz ?_
   (refine wk1 (an @e5 (an @gt (an @cInts_len (an @cBs_len (an @hBl @gb))))) ?_;(repeat clear hK K);repeat refine kq fun K hK=>?_)
   cases hb : B[u] with
   | true =>
    rw [hb] at hsB
    (refine aw_cnd ?_; intro X Y hX hY; simp only [go_sem, hb])
    refine hX ?_
    clear hX hY X Y
    (refine aw_exit ?_; simp only [ThenA, InBl, reduceIte, Nat.reduceEqDiff])
    refine hKo _ (B, Q', (u : Int) :: J) ⟨hR.old hsB, by simp only; omega⟩ (by simp only [hQl]; omega) ?_
    exact lmz
   | false =>
    have hcs := countF_set (B := B) (u := u) (by omega) hb
    (refine aw_cnd ?_; intro X Y hX hY; simp only [go_sem, hb])
    refine hY ?_
    clear hX hY X Y
    (refine wks1 (an @cBs_len (an @hBl @cBs_set)) ?_;(repeat clear hK K);repeat refine kq fun K hK=>?_)
    have hgR := List.getElem?_eq_getElem hul
    have hrl := hr _ (List.getElem_mem hul)
    have hbu := hbd _ (List.getElem_mem hul)
    have hEu : AdjF t R u = (tauF t R[u]).map fun a => a.2.toNat := by
     unfold AdjF
     rw [List.getD_eq_getElem?_getD, hgR]; rfl
    have hnew := hR.new (hAd u hul)
    generalize hrr : R[u] = r at *
    have hql1 : Q'.length ≤ 1000002000001 := by omega
    refine aw_loop (fun x : Nat × List Int => { tm := [(2, .b t), (3, .a (.c (.p 0 0))), (7, .a (.c (.s 1 R.length))), (8, .a (.c (.s 2 (Q' ++ (tauF t (r.take x.1)).map fun a => a.2.toNat).length))), (9, .i u), (10, .i x.1)], hp := [.r ⟨25, 1, false, [.t 1 (tRows R)]⟩, .r ⟨4, 1, true, cBs (B.set u true)⟩, .r ⟨3, 1, true, cInts ((Q' ++ (tauF t (r.take x.1)).map fun a => a.2.toNat).map Int.ofNat ++ x.2)⟩], n := 101, pin := 0 }) (fun x => x.1 ≤ r.length) (fun x => r.length - x.1) (0, (u : Int) :: J) ?_ ?_ ?_
    ·simp only; omega
    ·simp only [List.take_zero, tauF, List.filter_nil, List.map_nil, List.append_nil]
     exact lmz
    ·rintro ⟨k, J2⟩ hk K hK
     simp only at hk
     have hQk : ((tauF t (r.take k)).map fun a => a.2.toNat).length ≤ k := by
      rw [List.length_map]
      refine Nat.le_trans (List.length_filter_le _ _) (by simp; omega)
     by_cases hlt : k < r.length
     ·have d2 : decide ((k : Int) < (r.length : Int)) = true := by simpa using hlt
      have ha0 := tArcs_c0 hlt
      have ha1 := tArcs_c1 hlt
      have hb2 := hbu _ (List.getElem_mem hlt)
      obtain ⟨tn, htn⟩ : ∃ tn : Nat, r[k].2 = tn := ⟨r[k].2.toNat, by omega⟩
      rw [htn] at ha1
      have hsn : tauF t (r.take (k + 1)) = tauF t (r.take k) ++ (if !t || r[k].1 == 0 then [r[k]] else []) := by
       rw [List.take_succ_eq_append_getElem hlt, tauF_snoc]
      have htm : (r[k].2.toNat) = tn := by rw [htn]; rfl
      have op1 := op_push (Q' ++ (tauF t (r.take k)).map fun a => a.2.toNat) tn J2
      have hQt : (Q' ++ (tauF t (r.take k)).map fun a => a.2.toNat).length ≤ 1000002000001 := by rw [List.length_append]; omega
      generalize hQ0 : (Q' ++ (tauF t (r.take k)).map fun a => a.2.toNat) = Qk at *
      have hQle : Qk.length ≤ (Qk.map Int.ofNat ++ J2).length := by simp
      cases t with
      | false =>
       rw [if_pos (by rfl)] at hsn
       (refine wk1 (an @d2 (an @tRows_len (an (tRows_get hgR) (an @tArcs_len @half2)))) ?_;(repeat clear hK K);repeat refine kq fun K hK=>?_)
       refine cxz ?_
       (refine wk1 (an @Bool.not_false (an @ha0 (an @ha1 (an @tRows_len (an (tRows_get hgR) (an @tArcs_len (an @half2 (an @op1 @cInts_len)))))))) ?_;(repeat clear hK K);repeat refine kq fun K hK=>?_)
       refine cxz ?_
       (refine wk1 (an @ha0 (an @ha1 (an @tRows_len (an (tRows_get hgR) (an @tArcs_len (an @half2 (an @op1 @cInts_len))))))) ?_;(repeat clear hK K);repeat refine kq fun K hK=>?_)
       refine rnz ?_
       refine hK _ (k + 1, []) (by simp only; omega) (by simp only; omega) ?_
       refine Le.trans (le_pick [0, 1, 4] rfl rfl) ?_
       (try simp only [List.set_nil, List.take_nil, List.take_zero, List.map_append, go_sem])
       (try simp only [cInts_ren, cBs_ren])
       rw [hsn]
       simp only [List.map_append, List.map_cons, List.map_nil, ← List.append_assoc, htm, ← hQ0, List.length_append, List.length_cons, List.length_nil]
       exact lmz
      | true =>
       cases q1 : (r[k].1 == 0) with
       | true =>
        rw [if_pos (by rw [q1]; rfl)] at hsn
        (refine wk1 (an @d2 (an @tRows_len (an (tRows_get hgR) (an @tArcs_len @half2)))) ?_;(repeat clear hK K);repeat refine kq fun K hK=>?_)
        refine cxz ?_
        (refine wk1 (an @Bool.not_true (an @q1 (an @ha0 (an @ha1 (an @tRows_len (an (tRows_get hgR) (an @tArcs_len (an @half2 (an @op1 @cInts_len))))))))) ?_;(repeat clear hK K);repeat refine kq fun K hK=>?_)
        refine cxz ?_
        (refine wk1 (an @ha0 (an @ha1 (an @tRows_len (an (tRows_get hgR) (an @tArcs_len (an @half2 (an @op1 @cInts_len))))))) ?_;(repeat clear hK K);repeat refine kq fun K hK=>?_)
        refine rnz ?_
        refine hK _ (k + 1, []) (by simp only; omega) (by simp only; omega) ?_
        refine Le.trans (le_pick [0, 1, 4] rfl rfl) ?_
        (try simp only [List.set_nil, List.take_nil, List.take_zero, List.map_append, go_sem])
        (try simp only [cInts_ren, cBs_ren])
        rw [hsn]
        simp only [List.map_append, List.map_cons, List.map_nil, ← List.append_assoc, htm, ← hQ0, List.length_append, List.length_cons, List.length_nil]
        exact lmz
       | false =>
        rw [if_neg (by rw [q1]; simp), List.append_nil] at hsn
        (refine wk1 (an @d2 (an @tRows_len (an (tRows_get hgR) (an @tArcs_len @half2)))) ?_;(repeat clear hK K);repeat refine kq fun K hK=>?_)
        refine cxz ?_
        (refine wk1 (an @Bool.not_true (an @q1 (an @ha0 (an @ha1 (an @tRows_len (an (tRows_get hgR) (an @tArcs_len (an @half2 (an @op1 @cInts_len))))))))) ?_;(repeat clear hK K);repeat refine kq fun K hK=>?_)
        refine cyz ?_
        (refine wk0 ?_;(repeat clear hK K);repeat refine kq fun K hK=>?_)
        refine rnz ?_
        refine hK _ (k + 1, J2) (by simp only; omega) (by simp only; omega) ?_
        simp only [hsn, hQ0]
        exact lmz
     ·have d2 : decide ((k : Int) < (r.length : Int)) = false := by simpa using hlt
      have hke : r.take k = r := List.take_of_length_le (by omega)
      rw [hke, ← hEu]
      (refine wk1 (an @d2 (an @tRows_len (an (tRows_get hgR) (an @tArcs_len @half2)))) ?_;(repeat clear hK K);repeat refine kq fun K hK=>?_)
      refine cyz ?_
      (refine aw_exit ?_; simp only [ThenA, InBl, reduceIte, Nat.reduceEqDiff])
      have hEl : (AdjF t R u).length ≤ 1000000 := by
       rw [hEu, List.length_map]
       exact Nat.le_trans (List.length_filter_le _ _) hrl
      refine hKo _ (B.set u true, Q' ++ AdjF t R u, J2) ⟨hnew, ?_⟩ ?_ ?_
      ·simp only [List.length_append]
       exact stack_le hcs hM (Nat.succ_le_succ hEl)
      ·simp only [List.length_append, hQl]; omega
      ·exact lmz
theorem reach_fc (R : List (List Ar)) (v : Nat) (t : Bool) (hv : valB R = true) (hvn : v < R.length) (hn : R.length ≤ 1000000) (hr : ∀ r ∈ R, r.length ≤ 1000000) : FC Tryz.prog 65 [aLts R, .a (.c (.t 1 (tInts [(v : Int)]))), .b t] [] (fun r o => ∃ B : List Bool, B.length = R.length ∧ (∀ u, seenB B u = true ↔ Rc (AdjF t R) v u) ∧ ∃ L, L = ((List.range R.length).filter (seenB B)).map Int.ofNat ∧ o = [rInts L] ∧ r = .a (.c (.s 0 L.length))) :=
 (reachF_fc R [v] t hv (by simpa using hvn) (by simp) hn hr).mono fun _ _ ⟨B, h1, h2, h3⟩ => ⟨B, h1, fun u => by rw [h2]; simp, h3⟩
end Go.Proofs.YtahnebicgbjonaaGreat
namespace Go.Proofs.YtahnebicgbjonaaGreat
set_option linter.unusedVariables false
set_option linter.unusedSimpArgs false

def tlA (f : Nat → Nat) (c : Nat) (o : List (List Ar)) (a : Ar) : List (List Ar) := o.set c (o.getD c [] ++ [(a.1, (f a.2.toNat : Int))])
def tlRow (f : Nat → Nat) (c : Nat) (o : List (List Ar)) (row : List Ar) : List (List Ar) := row.foldl (tlA f c) o
theorem tlA_len (f : Nat → Nat) (c : Nat) (o : List (List Ar)) (a : Ar) : (tlA f c o a).length = o.length := by simp [tlA]
theorem Rc.lt {E : Nat → List Nat} {n u v : Nat} (h : Rc E u v) (hu : u < n) (hE : ∀ x, x < n → ∀ y ∈ E x, y < n) : v < n := by
 induction h with
 | refl => exact hu
 | tail _ he ih => exact hE _ ih _ he
theorem adj_lt {R : List (List Ar)} (t : Bool) (hv : looB R = true) : ∀ x, x < R.length → ∀ y ∈ Adj t R x, y < R.length := by
 intro x hx y hy
 unfold Adj at hy
 rw [List.getD_eq_getElem?_getD, List.getElem?_eq_getElem hx, Option.getD_some] at hy
 obtain ⟨a, ha, rfl⟩ := List.mem_map.1 hy
 have h1 : a ∈ R[x] := by
  unfold tauOf at ha
  split at ha
  ·exact (List.takeWhile_sublist _).subset ha
  ·exact ha
 have h2 := (of_decide_eq_true hv).2.2.2 _ (List.getElem_mem hx) a h1
 omega
theorem totA_set (o : List (List Ar)) {c : Nat} (h : c < o.length) (x : Ar) : totA (o.set c (o.getD c [] ++ [x])) = totA o + 1 := by
 induction o generalizing c with
 | nil => simp at h
 | cons a r ih =>
  cases c with
  | zero => simp [totA]; omega
  | succ c =>
   have := ih (c := c) (by simpa using h)
   simp only [List.set_cons_succ, List.getD_cons_succ]
   simp only [totA, List.map_cons, List.sum_cons] at this ⊢
   omega
theorem totA_row (o : List (List Ar)) (c : Nat) : (o.getD c []).length ≤ totA o := by
 induction o generalizing c with
 | nil => simp
 | cons a r ih =>
  cases c with
  | zero => simp [totA]
  | succ c =>
   have := ih c
   simp only [List.getD_cons_succ]
   simp only [totA, List.map_cons, List.sum_cons] at this ⊢
   omega
theorem totA_rep (m : Nat) : totA (List.replicate m []) = 0 := by
 unfold totA
 rw [List.map_replicate, List.sum_replicate_nat]; simp
def TlP (m : Nat) (o : List (List Ar)) : Prop := ∀ r ∈ o, ∀ a ∈ r, 0 ≤ a.1 ∧ a.1 ≤ 1025 ∧ 0 ≤ a.2 ∧ a.2 < (m : Int)
theorem TlP.one {f : Nat → Nat} {m c : Nat} {o : List (List Ar)} {a : Ar} (h : TlP m o) (ha : 0 ≤ a.1 ∧ a.1 ≤ 1025) (hf : f a.2.toNat < m) : TlP m (tlA f c o a) := by
 intro r hr b hb
 rcases List.mem_or_eq_of_mem_set hr with h1 | h1
 ·exact h r h1 b hb
 ·subst h1
  rcases List.mem_append.1 hb with h2 | h2
  ·rw [List.getD_eq_getElem?_getD] at h2
   rcases Nat.lt_or_ge c o.length with h3 | h3
   ·rw [List.getElem?_eq_getElem h3, Option.getD_some] at h2
    exact h _ (List.getElem_mem h3) b h2
   ·rw [List.getElem?_eq_none h3] at h2; simp at h2
  ·simp at h2; subst h2
   exact ⟨ha.1, ha.2, by simp only; omega, by simp only; omega⟩
theorem tau_sorted {r : List Ar} (hs : SortA r) (h0 : ∀ a ∈ r, 0 ≤ a.1) (t : Bool) : tauF t r = tauOf t r := by
 cases t with
 | false => unfold tauF tauOf; simp
 | true =>
  unfold tauF tauOf
  rw [if_pos rfl]
  simp only [Bool.not_true, Bool.false_or]
  induction r with
  | nil => rfl
  | cons a r ih =>
   have hs2 := List.pairwise_cons.1 hs
   by_cases h : (a.1 == 0) = true
   ·rw [List.filter_cons, if_pos h, List.takeWhile_cons, if_pos h, ih hs2.2 fun b hb => h0 b (List.mem_cons_of_mem _ hb)]
   ·rw [List.filter_cons, if_neg h, List.takeWhile_cons, if_neg h]
    refine List.filter_eq_nil_iff.2 fun b hb => ?_
    have h1 := hs2.1 b hb
    rw [ltA_iff] at h1
    have h2 := h0 a List.mem_cons_self
    have h3 : a.1 ≠ 0 := fun e => h (by simp [e])
    have : b.1 ≠ 0 := by omega
    simpa using this
theorem adj_eq {R : List (List Ar)} (t : Bool) (hv : valB R = true) : AdjF t R = Adj t R := by
 funext v
 unfold AdjF Adj
 rcases Nat.lt_or_ge v R.length with h | h
 ·rw [List.getD_eq_getElem?_getD, List.getElem?_eq_getElem h, Option.getD_some]
  have h2 := of_decide_eq_true hv
  rw [tau_sorted (h2.2 _ (List.getElem_mem h)) fun a ha => (h2.1.2.2.2 _ (List.getElem_mem h) a ha).1]
 ·rw [List.getD_eq_getElem?_getD, List.getElem?_eq_none h, Option.getD_none]
  cases t <;> rfl
theorem Least.uniq {E : Nat → List Nat} {v : Nat} {x y : Int} (h1 : Least E v x) (h2 : Least E v y) : x = y := by
 obtain ⟨m, a1, a2, a3, a4⟩ := h1
 obtain ⟨k, b1, b2, b3, b4⟩ := h2
 have := a4 k b2 b3
 have := b4 m a2 a3
 omega
open Go.RowKit
set_option maxRecDepth 100000
theorem addI_at {x : Int} : ∀ {xs : List Int} {k : Nat}, k ≤ xs.length → (∀ i y, i < k → xs[i]? = some y → y < x) → (∀ y, xs[k]? = some y → x < y) → addI x xs = xs.take k ++ x :: xs.drop k
 | [], k, hk, _, _ => by simp at hk; subst hk; rfl
 | y :: ys, 0, _, _, h2 => by
  have := h2 y rfl
  simp only [addI, List.take_zero, List.drop_zero, List.nil_append]
  rw [if_neg (by omega), if_neg (by omega)]
 | y :: ys, k + 1, hk, h1, h2 => by
  have := h1 0 y (by omega) rfl
  simp only [addI, List.take_succ_cons, List.drop_succ_cons, List.cons_append]
  rw [if_pos this, addI_at (by simpa using hk) (fun i z hi hz => h1 (i + 1) z (by omega) hz) (fun z hz => h2 z hz)]
theorem addI_has {x : Int} : ∀ {xs : List Int} {k : Nat}, (∀ i y, i < k → xs[i]? = some y → y < x) → xs[k]? = some x → addI x xs = xs
 | [], k, _, h => by simp at h
 | y :: ys, 0, _, h => by simp at h; simp [addI, h]
 | y :: ys, k + 1, h1, h => by
  have := h1 0 y (by omega) rfl
  simp only [addI]
  rw [if_pos this, addI_has (fun i z hi hz => h1 (i + 1) z (by omega) hz) h]

theorem addT_fc (xs : List Int) (x : Int) (hn : xs.length ≤ 100000000) : FC Tryz.prog 81 [aInts xs, .i x] [] (fun r o => o = [] ∧ r = aInts (addI x xs)) := by
 refine fc_intro Tryz.func81 rfl (by rw [Tryz.ntmps81]; simp) ?_
 rw [Tryz.ntmps81]
 simp only [enum, aInts]
 (refine wk0 ?_;(repeat clear hK K);repeat refine kq fun K hK=>?_)
 refine aw_loop (fun k : Nat => { tm := [(0, .a (.c (.t 1 (tInts xs)))), (1, .i x), (5, .i k)], hp := [], n := 48, pin := 0 }) (fun k => k ≤ xs.length ∧ ∀ i y, i < k → xs[i]? = some y → y < x) (fun k => xs.length - k) 0 ?_ ?_ ?_
 ·exact ⟨by omega, by intro i y hi; omega⟩
 ·exact lmz
 ·rintro k ⟨hk, he⟩ K hK
  have fin : ∀ y, (∀ z, xs[k]? = some z → x < z) → y = tInts (xs.take k ++ [x] ++ xs.drop k) → y = tInts (addI x xs) := by
   intro y h1 h2
   rw [h2, addI_at hk he h1]; simp
  have hlen : (xs.take k ++ [x] ++ xs.drop k).length = k + 1 + (xs.length - k) := by simp; omega
  have hlen2 : (xs.take k).length = k := by simp; omega
  have hlen3 : (xs.take k ++ [x]).length = k + 1 := by simp; omega
  by_cases hlt : k < xs.length
  ·have hl1 : decide ((k : Int) < (xs.length : Int)) = true := by simpa using hlt
   (refine wk1 (an @hl1 (an @tInts_len (tInts_get (List.getElem?_eq_getElem hlt)))) ?_;(repeat clear hK K);repeat refine kq fun K hK=>?_)
   (refine aw_cnd ?_; intro X Y hX hY; simp only [go_sem])
   refine ⟨fun h => hX ?_, fun h => hY ?_⟩
   ·clear hX hY X Y
    (refine wk0 ?_;(repeat clear hK K);repeat refine kq fun K hK=>?_)
    refine rnz ?_
    refine hK _ (k + 1) ⟨by omega, fun i y hi hy => ?_⟩ (by omega) ?_
    ·by_cases e : i = k
     ·subst e; rw [List.getElem?_eq_getElem hlt] at hy; cases hy; simpa using h
     ·exact he i y (by omega) hy
    ·exact lmz
   ·have hle : x ≤ xs[k] := by simpa using h
    clear hX hY X Y
    (refine ekz ?_;repeat clear hK K)
    (refine wk1 (an @hl1 (an @tInts_len (tInts_get (List.getElem?_eq_getElem hlt)))) ?_;(repeat clear hK K);repeat refine kq fun K hK=>?_)
    (refine aw_cnd ?_; intro X Y hX hY; simp only [go_sem])
    refine ⟨fun h => hX ?_, fun h => hY ?_⟩
    ·clear hX hY X Y
     (refine wk0 ?_;(repeat clear hK K);repeat refine kq fun K hK=>?_)
     refine rq0 Tryz.results81 ?_
     rw [addI_has he (by rw [List.getElem?_eq_getElem hlt]; simpa using h)]
    ·have hne : x < xs[k] := by simp at h; omega
     clear hX hY X Y
     (refine wk1 (an @List.set_cons_zero.{0} (an @List.set_cons_succ.{0} (an @List.take_succ_cons.{0} (an @List.take_zero.{0} (an @List.drop_zero.{0} (an @List.length_take.{0} (an @List.length_drop.{0} (an @List.length_append.{0} (an @tInts_len (an @tInts_take (an @tInts_drop (an @tInts_c (an @cInts_len (an @cInts_one (an @cInts_snoc (an @cInts_app (an @cInts_take (an @cInts_drop (an (Nat.min_eq_left hk) (an (List.take_of_length_le (Nat.le_of_eq hlen2)) (List.take_of_length_le (Nat.le_of_eq hlen3)))))))))))))))))))))) ?_;(repeat clear hK K);repeat refine kq fun K hK=>?_)
     ((try refine aw_ret ?_); (try simp only [ThenA, InBl]); refine ret_le (le_frz (r := ⟨3, 1, true, cInts (xs.take k ++ [x] ++ xs.drop k)⟩) 4 (tInts (xs.take k ++ [x] ++ xs.drop k)) rfl (fz_c _) (show 0 < (1 : Nat) by omega)) ?_; refine ret_le (le_pick [] rfl rfl) ?_; simp only [ST.frz, A0.frz, AV.frz, C.frz, Nat.le_refl, List.set_cons_zero, List.set_cons_succ, go_sem, tInts_len, hlen, Nat.le_refl, tInts_take, List.take_of_length_le (Nat.le_of_eq hlen)]; (try simp only [List.set_nil, List.take_nil, List.take_zero, List.map_append, go_sem]); ((try refine aw_ret ?_); (try refine lst_nil ?_); (try simp only [ThenA, InBl]); refine ret_mk (by first | exact .inl rfl | exact .inr rfl) rfl ?_; simp only [rtn, resA, resL, resV, Tryz.results81, go_sem, true_and, and_true, tInts_len, hlen, Nat.le_refl, tInts_take, List.take_of_length_le (Nat.le_of_eq hlen)]))
     rw [fin _ (fun z hz => by rw [List.getElem?_eq_getElem hlt] at hz; cases hz; exact hne) rfl]
  ·have hl1 : decide ((k : Int) < (xs.length : Int)) = false := by simpa using hlt
   (refine wk1 (an @hl1 @tInts_len) ?_;(repeat clear hK K);repeat refine kq fun K hK=>?_)
   refine cyz ?_
   (refine ekz ?_;repeat clear hK K)
   (refine wk1 (an @hl1 @tInts_len) ?_;(repeat clear hK K);repeat refine kq fun K hK=>?_)
   refine cyz ?_
   (refine wk1 (an @List.set_cons_zero.{0} (an @List.set_cons_succ.{0} (an @List.take_succ_cons.{0} (an @List.take_zero.{0} (an @List.drop_zero.{0} (an @List.length_take.{0} (an @List.length_drop.{0} (an @List.length_append.{0} (an @tInts_len (an @tInts_take (an @tInts_drop (an @tInts_c (an @cInts_len (an @cInts_one (an @cInts_snoc (an @cInts_app (an @cInts_take (an @cInts_drop (an (Nat.min_eq_left hk) (an (List.take_of_length_le (Nat.le_of_eq hlen2)) (List.take_of_length_le (Nat.le_of_eq hlen3)))))))))))))))))))))) ?_;(repeat clear hK K);repeat refine kq fun K hK=>?_)
   ((try refine aw_ret ?_); (try simp only [ThenA, InBl]); refine ret_le (le_frz (r := ⟨3, 1, true, cInts (xs.take k ++ [x] ++ xs.drop k)⟩) 4 (tInts (xs.take k ++ [x] ++ xs.drop k)) rfl (fz_c _) (show 0 < (1 : Nat) by omega)) ?_; refine ret_le (le_pick [] rfl rfl) ?_; simp only [ST.frz, A0.frz, AV.frz, C.frz, Nat.le_refl, List.set_cons_zero, List.set_cons_succ, go_sem, tInts_len, hlen, Nat.le_refl, tInts_take, List.take_of_length_le (Nat.le_of_eq hlen)]; (try simp only [List.set_nil, List.take_nil, List.take_zero, List.map_append, go_sem]); ((try refine aw_ret ?_); (try refine lst_nil ?_); (try simp only [ThenA, InBl]); refine ret_mk (by first | exact .inl rfl | exact .inr rfl) rfl ?_; simp only [rtn, resA, resL, resV, Tryz.results81, go_sem, true_and, and_true, tInts_len, hlen, Nat.le_refl, tInts_take, List.take_of_length_le (Nat.le_of_eq hlen)]))
   rw [fin _ (fun z hz => by rw [List.getElem?_eq_none (by omega)] at hz; cases hz) rfl]

attribute [local go_sem] List.set_cons_zero List.set_cons_succ List.map_cons List.map_nil List.take_succ_cons List.take_zero List.drop_zero List.drop_succ_cons C.pl C.one List.all_cons List.all_nil Bool.and_true Nat.mul_one Int.toNat_natCast
def arrOk (R : List (List Ar)) (s e : Int) : Bool := valB R && decide (0 ≤ s) && decide (s < (R.length : Int)) && decide (0 ≤ e) && decide (e ≤ 1025)
theorem arrOk_no {R : List (List Ar)} {s e : Int} (h : arrOk R s e = false) (hv : valB R = true) (h1 : 0 ≤ s) (h2 : s < (R.length : Int)) (h3 : 0 ≤ e) : 1025 < e := by
 unfold arrOk at h
 rw [hv, decide_eq_true h1, decide_eq_true h2, decide_eq_true h3] at h
 simp at h; omega
def reS (R : List (List Ar)) (s : Nat) (L : List Nat) : Prop := ∃ p : Nat → Bool, (∀ u, u < R.length → (p u = true ↔ Rc (Adj true R) s u)) ∧ L = ordN R.length p
theorem reS_uniq {R : List (List Ar)} {s : Nat} {L M : List Nat} (h1 : reS R s L) (h2 : reS R s M) : L = M := by
 obtain ⟨p, hp, rfl⟩ := h1
 obtain ⟨q, hq, rfl⟩ := h2
 unfold ordN
 refine List.filter_congr fun u hu => ?_
 have hu2 : u < R.length := by simpa using hu
 rw [Bool.eq_iff_iff, hp u hu2, hq u hu2]
theorem reS_lt {R : List (List Ar)} {s : Nat} {L : List Nat} (h : reS R s L) : (∀ v ∈ L, v < R.length) ∧ L.length ≤ R.length := by
 obtain ⟨p, hp, rfl⟩ := h
 refine ⟨fun v hv => (mem_ordN.1 hv).1, ?_⟩
 unfold ordN
 refine Nat.le_trans (List.length_filter_le _ _) (by simp)
def dArr (R : List (List Ar)) (s e : Int) (L : List Int) : Prop :=
 (arrOk R s e = false ∧ L = []) ∨ (arrOk R s e = true ∧ ∃ M, reS R s.toNat M ∧ ((e = 0 ∧ L = M.map Int.ofNat) ∨ (e ≠ 0 ∧ ∃ p : Nat → Bool, (∀ u, u < R.length → (p u = true ↔ u ∈ tg R M e)) ∧ L = (ordN R.length p).map Int.ofNat)))
theorem dArr_uniq {R : List (List Ar)} {s e : Int} {L M : List Int} (h1 : dArr R s e L) (h2 : dArr R s e M) : L = M := by
 rcases h1 with ⟨a1, rfl⟩ | ⟨a1, N, hN, a2⟩
 ·rcases h2 with ⟨_, rfl⟩ | ⟨b1, _⟩
  ·rfl
  ·rw [a1] at b1; cases b1
 ·rcases h2 with ⟨b1, _⟩ | ⟨_, N2, hN2, b2⟩
  ·rw [a1] at b1; cases b1
  ·have := reS_uniq hN hN2
   subst this
   rcases a2 with ⟨e1, rfl⟩ | ⟨e1, p, hp, rfl⟩
   ·rcases b2 with ⟨_, rfl⟩ | ⟨e2, _⟩
    ·rfl
    ·exact absurd e1 e2
   ·rcases b2 with ⟨e2, _⟩ | ⟨_, q, hq, rfl⟩
    ·exact absurd e2 e1
    ·congr 1
     unfold ordN
     refine List.filter_congr fun u hu => ?_
     have hu2 : u < R.length := by simpa using hu
     rw [Bool.eq_iff_iff, hp u hu2, hq u hu2]
theorem tInts_nil : tInts ([] : List Int) = [] := rfl
def tgI (R : List (List Ar)) (F : List Nat) (e : Int) (acc : List Int) : List Int := F.foldl (fun acc s => (R.getD s []).foldl (fun acc a => if a.1 = e then addI a.2 acc else acc) acc) acc
def tgi1 (r : List Ar) (e : Int) (acc : List Int) : List Int := r.foldl (fun acc a => if a.1 = e then addI a.2 acc else acc) acc
theorem tgi1_snoc (r : List Ar) (e : Int) (acc : List Int) (a : Ar) : tgi1 (r ++ [a]) e acc = if a.1 = e then addI a.2 (tgi1 r e acc) else tgi1 r e acc := by unfold tgi1; rw [List.foldl_append]; rfl
theorem tgI_snoc (R : List (List Ar)) (F : List Nat) (e : Int) (acc : List Int) (s : Nat) : tgI R (F ++ [s]) e acc = tgi1 (R.getD s []) e (tgI R F e acc) := by unfold tgI; rw [List.foldl_append]; rfl
theorem mem_tgi1 {x : Int} {e : Int} : ∀ (r : List Ar) (acc : List Int), x ∈ tgi1 r e acc ↔ x ∈ acc ∨ ∃ a ∈ r, a.1 = e ∧ a.2 = x := by
 intro r
 induction r with
 | nil => intro acc; simp [tgi1]
 | cons a r ih =>
  intro acc
  show x ∈ tgi1 r e (if a.1 = e then addI a.2 acc else acc) ↔ _
  rw [ih]
  simp only [List.mem_cons, exists_eq_or_imp]
  split
  ·rename_i h
   rw [mem_addI]
   constructor
   ·rintro ((rfl | h1) | h1)
    ·exact .inr (.inl ⟨h, rfl⟩)
    ·exact .inl h1
    ·exact .inr (.inr h1)
   ·rintro (h1 | ⟨_, rfl⟩ | h1)
    ·exact .inl (.inr h1)
    ·exact .inl (.inl rfl)
    ·exact .inr h1
  ·rename_i h
   constructor
   ·rintro (h1 | h1)
    ·exact .inl h1
    ·exact .inr (.inr h1)
   ·rintro (h1 | ⟨h2, _⟩ | h1)
    ·exact .inl h1
    ·exact absurd h2 h
    ·exact .inr h1
theorem mem_tgI {R : List (List Ar)} {x e : Int} : ∀ (F : List Nat) (acc : List Int), x ∈ tgI R F e acc ↔ x ∈ acc ∨ ∃ s ∈ F, ∃ a ∈ R.getD s [], a.1 = e ∧ a.2 = x := by
 intro F
 induction F with
 | nil => intro acc; simp [tgI]
 | cons s F ih =>
  intro acc
  show x ∈ tgI R F e (tgi1 (R.getD s []) e acc) ↔ _
  rw [ih, mem_tgi1]
  simp only [List.mem_cons, exists_eq_or_imp]
  rw [or_assoc]
theorem tgi1_asc {e : Int} : ∀ (r : List Ar) (acc : List Int), Asc acc → Asc (tgi1 r e acc) := by
 intro r
 induction r with
 | nil => intro acc h; exact h
 | cons a r ih =>
  intro acc h
  show Asc (tgi1 r e (if a.1 = e then addI a.2 acc else acc))
  split
  ·exact ih _ (addI_asc h)
  ·exact ih _ h
theorem tgI_asc {R : List (List Ar)} {e : Int} : ∀ (F : List Nat) (acc : List Int), Asc acc → Asc (tgI R F e acc) := by
 intro F
 induction F with
 | nil => intro acc h; exact h
 | cons s F ih => intro acc h; exact ih _ (tgi1_asc _ _ h)
theorem ordN_asc (n : Nat) (p : Nat → Bool) : Asc ((ordN n p).map Int.ofNat) := by
 unfold Asc
 rw [List.pairwise_map]
 exact (ordN_sorted n p).imp fun h => by simpa using h
theorem asc_bd {l : List Int} {n : Nat} (h : Asc l) (hb : ∀ x ∈ l, 0 ≤ x ∧ x < (n : Int)) : l.length ≤ n := by
 have h1 : (l.map Int.toNat).Nodup := by
  unfold Asc at h
  rw [List.Nodup, List.pairwise_map]
  refine h.imp_of_mem fun {a b} ha hb2 hab e => ?_
  have := hb a ha
  have := hb b hb2
  omega
 have := nodup_le n (l.map Int.toNat) h1 fun u hu => by
  obtain ⟨x, hx, rfl⟩ := List.mem_map.1 hu
  have := hb x hx
  omega
 simpa using this
theorem tgI_eq {R : List (List Ar)} {F : List Nat} {e : Int} (hbd : ∀ r ∈ R, ∀ a ∈ r, 0 ≤ a.2 ∧ a.2 < (R.length : Int)) (hF : ∀ v ∈ F, v < R.length) : ∃ p : Nat → Bool, (∀ u, u < R.length → (p u = true ↔ u ∈ tg R F e)) ∧ tgI R F e [] = (ordN R.length p).map Int.ofNat := by
 refine ⟨fun u => decide (u ∈ tg R F e), fun u _ => by simp, ?_⟩
 refine asc_ext (tgI_asc F [] List.Pairwise.nil) (ordN_asc _ _) fun x => ?_
 rw [mem_tgI]
 simp only [List.not_mem_nil, false_or]
 have hg : ∀ s, s < R.length → R.getD s [] ∈ R := fun s hs => by rw [List.getD_eq_getElem?_getD, List.getElem?_eq_getElem hs]; exact List.getElem_mem hs
 constructor
 ·rintro ⟨s, hs, a, ha, hae, rfl⟩
  have hb := hbd _ (hg s (hF s hs)) a ha
  refine List.mem_map.2 ⟨a.2.toNat, mem_ordN.2 ⟨by omega, ?_⟩, by simp only [Int.ofNat_eq_natCast]; omega⟩
  simp only [decide_eq_true_eq]
  exact mem_tg.2 ⟨s, hs, mem_tgR.2 ⟨a, ha, hae, rfl⟩⟩
 ·intro h
  obtain ⟨u, hu, rfl⟩ := List.mem_map.1 h
  have h2 := (mem_ordN.1 hu).2
  simp only [decide_eq_true_eq] at h2
  obtain ⟨s, hs, h3⟩ := mem_tg.1 h2
  obtain ⟨a, ha, hae, hau⟩ := mem_tgR.1 h3
  have hb := hbd _ (hg s (hF s hs)) a ha
  exact ⟨s, hs, a, ha, hae, by simp only [Int.ofNat_eq_natCast]; omega⟩
set_option maxHeartbeats 4000000 in
theorem rdarr_fc (R : List (List Ar)) (s e : Int) (hn : R.length ≤ 1000000) (hr : ∀ r ∈ R, r.length ≤ 1000000) : FC Tryz.prog 70 [aLts R, .i s, .i e] [] (fun r o => o = [] ∧ ∃ L, dArr R s e L ∧ r = aInts L) := by
 refine fc_intro Tryz.func70 rfl (by rw [Tryz.ntmps70]; simp) ?_
 rw [Tryz.ntmps70]
 simp only [enum, aLts]
 cases hok : arrOk R s e with
 | false =>
  by_cases hv : valB R = true
  ·by_cases h1 : 0 ≤ s
   ·have c1 : decide (s < 0) = false := decide_eq_false (by omega)
    by_cases h2 : s < (R.length : Int)
    ·have c2 : decide (s ≥ (R.length : Int)) = false := decide_eq_false (by omega)
     by_cases h3 : 0 ≤ e
     ·have c3 : decide (e < 0) = false := decide_eq_false (by omega)
      have h4 := arrOk_no hok hv h1 h2 h3
      have c4 : decide (e > 1025) = true := decide_eq_true (by omega)
      (refine wk0 ?_;(repeat clear hK K);repeat refine kq fun K hK=>?_)
      (refine ckz (validR_fc R (by omega) (fun r h => by have := hr r h; omega)) ?_; intro K1 hK1)
      rintro _ _ ⟨rfl, rfl⟩
      (refine bkz ?_; clear hK1 K1)
      (refine wk1 (an @hv (an @Bool.not_true (an @c1 (an @c2 (an @c3 (an @c4 @tRows_len)))))) ?_;(repeat clear hK K);repeat refine kq fun K hK=>?_)
      refine cxz ?_
      (refine wk0 ?_;(repeat clear hK K);repeat refine kq fun K hK=>?_)
      refine aw_le (le_nilt 6 1 ?_) ?_
      ·simp only [go_sem]
      refine rp0 [] Tryz.results70 ?_
      exact ⟨[], .inl ⟨hok, rfl⟩, by simp only [aInts, tInts_nil]⟩
     ·have c3 : decide (e < 0) = true := decide_eq_true (by omega)
      (refine wk0 ?_;(repeat clear hK K);repeat refine kq fun K hK=>?_)
      (refine ckz (validR_fc R (by omega) (fun r h => by have := hr r h; omega)) ?_; intro K1 hK1)
      rintro _ _ ⟨rfl, rfl⟩
      (refine bkz ?_; clear hK1 K1)
      (refine wk1 (an @hv (an @Bool.not_true (an @c1 (an @c2 (an @c3 @tRows_len))))) ?_;(repeat clear hK K);repeat refine kq fun K hK=>?_)
      refine cxz ?_
      (refine wk0 ?_;(repeat clear hK K);repeat refine kq fun K hK=>?_)
      refine aw_le (le_nilt 6 1 ?_) ?_
      ·simp only [go_sem]
      refine rp0 [] Tryz.results70 ?_
      exact ⟨[], .inl ⟨hok, rfl⟩, by simp only [aInts, tInts_nil]⟩
    ·have c2 : decide (s ≥ (R.length : Int)) = true := decide_eq_true (by omega)
     (refine wk0 ?_;(repeat clear hK K);repeat refine kq fun K hK=>?_)
     (refine ckz (validR_fc R (by omega) (fun r h => by have := hr r h; omega)) ?_; intro K1 hK1)
     rintro _ _ ⟨rfl, rfl⟩
     (refine bkz ?_; clear hK1 K1)
     (refine wk1 (an @hv (an @Bool.not_true (an @c1 (an @c2 @tRows_len)))) ?_;(repeat clear hK K);repeat refine kq fun K hK=>?_)
     refine cxz ?_
     (refine wk0 ?_;(repeat clear hK K);repeat refine kq fun K hK=>?_)
     refine aw_le (le_nilt 6 1 ?_) ?_
     ·simp only [go_sem]
     refine rp0 [] Tryz.results70 ?_
     exact ⟨[], .inl ⟨hok, rfl⟩, by simp only [aInts, tInts_nil]⟩
   ·have c1 : decide (s < 0) = true := decide_eq_true (by omega)
    (refine wk0 ?_;(repeat clear hK K);repeat refine kq fun K hK=>?_)
    (refine ckz (validR_fc R (by omega) (fun r h => by have := hr r h; omega)) ?_; intro K1 hK1)
    rintro _ _ ⟨rfl, rfl⟩
    (refine bkz ?_; clear hK1 K1)
    (refine wk1 (an @hv (an @Bool.not_true (an @c1 @tRows_len))) ?_;(repeat clear hK K);repeat refine kq fun K hK=>?_)
    refine cxz ?_
    (refine wk0 ?_;(repeat clear hK K);repeat refine kq fun K hK=>?_)
    refine aw_le (le_nilt 6 1 ?_) ?_
    ·simp only [go_sem]
    refine rp0 [] Tryz.results70 ?_
    exact ⟨[], .inl ⟨hok, rfl⟩, by simp only [aInts, tInts_nil]⟩
  ·have hv2 : valB R = false := by simpa using hv
   (refine wk0 ?_;(repeat clear hK K);repeat refine kq fun K hK=>?_)
   (refine ckz (validR_fc R (by omega) (fun r h => by have := hr r h; omega)) ?_; intro K1 hK1)
   rintro _ _ ⟨rfl, rfl⟩
   (refine bkz ?_; clear hK1 K1)
   (refine wk1 (an @hv2 (an @Bool.not_false @tRows_len)) ?_;(repeat clear hK K);repeat refine kq fun K hK=>?_)
   refine cxz ?_
   (refine wk0 ?_;(repeat clear hK K);repeat refine kq fun K hK=>?_)
   refine aw_le (le_nilt 6 1 ?_) ?_
   ·simp only [go_sem]
   refine rp0 [] Tryz.results70 ?_
   exact ⟨[], .inl ⟨hok, rfl⟩, by simp only [aInts, tInts_nil]⟩
 | true =>
  have hok2 := hok
  unfold arrOk at hok2
  simp only [Bool.and_eq_true, decide_eq_true_eq] at hok2
  obtain ⟨⟨⟨⟨hv, h1⟩, h2⟩, h3⟩, h4⟩ := hok2
  have hlo : looB R = true := decide_eq_true (of_decide_eq_true hv).1
  have hbd := (of_decide_eq_true hlo).2.2.2
  have c1 : decide (s < 0) = false := decide_eq_false (by omega)
  have c2 : decide (s ≥ (R.length : Int)) = false := decide_eq_false (by omega)
  have c3 : decide (e < 0) = false := decide_eq_false (by omega)
  have c4 : decide (e > 1025) = false := decide_eq_false (by omega)
  obtain ⟨sn, hsn⟩ : ∃ sn : Nat, s = (sn : Int) := ⟨s.toNat, by omega⟩
  subst hsn
  have hsl : sn < R.length := by omega
  (refine wk0 ?_;(repeat clear hK K);repeat refine kq fun K hK=>?_)
  (refine ckz (validR_fc R (by omega) (fun r h => by have := hr r h; omega)) ?_; intro K1 hK1)
  rintro _ _ ⟨rfl, rfl⟩
  (refine bkz ?_; clear hK1 K1)
  (refine wk1 (an @hv (an @Bool.not_true (an @c1 (an @c2 (an @c3 (an @c4 @tRows_len)))))) ?_;(repeat clear hK K);repeat refine kq fun K hK=>?_)
  refine cyz ?_
  (refine wk0 ?_;(repeat clear hK K);repeat refine kq fun K hK=>?_)
  (refine lst_le (le_frz (r := ⟨3, 1, true, cInts [(sn : Int)]⟩) 1 (tInts [(sn : Int)]) rfl (fz_c _) (show 0 < (1 : Nat) by omega)) ?_; simp only [ST.frz, A0.frz, AV.frz, C.frz, Nat.le_refl, List.set_cons_zero, List.set_cons_succ, go_sem, show (tInts [(sn : Int)]).take 1 = tInts [(sn : Int)] from rfl])
  (refine ckz (reach_fc R sn true hv hsl hn hr) ?_; intro K1 hK1)
  rintro _ _ ⟨B, hB, hBr, L, hL, rfl, rfl⟩
  (simp only [aInts, aSets, rInts, cInts_up, List.append_nil, List.nil_append, List.length_map, go_sem]; refine hK1 _ ?_; clear hK1 K1)
  obtain ⟨M, hMd⟩ : ∃ M, M = ordN R.length (seenB B) := ⟨_, rfl⟩
  have hM : reS R sn M := ⟨seenB B, fun u hu => by rw [hBr, adj_eq true hv], hMd⟩
  have hLM : L = M.map Int.ofNat := by rw [hL, hMd]; rfl
  have hMl := reS_lt hM
  have hLl : L.length = M.length := by rw [hLM, List.length_map]
  have htk : (tInts L).take L.length = tInts L := List.take_of_length_le (by rw [tInts_len]; exact Nat.le_refl _)
  by_cases he : e = 0
  ·have d0 : (e == 0) = true := by simp [he]
   (refine wk1 @d0 ?_;(repeat clear hK K);repeat refine kq fun K hK=>?_)
   refine cxz ?_
   (refine wk0 ?_;(repeat clear hK K);repeat refine kq fun K hK=>?_)
   ((try refine aw_ret ?_); (try simp only [ThenA, InBl]); refine ret_le (le_frz (r := ⟨3, 1, true, cInts L⟩) 2 (tInts L) rfl (fz_c _) (show 0 < (1 : Nat) by omega)) ?_; refine ret_le (le_pick [] rfl rfl) ?_; simp only [ST.frz, A0.frz, AV.frz, C.frz, Nat.le_refl, List.set_cons_zero, List.set_cons_succ, go_sem, tInts_len, htk]; (try simp only [List.set_nil, List.take_nil, List.take_zero, List.map_append, go_sem]); ((try refine aw_ret ?_); (try refine lst_nil ?_); (try simp only [ThenA, InBl]); refine ret_mk (by first | exact .inl rfl | exact .inr rfl) rfl ?_; simp only [rtn, resA, resL, resV, Tryz.results70, go_sem, true_and, and_true, tInts_len, htk]))
   exact ⟨_, .inr ⟨hok, M, hM, .inl ⟨he, hLM⟩⟩, rfl⟩
  ·have d0 : (e == 0) = false := by simpa using he
   (refine wk1 @d0 ?_;(repeat clear hK K);repeat refine kq fun K hK=>?_)
   refine cyz ?_
   (refine wk0 ?_;(repeat clear hK K);repeat refine kq fun K hK=>?_)
   refine aw_le (le_nilt 8 1 ?_) ?_
   ·simp only [go_sem]
   refine aw_loop (fun i : Nat => { tm := [(2, .i e), (3, .a (.c (.p 0 0))), (7, .a (.c (.s 2 L.length))), (8, .a (.c (.t 1 (tInts (tgI R (M.take i) e []))))), (9, .i i)], hp := [.r ⟨25, 1, false, [.t 1 (tRows R)]⟩, .d, .r ⟨3, 1, true, cInts L⟩], n := 88, pin := 0 }) (fun i => i ≤ L.length) (fun i => L.length - i) 0 ?_ ?_ ?_
   ·omega
   ·simp only [List.take_zero, tgI, List.foldl_nil, tInts_nil]
    exact lmz
   ·rintro i hi K hK
    by_cases hlt : i < L.length
    ·have d1 : decide ((i : Int) < (L.length : Int)) = true := by simpa using hlt
     have hiM : i < M.length := by omega
     have gL : (cInts L)[i]? = some (.v (.int .i64 (M[i] : Int))) := cInts_get (by rw [hLM, List.getElem?_map, List.getElem?_eq_getElem hiM]; rfl)
     have hul := hMl.1 _ (List.getElem_mem hiM)
     have hTk : M.take (i + 1) = M.take i ++ [M[i]] := List.take_succ_eq_append_getElem hiM
     have hsub : ∀ v ∈ M.take i, v < R.length := fun v hv => hMl.1 v (List.mem_of_mem_take hv)
     generalize M[i] = u at *
     have hgR := List.getElem?_eq_getElem hul
     have hrl := hr _ (List.getElem_mem hul)
     have hRu : R.getD u [] = R[u] := by rw [List.getD_eq_getElem?_getD, hgR]; rfl
     have hbr := hbd _ (List.getElem_mem hul)
     generalize hrr : R[u] = row at *
     have hacc : Asc (tgI R (M.take i) e []) ∧ ∀ x ∈ tgI R (M.take i) e [], 0 ≤ x ∧ x < (R.length : Int) := by
      refine ⟨tgI_asc _ _ List.Pairwise.nil, fun x hx => ?_⟩
      rw [mem_tgI] at hx
      rcases hx with h | ⟨s, hs, a, ha, _, rfl⟩
      ·simp at h
      ·have hsl2 := hsub s hs
       rw [List.getD_eq_getElem?_getD, List.getElem?_eq_getElem hsl2, Option.getD_some] at ha
       have := hbd _ (List.getElem_mem hsl2) a ha
       exact ⟨this.2.2.1, this.2.2.2⟩
     have hnx : tgI R (M.take (i + 1)) e [] = tgi1 row e (tgI R (M.take i) e []) := by rw [hTk, tgI_snoc, hRu]
     generalize tgI R (M.take i) e [] = acc at *
     have hKo := hK
     (refine wk1 (an @d1 @cInts_len) ?_;(repeat clear hK K);repeat refine kq fun K hK=>?_)
     refine cxz ?_
     (refine wk0 ?_;(repeat clear hK K);repeat refine kq fun K hK=>?_)
     refine aw_loop (fun k : Nat => { tm := [(2, .i e), (3, .a (.c (.p 0 0))), (7, .a (.c (.s 2 L.length))), (8, .a (.c (.t 1 (tInts (tgi1 (row.take k) e acc))))), (9, .i i), (10, .i k)], hp := [.r ⟨25, 1, false, [.t 1 (tRows R)]⟩, .d, .r ⟨3, 1, true, cInts L⟩], n := 88, pin := 0 }) (fun k => k ≤ row.length) (fun k => row.length - k) 0 ?_ ?_ ?_
     ·omega
     ·simp only [List.take_zero, tgi1, List.foldl_nil]
      exact lmz
     ·rintro k hk K hK
      by_cases hlt2 : k < row.length
      ·have d2 : decide ((k : Int) < (row.length : Int)) = true := by simpa using hlt2
       have ha0 := tArcs_c0 hlt2
       have ha1 := tArcs_c1 hlt2
       have hsn := tgi1_snoc (row.take k) e acc row[k]
       rw [← List.take_succ_eq_append_getElem hlt2] at hsn
       have hql : (tgi1 (row.take k) e acc).length ≤ R.length := asc_bd (tgi1_asc _ _ hacc.1) fun x hx => by
        rw [mem_tgi1] at hx
        rcases hx with h | ⟨a, ha, _, rfl⟩
        ·exact hacc.2 x h
        ·have := hbr a (List.mem_of_mem_take ha)
         exact ⟨this.2.2.1, this.2.2.2⟩
       generalize tgi1 (row.take k) e acc = q at *
       (refine wk0 ?_;(repeat clear hK K);repeat refine kq fun K hK=>?_)
       (refine aw_regionU 10 [(0, 0), (1, 0), (2, 1), (3, 0), (4, 0), (5, 0), (6, 1), (7, 0), (8, 1), (9, 0), (10, 2)] (by kernel_rfl) (by kernel_rfl) (by intro c st h; simp [ThenA, InBl, Ret] at h) ?_)
       (refine uk1 (an @tRows_len (an (tRows_get hgR) (an @cInts_len (an @gL (an @tArcs_len (an @half2 @d2)))))) ?_; repeat clear hK K)
       refine cxz ?_
       (refine wk0 ?_;(repeat clear hK K);repeat refine kq fun K hK=>?_)
       by_cases hae : row[k].1 = e
       ·have d3 : (row[k].1 == e) = true := by simpa using hae
        rw [if_pos hae] at hsn
        (refine aw_regionU 13 [(0, 0), (1, 1), (2, 0), (3, 0), (4, 0), (5, 1), (6, 0), (7, 1), (8, 0), (9, 0), (10, 0), (11, 1), (12, 0), (13, 2)] (by kernel_rfl) (by kernel_rfl) (by intro c st h; simp [ThenA, InBl, Ret] at h) ?_)
        (refine uk1 (an @tRows_len (an (tRows_get hgR) (an @cInts_len (an @gL (an @tArcs_len (an @half2 (an @ha0 @d3))))))) ?_; repeat clear hK K)
        refine cxz ?_
        (refine wk0 ?_;(repeat clear hK K);repeat refine kq fun K hK=>?_)
        (refine aw_regionU 13 [(0, 0), (1, 0), (2, 1), (3, 0), (4, 0), (5, 0), (6, 1), (7, 0), (8, 1), (9, 0), (10, 0), (11, 0), (12, 1), (13, 2), (14, 0)] (by kernel_rfl) (by kernel_rfl) (by intro c st h; simp [ThenA, InBl, Ret] at h) ?_)
        (refine uk1 (an @tRows_len (an (tRows_get hgR) (an @cInts_len (an @gL (an @tArcs_len (an @half2 @ha1)))))) ?_; repeat clear hK K)
        (refine uckz (addT_fc q row[k].2 (by omega)) ?_; intro K1 hK1)
        rintro _ _ ⟨rfl, rfl⟩
        (refine bkz ?_; clear hK1 K1)
        (refine uk0 ?_; repeat clear hK K)
        (refine wk0 ?_;(repeat clear hK K);repeat refine kq fun K hK=>?_)
        refine rnz ?_
        refine hK _ (k + 1) (by omega) (by omega) ?_
        rw [hsn]
        exact lmz
       ·have d3 : (row[k].1 == e) = false := by simpa using hae
        rw [if_neg hae] at hsn
        (refine aw_regionU 13 [(0, 0), (1, 1), (2, 0), (3, 0), (4, 0), (5, 1), (6, 0), (7, 1), (8, 0), (9, 0), (10, 0), (11, 1), (12, 0), (13, 2)] (by kernel_rfl) (by kernel_rfl) (by intro c st h; simp [ThenA, InBl, Ret] at h) ?_)
        (refine uk1 (an @tRows_len (an (tRows_get hgR) (an @cInts_len (an @gL (an @tArcs_len (an @half2 (an @ha0 @d3))))))) ?_; repeat clear hK K)
        refine cyz ?_
        (refine wk0 ?_;(repeat clear hK K);repeat refine kq fun K hK=>?_)
        refine rnz ?_
        refine hK _ (k + 1) (by omega) (by omega) ?_
        rw [hsn]
        exact lmz
      ·have d2 : decide ((k : Int) < (row.length : Int)) = false := by simpa using hlt2
       have htr : row.take k = row := List.take_of_length_le (by omega)
       rw [htr, ← hnx]
       (refine wk0 ?_;(repeat clear hK K);repeat refine kq fun K hK=>?_)
       (refine aw_regionU 10 [(0, 0), (1, 0), (2, 1), (3, 0), (4, 0), (5, 0), (6, 1), (7, 0), (8, 1), (9, 0), (10, 2)] (by kernel_rfl) (by kernel_rfl) (by intro c st h; simp [ThenA, InBl, Ret] at h) ?_)
       (refine uk1 (an @tRows_len (an (tRows_get hgR) (an @cInts_len (an @gL (an @tArcs_len (an @half2 @d2)))))) ?_; repeat clear hK K)
       refine cyz ?_
       (refine ekz ?_;repeat clear hK K)
       (refine wk0 ?_;(repeat clear hK K);repeat refine kq fun K hK=>?_)
       refine rnz ?_
       refine hKo _ (i + 1) (by omega) (by omega) ?_
       exact lmz
    ·have d1 : decide ((i : Int) < (L.length : Int)) = false := by simpa using hlt
     have htM : M.take i = M := List.take_of_length_le (by omega)
     rw [htM]
     (refine wk1 (an @d1 @cInts_len) ?_;(repeat clear hK K);repeat refine kq fun K hK=>?_)
     refine cyz ?_
     (refine ekz ?_;repeat clear hK K)
     (refine wk0 ?_;(repeat clear hK K);repeat refine kq fun K hK=>?_)
     refine rp0 [] Tryz.results70 ?_
     obtain ⟨p, hp1, hp2⟩ := tgI_eq (e := e) (fun r h a ha => by have := hbd r h a ha; exact ⟨this.2.2.1, this.2.2.2⟩) hMl.1
     exact ⟨_, .inr ⟨hok, M, hM, .inr ⟨he, p, hp1, hp2⟩⟩, rfl⟩
theorem hasT_fc (xs : List Int) (x : Int) (hn : xs.length ≤ 140737488355328) : FC Tryz.prog 66 [aInts xs, .i x] [] (fun r o => o = [] ∧ r = .b (decide (x ∈ xs))) := by
 refine fc_intro Tryz.func66 rfl (by rw [Tryz.ntmps66]; simp) ?_
 rw [Tryz.ntmps66]
 simp only [enum, aInts]
 (refine wk0 ?_;(repeat clear hK K);repeat refine kq fun K hK=>?_)
 refine aw_loop (fun k : Nat => { tm := [(0, .a (.c (.t 1 (tInts xs)))), (1, .i x), (5, .i k)], hp := [], n := 18, pin := 0 }) (fun k => k ≤ xs.length ∧ ∀ i, i < k → xs[i]? ≠ some x) (fun k => xs.length - k) 0 ?_ ?_ ?_
 ·exact ⟨by omega, by intro i hi; omega⟩
 ·exact lmz
 ·rintro k ⟨hk, hno⟩ K hK
  (refine wk1 @tInts_len ?_;(repeat clear hK K);repeat refine kq fun K hK=>?_)
  (refine aw_cnd ?_; intro X Y hX hY; simp only [go_sem])
  refine ⟨fun h => hX ?_, fun h => hY ?_⟩
  ·have hlt : k < xs.length := by simpa using h
   clear hX hY X Y h
   (refine wk1 (an @tInts_len (tInts_get (List.getElem?_eq_getElem hlt))) ?_;(repeat clear hK K);repeat refine kq fun K hK=>?_)
   (refine aw_cnd ?_; intro X Y hX hY; simp only [go_sem])
   refine ⟨fun h => hX ?_, fun h => hY ?_⟩
   ·clear hX hY X Y
    (refine wk0 ?_;(repeat clear hK K);repeat refine kq fun K hK=>?_)
    refine rq0 Tryz.results66 ?_
    have : x ∈ xs := by rw [← beq_iff_eq.1 h]; exact List.getElem_mem hlt
    simp [this]
   ·clear hX hY X Y
    (refine wk0 ?_;(repeat clear hK K);repeat refine kq fun K hK=>?_)
    refine rnz ?_
    refine hK _ (k + 1) ⟨by omega, fun i hi => ?_⟩ (by omega) ?_
    ·by_cases e : i = k
     ·subst e; rw [List.getElem?_eq_getElem hlt]; simpa using h
     ·exact hno i (by omega)
    ·exact lmz
  ·have hge : k = xs.length := by simp at h; omega
   clear hX hY X Y
   (refine ekz ?_;repeat clear hK K)
   (refine wk0 ?_;(repeat clear hK K);repeat refine kq fun K hK=>?_)
   refine rq0 Tryz.results66 ?_
   have : x ∉ xs := by
    intro hm
    obtain ⟨i, hi⟩ := List.mem_iff_getElem?.1 hm
    exact hno i (by rw [hge]; exact (List.getElem?_eq_some_iff.1 hi).1) hi
   simp [this]

def cSetsO (L : List (List Int)) : List C := L.map fun r => C.o (1, 3) (tInts r)
theorem cSetsO_len (L : List (List Int)) : (cSetsO L).length = L.length := by simp [cSetsO]
theorem cSetsO_set (L : List (List Int)) (i : Nat) (x : List Int) : (cSetsO L).set i (.o (1, 3) (tInts x)) = cSetsO (L.set i x) := by simp [cSetsO, List.map_set]
theorem cSetsO_ren (f : List Nat) (L : List (List Int)) : (cSetsO L).map (C.ren f) = cSetsO L := by simp [cSetsO, C.ren, Function.comp_def]
theorem tInts_one (x : Int) : (tInts [x]).take 1 = tInts [x] := rfl
def RowOk (E : Nat → List Nat) (n j : Nat) (L : List Int) : Prop := ∃ B : List Bool, B.length = n ∧ (∀ u, seenB B u = true ↔ Rc E j u) ∧ L = ((List.range n).filter (seenB B)).map Int.ofNat
theorem RowOk.len {E : Nat → List Nat} {n j : Nat} {L : List Int} (h : RowOk E n j L) : L.length ≤ n := by
 obtain ⟨B, _, h2, rfl⟩ := h
 rw [List.length_map]
 have := List.length_filter_le (seenB B) (List.range n)
 simpa using this
def Dv (R : List (List Ar)) (s : Nat) : Prop := ∃ g, Rc (Adj true R) s g ∧ ∃ w, w ∈ Adj true R g ∧ Rc (Adj true R) w g
def bfA (s : Nat) (o : List (List Int)) (a : Ar) : List (List Int) := o.set a.2.toNat (o.getD a.2.toNat [] ++ [(s : Int)])
def bfRow (s : Nat) (o : List (List Int)) (row : List Ar) : List (List Int) := row.foldl (bfA s) o
def bfL (R : List (List Ar)) : Nat → List (List Int)
 | 0 => List.replicate R.length []
 | k + 1 => bfRow k (bfL R k) (tauOf true (R.getD k []))
def totI (o : List (List Int)) : Nat := (o.map List.length).sum
theorem bfA_len (s : Nat) (o : List (List Int)) (a : Ar) : (bfA s o a).length = o.length := by simp [bfA]
theorem bfRow_len (s : Nat) (row : List Ar) : ∀ o, (bfRow s o row).length = o.length := by
 induction row with
 | nil => intro o; rfl
 | cons a r ih => intro o; show (bfRow s (bfA s o a) r).length = _; rw [ih, bfA_len]
theorem bfL_len (R : List (List Ar)) (k : Nat) : (bfL R k).length = R.length := by
 induction k with
 | zero => simp [bfL]
 | succ k ih => rw [bfL, bfRow_len, ih]
theorem bfRow_snoc (s : Nat) (o : List (List Int)) (row : List Ar) (a : Ar) : bfRow s o (row ++ [a]) = bfA s (bfRow s o row) a := by unfold bfRow; rw [List.foldl_append]; rfl
theorem totI_set (o : List (List Int)) {c : Nat} (h : c < o.length) (x : Int) : totI (o.set c (o.getD c [] ++ [x])) = totI o + 1 := by
 induction o generalizing c with
 | nil => simp at h
 | cons y r ih =>
  cases c with
  | zero => simp [totI]; omega
  | succ c =>
   have := ih (c := c) (by simpa using h)
   simp only [List.set_cons_succ, List.getD_cons_succ]
   simp only [totI, List.map_cons, List.sum_cons] at this ⊢
   omega
theorem totI_row (o : List (List Int)) (c : Nat) : (o.getD c []).length ≤ totI o := by
 induction o generalizing c with
 | nil => simp
 | cons y r ih =>
  cases c with
  | zero => simp [totI]
  | succ c =>
   have := ih c
   simp only [List.getD_cons_succ]
   simp only [totI, List.map_cons, List.sum_cons] at this ⊢
   omega
theorem totI_bf (s : Nat) (row : List Ar) : ∀ o : List (List Int), (∀ a ∈ row, a.2.toNat < o.length) → totI (bfRow s o row) = totI o + row.length := by
 induction row with
 | nil => intro o _; rfl
 | cons a r ih =>
  intro o h
  show totI (bfRow s (bfA s o a) r) = _
  rw [ih _ (by rw [bfA_len]; exact fun b hb => h b (List.mem_cons_of_mem _ hb))]
  unfold bfA
  rw [totI_set o (h a (by simp))]
  simp only [List.length_cons]; omega
theorem mem_bfA {s t : Nat} {o : List (List Int)} {a : Ar} {x : Int} (h : a.2.toNat < o.length) : x ∈ (bfA s o a).getD t [] ↔ x ∈ o.getD t [] ∨ (a.2.toNat = t ∧ x = (s : Int)) := by
 unfold bfA
 rw [List.getD_eq_getElem?_getD]
 by_cases e : a.2.toNat = t
 ·subst e
  rw [List.getElem?_set_self h, Option.getD_some, List.mem_append]
  simp
 ·rw [List.getElem?_set_ne e, ← List.getD_eq_getElem?_getD]
  simp [e]
theorem mem_bfRow {s t : Nat} {x : Int} : ∀ (row : List Ar) (o : List (List Int)), (∀ a ∈ row, a.2.toNat < o.length) → (x ∈ (bfRow s o row).getD t [] ↔ x ∈ o.getD t [] ∨ (x = (s : Int) ∧ t ∈ row.map fun a => a.2.toNat)) := by
 intro row
 induction row with
 | nil => intro o _; simp [bfRow]
 | cons a r ih =>
  intro o h
  show x ∈ (bfRow s (bfA s o a) r).getD t [] ↔ _
  rw [ih _ (by rw [bfA_len]; exact fun b hb => h b (List.mem_cons_of_mem _ hb)), mem_bfA (h a (by simp))]
  simp only [List.map_cons, List.mem_cons]
  constructor
  ·rintro ((h | ⟨h1, h2⟩) | ⟨h1, h2⟩)
   ·exact .inl h
   ·exact .inr ⟨h2, .inl h1.symm⟩
   ·exact .inr ⟨h1, .inr h2⟩
  ·rintro (h | ⟨h1, h2 | h2⟩)
   ·exact .inl (.inl h)
   ·exact .inl (.inr ⟨h2.symm, h1⟩)
   ·exact .inr ⟨h1, h2⟩
theorem tauOf_sub {t : Bool} {r : List Ar} : ∀ a ∈ tauOf t r, a ∈ r := fun a ha => by
 unfold tauOf at ha
 split at ha
 ·exact (List.takeWhile_sublist _).subset ha
 ·exact ha
theorem tauOf_len (t : Bool) (r : List Ar) : (tauOf t r).length ≤ r.length := by
 unfold tauOf
 split
 ·exact (List.takeWhile_sublist _).length_le
 ·exact Nat.le_refl _
theorem tau_lt {R : List (List Ar)} (hlo : looB R = true) {k : Nat} : ∀ a ∈ tauOf true (R.getD k []), 0 ≤ a.2 ∧ a.2.toNat < R.length := fun a ha => by
 have h1 := tauOf_sub a ha
 rcases Nat.lt_or_ge k R.length with h | h
 ·rw [List.getD_eq_getElem?_getD, List.getElem?_eq_getElem h] at h1
  have := (of_decide_eq_true hlo).2.2.2 _ (List.getElem_mem h) a h1
  omega
 ·rw [List.getD_eq_getElem?_getD, List.getElem?_eq_none h] at h1; simp at h1
theorem mem_bfL {R : List (List Ar)} (hlo : looB R = true) {t : Nat} {x : Int} : ∀ k, x ∈ (bfL R k).getD t [] ↔ ∃ s, s < k ∧ x = (s : Int) ∧ t ∈ Adj true R s := by
 intro k
 induction k with
 | zero =>
  simp only [bfL, List.getD_eq_getElem?_getD, List.getElem?_replicate]
  split <;> simp
 | succ k ih =>
  rw [bfL, mem_bfRow _ _ (by rw [bfL_len]; exact fun a ha => (tau_lt hlo a ha).2), ih]
  constructor
  ·rintro (⟨s, h1, h2, h3⟩ | ⟨h1, h2⟩)
   ·exact ⟨s, by omega, h2, h3⟩
   ·exact ⟨k, by omega, h1, h2⟩
  ·rintro ⟨s, h1, h2, h3⟩
   by_cases e : s = k
   ·subst e; exact .inr ⟨h2, h3⟩
   ·exact .inl ⟨s, by omega, h2, h3⟩
theorem totI_bfL {R : List (List Ar)} (hlo : looB R = true) : ∀ k, k ≤ R.length → totI (bfL R k) ≤ totA (R.take k) := by
 intro k
 induction k with
 | zero => intro _; simp [bfL, totI, totA]
 | succ k ih =>
  intro hk
  have h1 := ih (by omega)
  have h2 := totA_take (R := R) (k := k) hk
  have h3 := tauOf_len true (R.getD k [])
  have h4 : R.getD k [] = R[k] := by rw [List.getD_eq_getElem?_getD, List.getElem?_eq_getElem hk]; rfl
  rw [bfL, totI_bf _ _ _ (by rw [bfL_len]; exact fun a ha => (tau_lt hlo a ha).2)]
  rw [h4] at h3 ⊢
  omega
structure Bq (E : Nat → List Nat) (n : Nat) (G : Nat → Prop) (O : List Int) (Q : List Nat) : Prop where
 len : O.length = n
 lt : ∀ q ∈ Q, q < n
 nd : Q.Nodup
 iff : ∀ s, s < n → (0 ≤ fnL O (-1) s ↔ s ∈ Q)
 hi : ∀ s, fnL O (-1) s ≤ (Q.length : Int)
 rc : ∀ q ∈ Q, ∃ g, g < n ∧ G g ∧ Rc E q g
section
variable {E : Nat → List Nat} {n : Nat} {G : Nat → Prop} {O : List Int} {Q : List Nat}
theorem Bq.qlen (h : Bq E n G O Q) : Q.length ≤ n := by
 have := h.nd.length_le_of_subset (l₂ := List.range n) fun q hq => List.mem_range.2 (h.lt q hq)
 simpa using this
theorem Bq.start (E : Nat → List Nat) (n : Nat) (G : Nat → Prop) : Bq E n G (List.replicate n (-1)) [] := by
 refine ⟨by simp, by simp, List.nodup_nil, fun s hs => ?_, fun s => ?_, by simp⟩
 ·rw [fnL_get (by simpa using hs)]; simp
 ·unfold fnL
  rw [List.getElem?_replicate]
  split <;> simp
theorem Bq.push (h : Bq E n G O Q) {s : Nat} (hs : s < n) (hq : s ∉ Q) {v : Int} (h0 : 0 ≤ v) (h1 : v ≤ (Q.length : Int) + 1) (hr : ∃ g, g < n ∧ G g ∧ Rc E s g) : Bq E n G (O.set s v) (Q ++ [s]) := by
 have hl := h.len
 refine ⟨by simp [hl], fun q hq => ?_, ?_, fun t ht => ?_, fun t => ?_, fun q hq => ?_⟩
 ·rcases List.mem_append.1 hq with h2 | h2
  ·exact h.lt q h2
  ·simp at h2; subst h2; exact hs
 ·rw [List.nodup_append]
  exact ⟨h.nd, by simp, fun a ha b hb => by simp at hb; subst hb; intro e; subst e; exact hq ha⟩
 ·rw [fnL_set (by omega)]
  unfold upd
  split
  ·rename_i e; subst e; simp [h0]
  ·rename_i e; rw [h.iff t ht]; simp [e]
 ·rw [fnL_set (by omega)]
  unfold upd
  simp only [List.length_append, List.length_singleton]
  split
  ·omega
  ·have := h.hi t; omega
 ·rcases List.mem_append.1 hq with h2 | h2
  ·exact h.rc q h2
  ·simp at h2; subst h2; exact hr
theorem Bq.done (h : Bq E n G O Q) (hE : ∀ x, x < n → ∀ y ∈ E x, y < n) (hg : ∀ g, g < n → G g → g ∈ Q) (hc : ∀ q ∈ Q, ∀ p, p < n → q ∈ E p → p ∈ Q) {s : Nat} (hs : s < n) : 0 ≤ fnL O (-1) s ↔ ∃ g, g < n ∧ G g ∧ Rc E s g := by
 rw [h.iff s hs]
 constructor
 ·exact h.rc s
 ·rintro ⟨g, h1, h2, h3⟩
  have key : ∀ x, Rc E s x → x ∈ Q → s ∈ Q := by
   intro x hx
   induction hx with
   | refl => exact id
   | tail hv hw ih => exact fun hq => ih (hc _ hq _ (hv.lt hs hE) hw)
  exact key g h3 (hg g h1 h2)
end
def lp1 (D : List Int) (s : Nat) (row : List Ar) : Bool := row.any fun a => decide (D.getD a.2.toNat 0 = D.getD s 0)
def lpL (R : List (List Ar)) (D : List Int) (k : Nat) : List Bool := (List.range k).map fun s => lp1 D s (tauOf true (R.getD s []))
theorem lpL_len (R : List (List Ar)) (D : List Int) (k : Nat) : (lpL R D k).length = k := by simp [lpL]
theorem lp1_snoc (D : List Int) (s : Nat) (row : List Ar) (a : Ar) : lp1 D s (row ++ [a]) = (lp1 D s row || decide (D.getD a.2.toNat 0 = D.getD s 0)) := by simp [lp1]
theorem lpL_iff {R : List (List Ar)} {D : List Int} (hlo : looB R = true) (hD : D.length = R.length) (hL : ∀ v, v < R.length → Least (Adj true R) v (fnL D (-1) v)) {g : Nat} (hg : g < R.length) : (lpL R D R.length).getD g false = true ↔ ∃ w, w ∈ Adj true R g ∧ Rc (Adj true R) w g := by
 have e1 : (lpL R D R.length).getD g false = lp1 D g (tauOf true (R.getD g [])) := by simp [lpL, List.getD_eq_getElem?_getD, hg]
 have hE := adj_lt true hlo
 have hd : ∀ v, v < R.length → D.getD v 0 = fnL D (-1) v := fun v hv => by rw [fnL_get (by omega), List.getD_eq_getElem?_getD, List.getElem?_eq_getElem (by omega)]; rfl
 rw [e1]
 unfold lp1
 rw [List.any_eq_true]
 simp only [decide_eq_true_eq]
 constructor
 ·rintro ⟨a, ha, e⟩
  have hw : a.2.toNat ∈ Adj true R g := List.mem_map.2 ⟨a, ha, rfl⟩
  have hwl := hE g hg _ hw
  rw [hd _ hwl, hd _ hg] at e
  obtain ⟨x, ex, p1, p2, _⟩ := hL _ hwl
  obtain ⟨y, ey, q1, q2, _⟩ := hL _ hg
  have : x = y := by omega
  subst this
  exact ⟨_, hw, p1.trans q2⟩
 ·rintro ⟨w, hw, hr⟩
  obtain ⟨a, ha, rfl⟩ := List.mem_map.1 hw
  refine ⟨a, ha, ?_⟩
  have hwl := hE g hg _ hw
  rw [hd _ hwl, hd _ hg]
  obtain ⟨x, ex, p1, p2, p3⟩ := hL _ hwl
  obtain ⟨y, ey, q1, q2, q3⟩ := hL _ hg
  have hgw : Rc (Adj true R) g a.2.toNat := .one hw
  have l1 := p3 y (hr.trans q1) (q2.trans hgw)
  have l2 := q3 x (hgw.trans p1) (p2.trans hr)
  omega
def DvL (R : List (List Ar)) (B : List Bool) : Prop := B.length = R.length ∧ ∀ s, s < R.length → (B.getD s false = true ↔ Dv R s)
theorem DvL.uniq {R : List (List Ar)} {A B : List Bool} (h1 : DvL R A) (h2 : DvL R B) : A = B := by
 refine List.ext_getElem (by rw [h1.1, h2.1]) fun i hi hj => ?_
 have a := h1.2 i (by have := h1.1; omega)
 have b := h2.2 i (by have := h1.1; omega)
 rw [List.getD_eq_getElem?_getD, List.getElem?_eq_getElem hi, Option.getD_some] at a
 rw [List.getD_eq_getElem?_getD, List.getElem?_eq_getElem hj, Option.getD_some] at b
 rw [Bool.eq_iff_iff, a, b]
def evI (acc : List Int) (r : List Ar) : List Int := r.foldl (fun acc a => addI a.1 acc) acc
def evG (R : List (List Ar)) (k : Nat) : List Int := (R.take k).foldl evI [0]
theorem evI_snoc (acc : List Int) (r : List Ar) (a : Ar) : evI acc (r ++ [a]) = addI a.1 (evI acc r) := by unfold evI; rw [List.foldl_append]; rfl
theorem evG_succ {R : List (List Ar)} {k : Nat} (h : k < R.length) : evG R (k + 1) = evI (evG R k) R[k] := by
 unfold evG
 rw [List.take_succ_eq_append_getElem h, List.foldl_append]; rfl
theorem mem_evI {x : Int} : ∀ (r : List Ar) (acc : List Int), x ∈ evI acc r ↔ x ∈ acc ∨ ∃ a ∈ r, a.1 = x
 | [], acc => by simp [evI]
 | a :: r, acc => by
  show x ∈ evI (addI a.1 acc) r ↔ _
  rw [mem_evI r, mem_addI]
  simp only [List.mem_cons, exists_eq_or_imp]
  constructor
  ·rintro ((rfl | h) | h)
   ·exact .inr (.inl rfl)
   ·exact .inl h
   ·exact .inr (.inr h)
  ·rintro (h | h | h)
   ·exact .inl (.inr h)
   ·exact .inl (.inl h.symm)
   ·exact .inr h
theorem evI_asc : ∀ (r : List Ar) (acc : List Int), Asc acc → Asc (evI acc r)
 | [], _, h => h
 | _ :: r, _, h => evI_asc r _ (addI_asc h)
theorem evG_ok {R : List (List Ar)} (hb : ∀ r ∈ R, ∀ a ∈ r, 0 ≤ a.1 ∧ a.1 ≤ 1025) (k : Nat) : k ≤ R.length → Asc (evG R k) ∧ (∀ x ∈ evG R k, 0 ≤ x ∧ x < 1026) ∧ (0 : Int) ∈ evG R k ∧ ∀ r ∈ R.take k, ∀ a ∈ r, a.1 ∈ evG R k := by
 induction k with
 | zero => intro _; exact ⟨by simp [evG, Asc], by simp [evG], by simp [evG], by simp⟩
 | succ k ih =>
  intro hk
  obtain ⟨h1, h2, h3, h4⟩ := ih (by omega)
  have hkl : k < R.length := hk
  rw [evG_succ hkl]
  refine ⟨evI_asc _ _ h1, fun x hx => ?_, (mem_evI _ _).2 (.inl h3), fun r hr a ha => ?_⟩
  ·rcases (mem_evI _ _).1 hx with h | ⟨a, ha, rfl⟩
   ·exact h2 x h
   ·have := hb _ (List.getElem_mem hkl) a ha; omega
  ·rw [mem_evI]
   rw [List.take_succ_eq_append_getElem hkl] at hr
   rcases List.mem_append.1 hr with h | h
   ·exact .inl (h4 r h a ha)
   ·simp at h; subst h; exact .inr ⟨a, ha, rfl⟩
noncomputable def sgc (R : List (List Ar)) (s : Nat) : List Nat := ordN R.length (fun u => @decide (Rc (Adj true R) s u) (Classical.propDecidable _))
theorem mem_sgc {R : List (List Ar)} {s u : Nat} : u ∈ sgc R s ↔ u < R.length ∧ Rc (Adj true R) s u := by
 unfold sgc
 rw [mem_ordN]
 simp
noncomputable def dAL (R : List (List Ar)) (s : Nat) (e : Int) : List Int := if e = 0 then (sgc R s).map Int.ofNat else (ordN R.length (fun u => decide (u ∈ tg R (sgc R s) e))).map Int.ofNat
theorem dAL_ok {R : List (List Ar)} (hv : valB R = true) {s : Nat} {e : Int} (hs : s < R.length) (h0 : 0 ≤ e) (h1 : e ≤ 1025) : dArr R s e (dAL R s e) := by
 have hre : reS R s (sgc R s) := ⟨_, fun u _ => by simp, rfl⟩
 refine .inr ⟨?_, sgc R s, by rw [Int.toNat_natCast]; exact hre, ?_⟩
 ·unfold arrOk
  rw [hv, decide_eq_true (show (0 : Int) ≤ s by omega), decide_eq_true (show (s : Int) < R.length by omega), decide_eq_true h0, decide_eq_true h1]; rfl
 ·unfold dAL
  by_cases e0 : e = 0
  ·exact .inl ⟨e0, by rw [if_pos e0]⟩
  ·exact .inr ⟨e0, fun u => decide (u ∈ tg R (sgc R s) e), fun u _ => by rw [decide_eq_true_iff], by rw [if_neg e0]⟩
theorem mem_dAL {R : List (List Ar)} (hlo : looB R = true) {s : Nat} (hs : s < R.length) {e x : Int} : x ∈ dAL R s e ↔ (e = 0 ∧ ∃ u : Nat, x = (u : Int) ∧ Rc (Adj true R) s u) ∨ (e ≠ 0 ∧ ∃ t, Rc (Adj true R) s t ∧ ∃ a ∈ R.getD t [], a.1 = e ∧ a.2 = x) := by
 have hE := adj_lt true hlo
 unfold dAL
 by_cases e0 : e = 0
 ·rw [if_pos e0, List.mem_map]
  constructor
  ·rintro ⟨u, hu, rfl⟩
   exact .inl ⟨e0, u, rfl, (mem_sgc.1 hu).2⟩
  ·rintro (⟨_, u, rfl, hu⟩ | ⟨h, _⟩)
   ·exact ⟨u, mem_sgc.2 ⟨hu.lt hs hE, hu⟩, rfl⟩
   ·exact absurd e0 h
 ·rw [if_neg e0, List.mem_map]
  constructor
  ·rintro ⟨u, hu, rfl⟩
   rw [mem_ordN, decide_eq_true_iff, mem_tg] at hu
   obtain ⟨_, t, ht, h2⟩ := hu
   obtain ⟨a, ha, h3, h4⟩ := mem_tgR.1 h2
   have htl := (mem_sgc.1 ht).1
   have hb : 0 ≤ a.2 := by
    rw [List.getD_eq_getElem?_getD, List.getElem?_eq_getElem htl, Option.getD_some] at ha
    exact ((of_decide_eq_true hlo).2.2.2 _ (List.getElem_mem htl) a ha).2.2.1
   exact .inr ⟨e0, t, (mem_sgc.1 ht).2, a, ha, h3, by simp only [Int.ofNat_eq_natCast]; omega⟩
  ·rintro (⟨h, _⟩ | ⟨_, t, ht, a, ha, h3, rfl⟩)
   ·exact absurd h e0
   ·have htl := ht.lt hs hE
    have hb := ha
    rw [List.getD_eq_getElem?_getD, List.getElem?_eq_getElem htl, Option.getD_some] at hb
    have hb2 := (of_decide_eq_true hlo).2.2.2 _ (List.getElem_mem htl) a hb
    refine ⟨a.2.toNat, ?_, by simp only [Int.ofNat_eq_natCast]; omega⟩
    rw [mem_ordN, decide_eq_true_iff, mem_tg]
    exact ⟨by omega, t, mem_sgc.2 ⟨htl, ht⟩, mem_tgR.2 ⟨a, ha, h3, rfl⟩⟩
theorem dAL_bd {R : List (List Ar)} (hlo : looB R = true) {s : Nat} {e : Int} (hs : s < R.length) : (dAL R s e).length ≤ R.length ∧ ∀ x ∈ dAL R s e, 0 ≤ x ∧ x < (R.length : Int) := by
 have hl : ∀ p : Nat → Bool, (ordN R.length p).length ≤ R.length := fun p => by
  unfold ordN
  exact Nat.le_trans (List.length_filter_le _ _) (by simp)
 refine ⟨?_, fun x hx => ?_⟩
 ·unfold dAL
  split <;> rw [List.length_map] <;> exact hl _
 ·unfold dAL at hx
  split at hx
  ·obtain ⟨u, hu, rfl⟩ := List.mem_map.1 hx
   have := (mem_ordN.1 hu).1
   simp only [Int.ofNat_eq_natCast]; omega
  ·obtain ⟨u, hu, rfl⟩ := List.mem_map.1 hx
   have := (mem_ordN.1 hu).1
   simp only [Int.ofNat_eq_natCast]; omega
noncomputable def saE (R : List (List Ar)) (s : Nat) (e : Int) : List Ar := (dAL R s e).map fun u => (e, u)
noncomputable def saP (R : List (List Ar)) (Ev : List Int) (s k : Nat) : List Ar := (Ev.take k).flatMap (saE R s)
noncomputable def saR (R : List (List Ar)) (Ev : List Int) (s : Nat) : List Ar := saP R Ev s Ev.length
noncomputable def saL (R : List (List Ar)) (Ev : List Int) (k : Nat) : List (List Ar) := (List.range k).map (saR R Ev)
theorem saL_len (R : List (List Ar)) (Ev : List Int) (k : Nat) : (saL R Ev k).length = k := by simp [saL]
theorem saP_succ {R : List (List Ar)} {Ev : List Int} {s k : Nat} (h : k < Ev.length) : saP R Ev s (k + 1) = saP R Ev s k ++ saE R s Ev[k] := by
 unfold saP
 rw [List.take_succ_eq_append_getElem h, List.flatMap_append]
 simp
theorem saP_len {R : List (List Ar)} (hlo : looB R = true) {Ev : List Int} {s : Nat} (hs : s < R.length) : ∀ k, k ≤ Ev.length → (saP R Ev s k).length ≤ k * R.length := by
 intro k
 induction k with
 | zero => intro _; simp [saP]
 | succ k ih =>
  intro hk
  have h1 := ih (by omega)
  have h2 := (dAL_bd hlo (e := Ev[k]) hs).1
  rw [saP_succ hk, List.length_append, saE, List.length_map, Nat.succ_mul]
  omega
noncomputable def satR (R : List (List Ar)) : List (List Ar) := saL R (evG R R.length) R.length
theorem mem_satR {R : List (List Ar)} (hv : valB R = true) {s : Nat} (hs : s < R.length) {a : Ar} : a ∈ (satR R).getD s [] ↔ (a.1 = 0 ∧ ∃ u : Nat, a.2 = (u : Int) ∧ Rc (Adj true R) s u) ∨ (a.1 ≠ 0 ∧ ∃ t, Rc (Adj true R) s t ∧ a ∈ R.getD t []) := by
 have hlo : looB R = true := decide_eq_true (of_decide_eq_true hv).1
 have hg : (satR R).getD s [] = saR R (evG R R.length) s := by simp [satR, saL, List.getD_eq_getElem?_getD, hs]
 have hev := evG_ok (R := R) (fun r hr a ha => by have := (of_decide_eq_true hlo).2.2.2 r hr a ha; omega) R.length (Nat.le_refl _)
 rw [List.take_length] at hev
 rw [hg]
 unfold saR saP
 rw [List.take_length, List.mem_flatMap]
 constructor
 ·rintro ⟨e, he, h⟩
  obtain ⟨x, hx, rfl⟩ := List.mem_map.1 h
  rcases (mem_dAL hlo hs).1 hx with ⟨h1, u, rfl, h2⟩ | ⟨h1, t, h2, b, hb, h3, h4⟩
  ·exact .inl ⟨h1, u, rfl, h2⟩
  ·refine .inr ⟨h1, t, h2, ?_⟩
   have : b = (e, x) := by rcases b with ⟨p, q⟩; simp only at h3 h4; rw [h3, h4]
   rw [← this]; exact hb
 ·rintro (⟨h1, u, h2, h3⟩ | ⟨h1, t, h2, h3⟩)
  ·refine ⟨0, hev.2.2.1, List.mem_map.2 ⟨(u : Int), (mem_dAL hlo hs).2 (.inl ⟨rfl, u, rfl, h3⟩), ?_⟩⟩
   rcases a with ⟨p, q⟩; simp only at h1 h2 ⊢; rw [h1, h2]
  ·have htl := h2.lt hs (adj_lt true hlo)
   have h4 := h3
   rw [List.getD_eq_getElem?_getD, List.getElem?_eq_getElem htl, Option.getD_some] at h4
   exact ⟨a.1, hev.2.2.2 _ (List.getElem_mem htl) a h4, List.mem_map.2 ⟨a.2, (mem_dAL hlo hs).2 (.inr ⟨h1, t, h2, a, h3, rfl, rfl⟩), rfl⟩⟩
theorem satR_bd {R : List (List Ar)} (hv : valB R = true) (hn : R.length ≤ 100) : (satR R).length = R.length ∧ ∀ r ∈ satR R, r.length ≤ 1000000 ∧ ∀ a ∈ r, 0 ≤ a.2 ∧ a.2 < (R.length : Int) := by
 have hlo : looB R = true := decide_eq_true (of_decide_eq_true hv).1
 have hl : (satR R).length = R.length := saL_len _ _ _
 have hev := evG_ok (R := R) (fun r hr a ha => by have := (of_decide_eq_true hlo).2.2.2 r hr a ha; omega) R.length (Nat.le_refl _)
 have hevl : (evG R R.length).length ≤ 1026 := asc_bd hev.1 (by simpa using hev.2.1)
 refine ⟨hl, fun r hr => ?_⟩
 obtain ⟨s, hs, rfl⟩ := List.mem_map.1 hr
 rw [List.mem_range] at hs
 have h1 := saP_len hlo (Ev := evG R R.length) hs _ (Nat.le_refl _)
 have h2 : (evG R R.length).length * R.length ≤ 1026 * 100 := Nat.mul_le_mul hevl hn
 refine ⟨by unfold saR; omega, fun a ha => ?_⟩
 unfold saR saP at ha
 obtain ⟨e, _, h⟩ := List.mem_flatMap.1 ha
 obtain ⟨x, hx, rfl⟩ := List.mem_map.1 h
 exact (dAL_bd hlo hs).2 x hx
def dv0 (B : List Bool) (s : Nat) : Int := if B.getD s false = B.getD 0 false then 0 else 1
def dvC (B : List Bool) (n : Nat) : List Int := (List.range n).map (dv0 B)
theorem dvC_len (B : List Bool) (n : Nat) : (dvC B n).length = n := by simp [dvC]
theorem dvC_get {B : List Bool} {n s : Nat} (h : s < n) : (dvC B n).getD s 0 = dv0 B s := by simp [dvC, List.getD_eq_getElem?_getD, h]
theorem dv_nm {B : List Bool} : ∀ n, 1 ≤ n → (nmG (fun s => B.getD s false) n).1 = dvC B n ∧ ((nmG (fun s => B.getD s false) n).2 = 1 ∧ (∀ s, s < n → B.getD s false = B.getD 0 false) ∨ (nmG (fun s => B.getD s false) n).2 = 2 ∧ ∃ s, s < n ∧ B.getD s false ≠ B.getD 0 false) := by
 intro n
 induction n with
 | zero => intro h; omega
 | succ n ih =>
  intro _
  by_cases h0 : n = 0
  ·subst h0
   refine ⟨?_, .inl ⟨rfl, fun s hs => by rw [show s = 0 by omega]⟩⟩
   show ([] ++ [((0 : Nat) : Int)]) = _
   simp [dvC, dv0]
  ·obtain ⟨h1, h2⟩ := ih (by omega)
   have hd : dvC B (n + 1) = dvC B n ++ [dv0 B n] := by simp [dvC, List.range_succ]
   rcases nm_cases (fun s => B.getD s false) n with ⟨t, a1, a2, a3, a4⟩ | ⟨a3, a4⟩
   ·rw [a4, hd, h1, dvC_get a1]
    have e1 : dv0 B t = dv0 B n := by unfold dv0; rw [a2]
    refine ⟨by rw [e1], ?_⟩
    rcases h2 with ⟨b1, b2⟩ | ⟨b1, s, b2, b3⟩
    ·refine .inl ⟨b1, fun s hs => ?_⟩
     by_cases e : s = n
     ·subst e; rw [← a2]; exact b2 t a1
     ·exact b2 s (by omega)
    ·exact .inr ⟨b1, s, by omega, b3⟩
   ·have hne := a3 0 (by omega)
    have hone : (nmG (fun s => B.getD s false) n).2 = 1 := by
     rcases h2 with ⟨b1, _⟩ | ⟨_, s, b2, b3⟩
     ·exact b1
     ·exfalso
      have c1 := a3 s b2
      revert hne c1 b3
      generalize B.getD s false = x
      generalize B.getD 0 false = y
      generalize B.getD n false = z
      cases x <;> cases y <;> cases z <;> simp
    rw [a4, hd, h1, hone]
    refine ⟨by unfold dv0; rw [if_neg (Ne.symm hne)]; rfl, .inr ⟨rfl, n, by omega, Ne.symm hne⟩⟩
theorem dvC_nrm (B : List Bool) {n : Nat} (h : 1 ≤ n) : Nrm n (dvC B n) := by
 rw [← (dv_nm n h).1]
 exact nrm_nm _ _
def DlC (R : List (List Ar)) (c : List Int) : Prop := ∃ B, DvL R B ∧ FxS (satR R) (dvC B R.length) c
end Go.Proofs.YtahnebicgbjonaaGreat
