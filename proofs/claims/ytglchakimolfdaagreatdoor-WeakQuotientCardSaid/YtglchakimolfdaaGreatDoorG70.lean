/- ref23.OnCycle, ref23.Divergent. ref23.Canonical. ref23: SameRow, Same at equal systems. ref28.TauLoops. diamond.TauLoops at a system that is not valid. -/
import Derived.Test.YtglchakimolfdaaGreatDoorZk
import Derived.Test.YtglchakimolfdaaGreatDoorG67
import Derived.Test.YtglchakimolfdaaGreatDoorG45
import Derived.Test.YtglchakimolfdaaGreatDoorMG
import Derived.Test.YtglchakimolfdaaGreatDoorFw1
namespace Go.Proofs.YtglchakimolfdaaGreatDoor
set_option linter.unusedVariables false
set_option linter.unusedSimpArgs false
open Go.RowKit
set_option maxRecDepth 100000
attribute [local go_sem] List.set_cons_zero List.set_cons_succ List.map_cons List.map_nil List.take_succ_cons List.take_zero List.drop_zero List.drop_succ_cons C.pl C.one List.all_cons List.all_nil Bool.and_true Nat.mul_one Int.toNat_natCast

def rL (n : Nat) (B : List Bool) : List Int := ((List.range n).filter (seenB B)).map Int.ofNat
theorem mem_rL {n : Nat} {B : List Bool} {u : Nat} : (u : Int) ∈ rL n B ↔ u < n ∧ seenB B u = true := by
 unfold rL
 rw [List.mem_map]
 constructor
 ·rintro ⟨v, hv, e⟩
  have : v = u := by have e2 : (v : Int) = (u : Int) := e; omega
  subst this
  simpa using hv
 ·rintro ⟨h1, h2⟩
  exact ⟨u, by simp [h1, h2], rfl⟩
theorem rL_len (n : Nat) (B : List Bool) : (rL n B).length ≤ n := by
 unfold rL
 rw [List.length_map]
 have := List.length_filter_le (seenB B) (List.range n)
 rwa [List.length_range] at this
def ReB (R : List (List Ar)) (F : List Nat) (B : List Bool) : Prop := B.length = R.length ∧ ∀ u, seenB B u = true ↔ ∃ v ∈ F, Rc (Adj true R) v u
theorem reT_fc (R : List (List Ar)) (F : List Nat) (hv : valB R = true) (hF : ∀ v ∈ F, v < R.length) (hFl : F.length ≤ 1000000) (hn : R.length ≤ 1000000) (hr : ∀ r ∈ R, r.length ≤ 1000000) : FC Tryz.prog 86 [aLts R, .a (.c (.t 1 (tInts (F.map Int.ofNat)))), .b true] [] (fun r o => ∃ B, ReB R F B ∧ o = [] ∧ r = .a (.c (.t 1 (tInts (rL R.length B))))) := by
 have h := (reachF_fc R F true hv hF hFl hn hr).mono (R' := fun r o => ∃ B, ReB R F B ∧ r = .a (.c (.s 0 (rL R.length B).length)) ∧ o = [.r ⟨3, 1, true, cInts (rL R.length B)⟩]) fun r o ⟨B, h1, h2, L, hL, h3, h4⟩ => ⟨B, ⟨h1, fun u => by rw [h2 u, adj_eq true hv]⟩, by rw [h4, hL]; rfl, by rw [h3, hL]; rfl⟩
 exact h.frzP (fun B => fz_c _) (by omega) (fun B _ => by rw [tInts_len, Nat.mul_one])
def Cy (R : List (List Ar)) (s : Nat) : Prop := ∃ w, w ∈ Adj true R s ∧ Rc (Adj true R) w s
set_option maxHeartbeats 2000000 in
theorem onc_fc (R : List (List Ar)) (s : Nat) (hv : valB R = true) (hs : s < R.length) (hn : R.length ≤ 1000000) (hr : ∀ r ∈ R, r.length ≤ 1000000) : FC Tryz.prog 85 [aLts R, .i s] [] (fun r o => ∃ b : Bool, (b = true ↔ Cy R s) ∧ o = [] ∧ r = .b b) := by
 refine fc_intro Tryz.func85 rfl (by rw [Tryz.ntmps85]; simp) ?_
 rw [Tryz.ntmps85]
 simp only [enum, aLts]
 have hlo : looB R = true := decide_eq_true (of_decide_eq_true hv).1
 have hg := List.getElem?_eq_getElem hs
 have hrl := hr _ (List.getElem_mem hs)
 have hbs := (of_decide_eq_true hlo).2.2.2 _ (List.getElem_mem hs)
 have hcy : Cy R s ↔ ∃ a ∈ R[s], a.1 = 0 ∧ Rc (Adj true R) a.2.toNat s := by
  unfold Cy
  rw [← adj_eq true hv]
  unfold AdjF tauF
  rw [List.getD_eq_getElem?_getD, hg, Option.getD_some]
  simp only [List.mem_map, List.mem_filter, Bool.not_true, Bool.false_or, beq_iff_eq]
  constructor
  ·rintro ⟨w, ⟨a, ⟨h1, h2⟩, rfl⟩, h3⟩
   exact ⟨a, h1, h2, h3⟩
  ·rintro ⟨a, h1, h2, h3⟩
   exact ⟨_, ⟨a, ⟨h1, h2⟩, rfl⟩, h3⟩
 generalize R[s] = row at *
 (refine wk0 ?_;(repeat clear hK K);repeat refine kq fun K hK=>?_)
 refine aw_loop (fun i : Nat => { tm := [(1, .i s), (2, .a (.c (.p 0 0))), (5, .i i)], hp := [.r ⟨25, 1, false, [.t 1 (tRows R)]⟩], n := 37, pin := 0 }) (fun i => i ≤ row.length ∧ ∀ a ∈ row.take i, ¬ (a.1 = 0 ∧ Rc (Adj true R) a.2.toNat s)) (fun i => row.length - i) 0 ?_ ?_ ?_
 ·exact ⟨by omega, by simp⟩
 ·exact lmz
 ·rintro i ⟨hi, hno⟩ K hK
  by_cases hlt : i < row.length
  ·have d1 : decide ((i : Int) < (row.length : Int)) = true := by simpa using hlt
   have hat := tArcs_at hlt
   have hmem := List.getElem_mem hlt
   have hb := hbs _ hmem
   have hno2 : ¬ (row[i].1 = 0 ∧ Rc (Adj true R) row[i].2.toNat s) → ∀ a ∈ row.take (i + 1), ¬ (a.1 = 0 ∧ Rc (Adj true R) a.2.toNat s) := fun h a ha => by
    rw [List.take_succ_eq_append_getElem hlt] at ha
    rcases List.mem_append.1 ha with h1 | h1
    ·exact hno a h1
    ·simp at h1; subst h1; exact h
   generalize row[i] = a at *
   obtain ⟨e, t⟩ := a
   simp only at hat hb hno2
   obtain ⟨_, _, ht0, ht1⟩ := hb
   obtain ⟨tn, rfl⟩ : ∃ tn : Nat, t = (tn : Int) := ⟨t.toNat, by omega⟩
   have htn : tn < R.length := by omega
   rw [Int.toNat_natCast] at hno2
   by_cases he : e = 0
   ·have d2 : (e == 0) = true := by simpa using he
    (refine wk1 (an @d1 (an @tRows_len (an (tRows_get hg) (an @tArcs_len @half2)))) ?_;(repeat clear hK K);repeat refine kq fun K hK=>?_)
    refine cxz ?_
    (refine wks1 (an @tRows_len (an (tRows_get hg) (an @hat (an @tArcs_len (an @half2 @d2))))) ?_;(repeat clear hK K);repeat refine kq fun K hK=>?_)
    (refine lst_le (le_frz (r := ⟨3, 1, true, cInts [(tn : Int)]⟩) 2 (tInts [(tn : Int)]) rfl (fz_c _) (show 0 < (1 : Nat) by omega)) ?_; simp only [ST.frz, A0.frz, AV.frz, C.frz, Nat.le_refl, List.set_cons_zero, List.set_cons_succ, go_sem, tInts_one])
    (refine lst_goU rfl rfl (by simp only [go_sem] <;> rfl) ?_; intro K1 hK1; refine (stp_call0 (ids := []) (reT_fc R [tn] hv (by simpa using htn) (by simp) hn hr) rfl rfl (by simp only [go_sem]) (by kernel_rfl) (by (simp only [List.append_nil, go_sem]) <;> rfl) ?_).stp)
    rintro _ _ ⟨B, hB, rfl, rfl⟩
    (refine bkz ?_; clear hK1 K1)
    (refine wk0 ?_;(repeat clear hK K);repeat refine kq fun K hK=>?_)
    (refine lst_goU rfl rfl (by simp only [go_sem] <;> rfl) ?_; intro K1 hK1; refine (stp_call0 (ids := []) (hasT_fc (rL R.length B) s (by have := rL_len R.length B; omega)) rfl rfl (by simp only [go_sem]) (by kernel_rfl) (by (simp only [List.append_nil, go_sem]) <;> rfl) ?_).stp)
    rintro _ _ ⟨rfl, rfl⟩
    (refine bkz ?_; clear hK1 K1)
    have hin : (s : Int) ∈ rL R.length B ↔ Rc (Adj true R) tn s := by rw [mem_rL, hB.2]; simp [hs]
    by_cases hh : Rc (Adj true R) tn s
    ·have d3 : decide ((s : Int) ∈ rL R.length B) = true := by simpa using hin.2 hh
     (refine wk1 @d3 ?_;(repeat clear hK K);repeat refine kq fun K hK=>?_)
     refine cxz ?_
     (refine wk0 ?_;(repeat clear hK K);repeat refine kq fun K hK=>?_)
     refine rp0 [] Tryz.results85 ?_
     exact ⟨true, by simp only [true_iff]; exact hcy.2 ⟨_, hmem, he, by rw [Int.toNat_natCast]; exact hh⟩, rfl⟩
    ·have d3 : decide ((s : Int) ∈ rL R.length B) = false := by simpa using fun h => hh (hin.1 h)
     (refine wk1 @d3 ?_;(repeat clear hK K);repeat refine kq fun K hK=>?_)
     refine cyz ?_
     (refine wk0 ?_;(repeat clear hK K);repeat refine kq fun K hK=>?_)
     refine rnz ?_
     refine hK _ (i + 1) ⟨by omega, hno2 fun h => hh h.2⟩ (by omega) ?_
     refine Le.trans (le_pick [0] rfl rfl) ?_
     (try simp only [List.set_nil, List.take_nil, List.take_zero, List.map_append, go_sem])
     exact lmz
   ·have d2 : (e == 0) = false := by simpa using he
    (refine wk1 (an @d1 (an @tRows_len (an (tRows_get hg) (an @tArcs_len @half2)))) ?_;(repeat clear hK K);repeat refine kq fun K hK=>?_)
    refine cxz ?_
    (refine wks1 (an @tRows_len (an (tRows_get hg) (an @hat (an @tArcs_len (an @half2 @d2))))) ?_;(repeat clear hK K);repeat refine kq fun K hK=>?_)
    refine cyz ?_
    (refine wk0 ?_;(repeat clear hK K);repeat refine kq fun K hK=>?_)
    refine rnz ?_
    refine hK _ (i + 1) ⟨by omega, hno2 fun h => he h.1⟩ (by omega) ?_
    refine Le.trans (le_pick [0] rfl rfl) ?_
    (try simp only [List.set_nil, List.take_nil, List.take_zero, List.map_append, go_sem])
    exact lmz
  ·have d1 : decide ((i : Int) < (row.length : Int)) = false := by simpa using hlt
   (refine wk1 (an @d1 (an @tRows_len (an (tRows_get hg) (an @tArcs_len @half2)))) ?_;(repeat clear hK K);repeat refine kq fun K hK=>?_)
   refine cyz ?_
   (refine ekz ?_;repeat clear hK K)
   (refine wk0 ?_;(repeat clear hK K);repeat refine kq fun K hK=>?_)
   refine rp0 [] Tryz.results85 ?_
   refine ⟨false, by simp only [Bool.false_eq_true, false_iff]; intro h; obtain ⟨a, h1, h2⟩ := hcy.1 h; exact hno a (by rw [List.take_of_length_le (by omega)]; exact h1) h2, rfl⟩
def CyL (R : List (List Ar)) (k : Nat) (Ls : List Nat) : Prop := Ls.length ≤ k ∧ ∀ g, g ∈ Ls ↔ g < k ∧ Cy R g
theorem CyL.yes {R : List (List Ar)} {k : Nat} {Ls : List Nat} (h : CyL R k Ls) (hc : Cy R k) : CyL R (k + 1) (Ls ++ [k]) := by
 refine ⟨by simp only [List.length_append, List.length_singleton]; have := h.1; omega, fun g => ?_⟩
 rw [List.mem_append, h.2, List.mem_singleton]
 constructor
 ·rintro (⟨h1, h2⟩ | rfl)
  ·exact ⟨by omega, h2⟩
  ·exact ⟨by omega, hc⟩
 ·rintro ⟨h1, h2⟩
  by_cases e : g = k
  ·exact .inr e
  ·exact .inl ⟨by omega, h2⟩
theorem CyL.no {R : List (List Ar)} {k : Nat} {Ls : List Nat} (h : CyL R k Ls) (hc : ¬ Cy R k) : CyL R (k + 1) Ls := by
 refine ⟨by have := h.1; omega, fun g => ?_⟩
 rw [h.2]
 constructor
 ·rintro ⟨h1, h2⟩; exact ⟨by omega, h2⟩
 ·rintro ⟨h1, h2⟩
  by_cases e : g = k
  ·subst e; exact absurd h2 hc
  ·exact ⟨by omega, h2⟩
theorem Dv_iff {R : List (List Ar)} (hlo : looB R = true) {Ls : List Nat} (h : CyL R R.length Ls) {s : Nat} (hs : s < R.length) : Dv R s ↔ ∃ g ∈ Ls, Rc (Adj true R) s g := by
 constructor
 ·rintro ⟨g, h1, h2⟩
  exact ⟨g, (h.2 g).2 ⟨h1.lt hs (adj_lt true hlo), h2⟩, h1⟩
 ·rintro ⟨g, h1, h2⟩
  exact ⟨g, h2, ((h.2 g).1 h1).2⟩
set_option maxHeartbeats 4000000 in
theorem rdvg_fc (R : List (List Ar)) (hv : valB R = true) (hn : R.length ≤ 1000000) (hr : ∀ r ∈ R, r.length ≤ 1000000) : FC Tryz.prog 57 [aLts R] [] (fun r o => ∃ B, DvL R B ∧ r = .a (.c (.s 0 R.length)) ∧ o = [.r ⟨4, 1, true, cBs B⟩]) := by
 refine fc_intro Tryz.func57 rfl (by rw [Tryz.ntmps57]; simp) ?_
 rw [Tryz.ntmps57]
 simp only [enum, aLts]
 have hlo : looB R = true := decide_eq_true (of_decide_eq_true hv).1
 (refine wk0 ?_;(repeat clear hK K);repeat refine kq fun K hK=>?_)
 (refine ckz (validR_fc R (by omega) (fun r h => by have := hr r h; omega)) ?_; intro K1 hK1)
 rintro _ _ ⟨rfl, rfl⟩
 (refine bkz ?_; clear hK1 K1)
 (refine wk1 (an @hv @Bool.not_true) ?_;(repeat clear hK K);repeat refine kq fun K hK=>?_)
 refine cyz ?_
 (refine wk0 ?_;(repeat clear hK K);repeat refine kq fun K hK=>?_)
 refine aw_le (le_nil 3 3 1 ?_) ?_
 ·simp only [go_sem]
 simp only [List.cons_append, List.nil_append, List.length_cons, List.length_nil]
 refine aw_loop (fun x : Nat × List Nat => { tm := [(1, .a (.c (.p 0 0))), (3, .a (.c (.s 1 x.2.length))), (4, .i x.1)], hp := [.r ⟨25, 1, false, [.t 1 (tRows R)]⟩, .r ⟨3, 1, true, cInts (x.2.map Int.ofNat)⟩], n := 68, pin := 0 }) (fun x => x.1 ≤ R.length ∧ CyL R x.1 x.2) (fun x => R.length - x.1) (0, []) ?_ ?_ ?_
 ·exact ⟨by simp, by simp, fun g => by simp⟩
 ·simp only [List.map_nil, List.length_nil, cInts]
  exact lmz
 ·rintro ⟨s, Ls⟩ ⟨hs, hLs⟩ K hK
  simp only at hs hLs
  have hll := hLs.1
  by_cases hlt : s < R.length
  ·have d1 : decide ((s : Int) < (R.length : Int)) = true := by simpa using hlt
   (refine wk1 (an @tRows_len @d1) ?_;(repeat clear hK K);repeat refine kq fun K hK=>?_)
   refine cxz ?_
   (refine wk0 ?_;(repeat clear hK K);repeat refine kq fun K hK=>?_)
   (refine ckz (onc_fc R s hv hlt hn hr) ?_; intro K1 hK1)
   rintro _ _ ⟨b, hb, rfl, rfl⟩
   (refine bkz ?_; clear hK1 K1)
   (refine wk0 ?_;(repeat clear hK K);repeat refine kq fun K hK=>?_)
   cases b with
   | true =>
    refine cxz ?_
    (refine wk1 (an @List.length_map.{0, 0} (an @List.set_cons_zero.{0} (an @List.set_cons_succ.{0} (an @List.take_succ_cons.{0} (an @List.take_zero.{0} (an @List.drop_zero.{0} (an @List.length_take.{0} (an @List.length_drop.{0} (an @List.length_append.{0} (an @tInts_len (an @tInts_take (an @tInts_drop (an @tInts_c (an @cInts_len (an @cInts_one (an @cInts_snoc (an @cInts_app (an @cInts_take @cInts_drop)))))))))))))))))) ?_;(repeat clear hK K);repeat refine kq fun K hK=>?_)
    refine rnz ?_
    refine hK _ (s + 1, Ls ++ [s]) ⟨by simp only; omega, hLs.yes (hb.1 rfl)⟩ (by simp only; omega) ?_
    refine Le.trans (le_pick [0, 3] rfl rfl) ?_
    (try simp only [List.set_nil, List.take_nil, List.take_zero, List.map_append, go_sem])
    (try simp only [cInts_ren])
    have htk : (Ls.map Int.ofNat).take Ls.length = Ls.map Int.ofNat := List.take_of_length_le (by simp)
    simp only [htk, List.map_append, List.map_cons, List.map_nil, List.length_append, List.length_singleton]
    exact lmz
   | false =>
    refine cyz ?_
    (refine wk0 ?_;(repeat clear hK K);repeat refine kq fun K hK=>?_)
    refine rnz ?_
    refine hK _ (s + 1, Ls) ⟨by simp only; omega, hLs.no fun h => by have := hb.2 h; cases this⟩ (by simp only; omega) ?_
    exact lmz
  ·have d1 : decide ((s : Int) < (R.length : Int)) = false := by simpa using hlt
   have hse : s = R.length := by omega
   rw [hse] at hLs
   (refine wk1 (an @tRows_len @d1) ?_;(repeat clear hK K);repeat refine kq fun K hK=>?_)
   refine cyz ?_
   (refine ekz ?_;repeat clear hK K)
   have htk : (tInts (Ls.map Int.ofNat)).take Ls.length = tInts (Ls.map Int.ofNat) := List.take_of_length_le (by rw [tInts_len]; simp)
   (refine aw_le (le_frz (r := ⟨3, 1, true, cInts (Ls.map Int.ofNat)⟩) 1 (tInts (Ls.map Int.ofNat)) rfl (fz_c _) (show 0 < (1 : Nat) by omega)) ?_; simp only [ST.frz, A0.frz, AV.frz, C.frz, Nat.le_refl, List.set_cons_zero, List.set_cons_succ, go_sem, htk, tInts_len, List.length_map])
   (refine wk1 @tRows_len ?_;(repeat clear hK K);repeat refine kq fun K hK=>?_)
   refine aw_le (le_pick [0, 2] rfl rfl) ?_
   (try simp only [List.set_nil, List.take_nil, List.take_zero, List.map_append, go_sem])
   have e0 : List.replicate R.length (C.v (.bool false)) = cBs (List.replicate R.length false) := by simp [cBs]
   rw [e0]
   (try simp only [cBs_ren])
   refine aw_loop (fun x : Nat × List Bool => { tm := [(1, .a (.c (.p 0 0))), (3, .a (.c (.t 1 (tInts (Ls.map Int.ofNat))))), (5, .a (.c (.s 1 R.length))), (6, .i x.1)], hp := [.r ⟨25, 1, false, [.t 1 (tRows R)]⟩, .r ⟨4, 1, true, cBs x.2⟩], n := 68, pin := 0 }) (fun x => x.1 ≤ R.length ∧ x.2.length = R.length ∧ (∀ u, u < x.1 → (x.2.getD u false = true ↔ ∃ g ∈ Ls, Rc (Adj true R) u g)) ∧ ∀ u, x.1 ≤ u → x.2.getD u false = false) (fun x => R.length - x.1) (0, List.replicate R.length false) ?_ ?_ ?_
   ·refine ⟨by simp, by simp, fun u h => by simp at h, fun u _ => ?_⟩
    rw [List.getD_eq_getElem?_getD, List.getElem?_replicate]; split <;> rfl
   ·exact lmz
   ·clear hs hlt d1 hse hll
    rintro ⟨s, B⟩ ⟨hs, hBl, hB1, hB2⟩ K hK
    simp only at hs hBl hB1 hB2
    have hll := hLs.1
    by_cases hgo : s < R.length ∧ 0 < Ls.length
    ·obtain ⟨hlt, hL0⟩ := hgo
     have d1 : decide ((s : Int) < (R.length : Int)) = true := by simpa using hlt
     have d2 : decide ((Ls.length : Int) > 0) = true := decide_eq_true (by omega)
     (refine wk1 (an @tRows_len (an @d1 (an @tInts_len (an @List.length_map.{0, 0} @d2)))) ?_;(repeat clear hK K);repeat refine kq fun K hK=>?_)
     refine cxz ?_
     (refine wk0 ?_;(repeat clear hK K);repeat refine kq fun K hK=>?_)
     (refine lst_le (le_frz (r := ⟨3, 1, true, cInts [(s : Int)]⟩) 2 (tInts [(s : Int)]) rfl (fz_c _) (show 0 < (1 : Nat) by omega)) ?_; simp only [ST.frz, A0.frz, AV.frz, C.frz, Nat.le_refl, List.set_cons_zero, List.set_cons_succ, go_sem, tInts_one])
     (refine ckz (reT_fc R [s] hv (by simpa using hlt) (by simp) hn hr) ?_; intro K1 hK1)
     rintro _ _ ⟨B0, hB0, rfl, rfl⟩
     (refine bkz ?_; clear hK1 K1)
     have hBk : ∀ u : Nat, (u : Int) ∈ rL R.length B0 ↔ u < R.length ∧ Rc (Adj true R) s u := fun u => by rw [mem_rL, hB0.2]; simp
     have hrl := rL_len R.length B0
     generalize rL R.length B0 = L0 at *
     (refine wk0 ?_;(repeat clear hK K);repeat refine kq fun K hK=>?_)
     refine aw_le (le_pick [0, 1] rfl rfl) ?_
     (try simp only [List.set_nil, List.take_nil, List.take_zero, List.map_append, go_sem])
     (try simp only [cBs_ren])
     refine aw_loop (fun x : Nat × Bool => { tm := [(1, .a (.c (.p 0 0))), (3, .a (.c (.t 1 (tInts (Ls.map Int.ofNat))))), (5, .a (.c (.s 1 R.length))), (6, .i s), (7, .a (.c (.t 1 (tInts L0)))), (8, .i x.1)], hp := [.r ⟨25, 1, false, [.t 1 (tRows R)]⟩, .r ⟨4, 1, true, cBs (B.set s x.2)⟩], n := 68, pin := 0 }) (fun x => x.1 ≤ Ls.length ∧ (x.2 = true ↔ ∃ g ∈ Ls.take x.1, Rc (Adj true R) s g)) (fun x => Ls.length - x.1) (0, false) ?_ ?_ ?_
     ·exact ⟨by simp, by simp⟩
     ·have e1 : B.set s false = B := by
       have h := hB2 s (Nat.le_refl _)
       rw [List.getD_eq_getElem?_getD, List.getElem?_eq_getElem (by omega), Option.getD_some] at h
       have e : B.set s B[s] = B := List.set_getElem_self _
       rwa [h] at e
      simp only [e1]
      exact lmz
     ·rintro ⟨i, b⟩ ⟨hi, hb⟩ K hK
      simp only at hi hb
      by_cases hli : i < Ls.length
      ·have d3 : decide ((i : Int) < (Ls.length : Int)) = true := by simpa using hli
       have gl : (tInts (Ls.map Int.ofNat))[i]? = some (.v (.int .i64 ((Ls[i] : Nat) : Int))) := tInts_get (by rw [List.getElem?_map, List.getElem?_eq_getElem hli]; rfl)
       have gb : (cBs (B.set s b))[s]? = some (.v (.bool b)) := cBs_get (List.getElem?_set_self (by omega))
       have hgm := ((hLs.2 Ls[i]).1 (List.getElem_mem hli)).1
       have hstep : (b || decide ((Ls[i] : Int) ∈ L0)) = true ↔ ∃ g ∈ Ls.take (i + 1), Rc (Adj true R) s g := by
        rw [List.take_succ_eq_append_getElem hli, Bool.or_eq_true, hb, decide_eq_true_iff, hBk]
        simp only [List.mem_append, List.mem_singleton]
        constructor
        ·rintro (⟨g, h1, h2⟩ | ⟨h1, h2⟩)
         ·exact ⟨g, .inl h1, h2⟩
         ·exact ⟨_, .inr rfl, h2⟩
        ·rintro ⟨g, h1 | h1, h2⟩
         ·exact .inl ⟨g, h1, h2⟩
         ·subst h1; exact .inr ⟨hgm, h2⟩
       generalize Ls[i] = g at *
       cases b with
       | true =>
        (refine wk1 (an @tInts_len (an @List.length_map.{0, 0} @d3)) ?_;(repeat clear hK K);repeat refine kq fun K hK=>?_)
        refine cxz ?_
        (refine wks1 (an @cBs_len (an @List.length_set.{0} (an @hBl (an @gb (an @cBs_set @List.set_set.{0}))))) ?_;(repeat clear hK K);repeat refine kq fun K hK=>?_)
        refine rnz ?_
        refine hK _ (i + 1, true) ⟨by simp only; omega, by simp only; rw [← hstep]; simp⟩ (by simp only; omega) ?_
        exact lmz
       | false =>
        rw [Bool.false_or] at hstep
        (refine wk1 (an @tInts_len (an @List.length_map.{0, 0} @d3)) ?_;(repeat clear hK K);repeat refine kq fun K hK=>?_)
        refine cxz ?_
        (refine wk1 (an @cBs_len (an @List.length_set.{0} (an @hBl (an @gb (an @gl (an @tInts_len @List.length_map.{0, 0})))))) ?_;(repeat clear hK K);repeat refine kq fun K hK=>?_)
        (refine lst_goU rfl rfl (by simp only [go_sem] <;> rfl) ?_; intro K1 hK1; refine (stp_call0 (ids := []) (hasT_fc L0 g (by omega)) rfl rfl (by simp only [go_sem]) (by kernel_rfl) (by (simp only [List.append_nil, go_sem]) <;> rfl) ?_).stp)
        rintro _ _ ⟨rfl, rfl⟩
        (refine bkz ?_; clear hK1 K1)
        (refine wks1 (an @cBs_len (an @List.length_set.{0} (an @hBl (an @gb (an @cBs_set @List.set_set.{0}))))) ?_;(repeat clear hK K);repeat refine kq fun K hK=>?_)
        refine rnz ?_
        refine hK _ (i + 1, decide ((g : Int) ∈ L0)) ⟨by simp only; omega, hstep⟩ (by simp only; omega) ?_
        exact lmz
      ·have d3 : decide ((i : Int) < (Ls.length : Int)) = false := by simpa using hli
       rw [List.take_of_length_le (by omega)] at hb
       (refine wk1 (an @tInts_len (an @List.length_map.{0, 0} @d3)) ?_;(repeat clear hK K);repeat refine kq fun K hK=>?_)
       refine cyz ?_
       (refine ekz ?_;repeat clear hK K)
       (refine wk0 ?_;(repeat clear hK K);repeat refine kq fun K hK=>?_)
       refine rnz ?_
       refine hK _ (s + 1, B.set s b) ⟨by simp only; omega, by simp [hBl], fun u hu => ?_, fun u hu => ?_⟩ (by simp only; omega) ?_
       ·simp only at hu ⊢
        rw [List.getD_eq_getElem?_getD]
        by_cases e : s = u
        ·subst e
         rw [List.getElem?_set_self (by omega), Option.getD_some]
         exact hb
        ·rw [List.getElem?_set_ne e, ← List.getD_eq_getElem?_getD]
         exact hB1 u (by omega)
       ·simp only at hu ⊢
        rw [List.getD_eq_getElem?_getD, List.getElem?_set_ne (by omega), ← List.getD_eq_getElem?_getD]
        exact hB2 u (by omega)
       ·exact lmz
    ·have hfin : DvL R B := by
      refine ⟨hBl, fun u hu => ?_⟩
      rw [Dv_iff hlo hLs hu]
      rcases Nat.lt_or_ge u s with h | h
      ·exact hB1 u h
      ·rw [hB2 u h]
       have h0 : Ls = [] := List.length_eq_zero_iff.1 (by omega)
       simp [h0]
     by_cases hlt : s < R.length
     ·have d1 : decide ((s : Int) < (R.length : Int)) = true := by simpa using hlt
      have d2 : decide ((Ls.length : Int) > 0) = false := decide_eq_false (by omega)
      (refine wk1 (an @tRows_len (an @d1 (an @tInts_len (an @List.length_map.{0, 0} @d2)))) ?_;(repeat clear hK K);repeat refine kq fun K hK=>?_)
      refine cyz ?_
      (refine ekz ?_;repeat clear hK K)
      (refine wk0 ?_;(repeat clear hK K);repeat refine kq fun K hK=>?_)
      refine rp1 [1] Tryz.results57 @cBs_ren ?_
      exact ⟨B, hfin, rfl⟩
     ·have d1 : decide ((s : Int) < (R.length : Int)) = false := by simpa using hlt
      (refine wk1 (an @tRows_len @d1) ?_;(repeat clear hK K);repeat refine kq fun K hK=>?_)
      refine cyz ?_
      (refine ekz ?_;repeat clear hK K)
      (refine wk0 ?_;(repeat clear hK K);repeat refine kq fun K hK=>?_)
      refine rp1 [1] Tryz.results57 @cBs_ren ?_
      exact ⟨B, hfin, rfl⟩
theorem rdvgT_fc (R : List (List Ar)) (hv : valB R = true) (hn : R.length ≤ 1000000) (hr : ∀ r ∈ R, r.length ≤ 1000000) : FC Tryz.prog 57 [aLts R] [] (fun r o => ∃ B, DvL R B ∧ o = [] ∧ r = .a (.c (.t 1 (tBs B)))) :=
 (rdvg_fc R hv hn hr).frzP (fun B => fz_bs B) (by omega) (fun B h => by rw [tBs_len]; have := h.1; omega)
theorem rep_set {α : Type} (a b : α) (k m : Nat) : (List.replicate k a ++ List.replicate (m + 1) b).set k a = List.replicate (k + 1) a ++ List.replicate m b := by
 rw [List.set_append_right _ _ (by simp), List.length_replicate, Nat.sub_self, List.replicate_succ, List.set_cons_zero, List.replicate_succ' (n := k), List.append_assoc]; rfl
theorem foldI_snoc {r : List Ar} {k : Nat} (h : k < r.length) : (r.take (k + 1)).foldl (fun acc a => insA a acc) [] = insA r[k] ((r.take k).foldl (fun acc a => insA a acc) []) := by
 rw [List.take_succ_eq_append_getElem h, List.foldl_append]; rfl
theorem foldI_len (r : List Ar) (k : Nat) : ((r.take k).foldl (fun acc a => insA a acc) []).length ≤ k := by
 have := len_foldl_ins (r.take k) []
 simp only [List.length_nil, Nat.zero_add, List.length_take] at this
 omega
set_option maxHeartbeats 8000000 in
theorem canonX_fc (R : List (List Ar)) (h1 : 1 ≤ R.length) (hbd : ∀ r ∈ R, ∀ a ∈ r, 0 ≤ a.2 ∧ a.2 < (R.length : Int)) (hn : R.length ≤ 1000000) (hr : ∀ r ∈ R, r.length ≤ 1000000) : FC Tryz.prog 66 [aLts R] [] (fun r o => o = [.r ⟨25, 1, false, [.t 1 (tRows (canonR R).1)]⟩] ∧ r = .tup [.g [.t 1 (tRows (canonR R).1)], .c (.t 1 (tInts (canonR R).2))]) := by
 refine fc_intro Tryz.func66 rfl (by rw [Tryz.ntmps66]; simp) ?_
 rw [Tryz.ntmps66]
 simp only [enum, aLts]
 (refine wk1 @tRows_len ?_;(repeat clear hK K);repeat refine kq fun K hK=>?_)
 have e0 : List.replicate R.length (C.v (.int .i64 0)) = cInts (List.replicate R.length 0) := by simp [cInts]
 rw [e0]
 refine aw_loop (fun k : Nat => { tm := [(1, .a (.c (.p 0 0))), (2, .a (.c (.p 1 0))), (4, .a (.c (.s 2 R.length))), (5, .i k)], hp := [.r ⟨25, 1, false, [.t 1 (tRows R)]⟩, .r ⟨25, 1, false, [.v (.slice none 0 0)]⟩, .r ⟨3, 1, true, cInts (List.replicate k (-1) ++ List.replicate (R.length - k) 0)⟩], n := 117, pin := 0 }) (fun k => k ≤ R.length) (fun k => R.length - k) 0 ?_ ?_ ?_
 ·omega
 ·simp only [List.replicate_zero, List.nil_append, Nat.sub_zero]
  exact lmz
 ·rintro k hk K hK
  by_cases hlt : k < R.length
  ·have d1 : decide ((k : Int) < (R.length : Int)) = true := by simpa using hlt
   obtain ⟨m, hm⟩ : ∃ m, R.length - k = m + 1 := ⟨R.length - k - 1, by omega⟩
   have hm2 : R.length - (k + 1) = m := by omega
   have hl : (List.replicate k (-1 : Int) ++ List.replicate (m + 1) 0).length = R.length := by simp; omega
   rw [hm]
   (refine wk1 (an @d1 (an @cInts_len @hl)) ?_;(repeat clear hK K);repeat refine kq fun K hK=>?_)
   refine cxz ?_
   (refine wks1 (an @cInts_len (an @hl (an @cInts_set @rep_set))) ?_;(repeat clear hK K);repeat refine kq fun K hK=>?_)
   refine rnz ?_
   refine hK _ (k + 1) (by omega) (by omega) ?_
   rw [hm2]
   exact lmz
  ·have d1 : decide ((k : Int) < (R.length : Int)) = false := by simpa using hlt
   have hke : k = R.length := by omega
   rw [hke] at d1
   have e1 : List.replicate R.length (-1 : Int) ++ List.replicate (R.length - R.length) 0 = List.replicate R.length (-1) := by simp
   have hlr : (List.replicate R.length (-1 : Int)).length = R.length := by simp
   rw [hke, e1]
   (refine wk1 (an @d1 (an @cInts_len @hlr)) ?_;(repeat clear hK K);repeat refine kq fun K hK=>?_)
   refine cyz ?_
   (refine ekz ?_;repeat clear hK K)
   have g0 : 0 < (List.replicate R.length (-1 : Int)).length := by simp; omega
   (refine wks1 (an @cInts_len (an @hlr @cInts_set)) ?_;(repeat clear hK K);repeat refine kq fun K hK=>?_)
   refine aw_le (le_new 45 1) ?_
   simp only [List.cons_append, List.nil_append]
   refine aw_le (le_cell 4 0 5 (by decide) rfl rfl rfl) ?_
   simp only [List.set_cons_zero, List.set_cons_succ]
   refine aw_loop (fun x : Nat × List Int × List Int × List (List Ar) => { tm := [(1, .a (.c (.p 0 0))), (2, .a (.c (.p 1 0))), (4, .a (.c (.s 2 R.length))), (6, .a (.c (.s 3 x.2.2.1.length))), (7, .a (.c (.p 4 0))), (8, .i x.1)], hp := [.r ⟨25, 1, false, [.t 1 (tRows R)]⟩, .r ⟨25, 1, false, [.v (.slice none 0 0)]⟩, .r ⟨3, 1, true, cInts x.2.1⟩, .r ⟨3, 1, true, cInts x.2.2.1⟩, .r ⟨25, 1, false, [.s 5 x.1]⟩, .r ⟨45, 1, true, cRows x.2.2.2⟩], n := 117, pin := 0 }) (fun x => NumOk R.length x.2.1 x.2.2.1 ∧ canGo R (R.length - x.1) x.1 x.2.1 x.2.2.1 x.2.2.2 = canonR R ∧ x.1 ≤ x.2.2.1.length ∧ x.2.2.2.length = x.1) (fun x => R.length - x.1) (0, (List.replicate R.length (-1)).set 0 0, [0], []) ?_ ?_ ?_
   ·exact ⟨NumOk.start h1, rfl, by simp, rfl⟩
   ·exact lmz
   ·rintro ⟨i, num, old, out⟩ ⟨hN, hC, hio, hoi⟩ K hK
    simp only at hN hC hio hoi
    have hlen := hN.len
    have hle := hN.le
    by_cases hlt2 : i < old.length
    ·have d2 : decide ((i : Int) < (old.length : Int)) = true := by simpa using hlt2
     have hs0 := hN.st _ (List.getElem_mem hlt2)
     obtain ⟨sn, hsn⟩ : ∃ sn : Nat, old[i] = sn := ⟨old[i].toNat, by omega⟩
     have hsl : sn < R.length := by omega
     have go : (cInts old)[i]? = some (.v (.int .i64 sn)) := by rw [← hsn]; exact cInts_get (List.getElem?_eq_getElem hlt2)
     have hgR := List.getElem?_eq_getElem hsl
     have hrl := hr _ (List.getElem_mem hsl)
     have hbr := hbd _ (List.getElem_mem hsl)
     have hst := canGo_step (rows := R) (n := R.length) (i := i) (num := num) (old := old) (out := out) (s := (sn : Int)) (r := R[sn]) (by omega) (by rw [List.getElem?_eq_getElem hlt2, hsn]) (by simp [hgR]) rfl
     generalize hrr : R[sn] = r at *
     (refine wk1 (an @d2 @cInts_len) ?_;(repeat clear hK K);repeat refine kq fun K hK=>?_)
     refine cxz ?_
     (refine wk0 ?_;(repeat clear hK K);repeat refine kq fun K hK=>?_)
     refine aw_le (le_nilt 9 2 ?_) ?_
     ·simp only [go_sem]
     refine aw_loop (fun k : Nat => { tm := [(1, .a (.c (.p 0 0))), (2, .a (.c (.p 1 0))), (4, .a (.c (.s 2 R.length))), (6, .a (.c (.s 3 old.length))), (7, .a (.c (.p 4 0))), (8, .i i), (9, .a (.c (.t 2 (tArcs ((r.take k).foldl (fun acc a => insA a acc) []))))), (10, .i k)], hp := [.r ⟨25, 1, false, [.t 1 (tRows R)]⟩, .r ⟨25, 1, false, [.v (.slice none 0 0)]⟩, .r ⟨3, 1, true, cInts num⟩, .r ⟨3, 1, true, cInts old⟩, .r ⟨25, 1, false, [.s 5 i]⟩, .r ⟨45, 1, true, cRows out⟩], n := 117, pin := 0 }) (fun k => k ≤ r.length) (fun k => r.length - k) 0 ?_ ?_ ?_
     ·omega
     ·simp only [List.take_zero, List.foldl_nil, show tArcs ([] : List (Int × Int)) = [] from rfl]
      exact lmz
     ·rintro k hk K hK
      by_cases hlt3 : k < r.length
      ·have d3 : decide ((k : Int) < (r.length : Int)) = true := by simpa using hlt3
       have hat := tArcs_at hlt3
       have hsn3 := foldI_snoc hlt3
       have hfl := foldI_len r k
       generalize (r.take k).foldl (fun acc a => insA a acc) [] = rk at *
       (refine wk0 ?_;(repeat clear hK K);repeat refine kq fun K hK=>?_)
       (refine aw_regionU 10 [(0, 0), (1, 0), (2, 1), (3, 0), (4, 0), (5, 0), (6, 1), (7, 0), (8, 1), (9, 0), (10, 2)] (by kernel_rfl) (by kernel_rfl) (by intro c st h; simp [ThenA, InBl, Ret] at h) ?_)
       (refine uk1 (an @tRows_len (an (tRows_get hgR) (an @cInts_len (an @go (an @tArcs_len (an @half2 @d3)))))) ?_; repeat clear hK K)
       refine cxz ?_
       (refine wk0 ?_;(repeat clear hK K);repeat refine kq fun K hK=>?_)
       (refine aw_regionU 12 [(0, 0), (1, 0), (2, 1), (3, 0), (4, 0), (5, 0), (6, 1), (7, 0), (8, 1), (9, 0), (10, 0), (11, 1), (12, 2), (13, 0)] (by kernel_rfl) (by kernel_rfl) (by intro c st h; simp [ThenA, InBl, Ret] at h) ?_)
       (refine uk1 (an @tRows_len (an (tRows_get hgR) (an @cInts_len (an @go (an @tArcs_len (an @half2 @hat)))))) ?_; repeat clear hK K)
       (refine uckz (insT_fc rk r[k] (by omega)) ?_; intro K1 hK1)
       rintro _ _ ⟨rfl, rfl⟩
       (simp only [aInts, aSets, aArcs, List.append_nil, List.nil_append, List.length_map, go_sem]; refine hK1 _ ?_; clear hK1 K1)
       (refine uk0 ?_; repeat clear hK K)
       (refine wk0 ?_;(repeat clear hK K);repeat refine kq fun K hK=>?_)
       refine rnz ?_
       refine hK _ (k + 1) (by omega) (by omega) ?_
       rw [hsn3]
       exact lmz
      ·have d3 : decide ((k : Int) < (r.length : Int)) = false := by simpa using hlt3
       have hq0 : (r.take k).foldl (fun acc a => insA a acc) [] = rowOf r := by rw [List.take_of_length_le (by omega)]; rfl
       rw [hq0]
       (refine wk0 ?_;(repeat clear hK K);repeat refine kq fun K hK=>?_)
       (refine aw_regionU 10 [(0, 0), (1, 0), (2, 1), (3, 0), (4, 0), (5, 0), (6, 1), (7, 0), (8, 1), (9, 0), (10, 2)] (by kernel_rfl) (by kernel_rfl) (by intro c st h; simp [ThenA, InBl, Ret] at h) ?_)
       (refine uk1 (an @tRows_len (an (tRows_get hgR) (an @cInts_len (an @go (an @tArcs_len (an @half2 @d3)))))) ?_; repeat clear hK K)
       refine cyz ?_
       (refine ekz ?_;repeat clear hK K)
       have hqb : ∀ a ∈ rowOf r, 0 ≤ a.2 ∧ a.2 < (R.length : Int) := fun a ha => by
        rw [mem_rowOf] at ha
        exact hbr a ha
       have hql := len_rowOf r
       generalize hqd : rowOf r = q at *
       (refine wk0 ?_;(repeat clear hK K);repeat refine kq fun K hK=>?_)
       refine aw_le (le_nilt 11 2 ?_) ?_
       ·simp only [go_sem]
       refine aw_loop (fun x : Nat × List Int × List Int × List Ar => { tm := [(1, .a (.c (.p 0 0))), (2, .a (.c (.p 1 0))), (4, .a (.c (.s 2 R.length))), (6, .a (.c (.s 3 x.2.2.1.length))), (7, .a (.c (.p 4 0))), (8, .i i), (9, .a (.c (.t 2 (tArcs q)))), (11, .a (.c (.t 2 (tArcs x.2.2.2)))), (12, .i x.1)], hp := [.r ⟨25, 1, false, [.t 1 (tRows R)]⟩, .r ⟨25, 1, false, [.v (.slice none 0 0)]⟩, .r ⟨3, 1, true, cInts x.2.1⟩, .r ⟨3, 1, true, cInts x.2.2.1⟩, .r ⟨25, 1, false, [.s 5 i]⟩, .r ⟨45, 1, true, cRows out⟩], n := 117, pin := 0 }) (fun x => x.1 ≤ q.length ∧ NumOk R.length x.2.1 x.2.2.1 ∧ old.length ≤ x.2.2.1.length ∧ x.2.2.2.length ≤ x.1 ∧ rowGo (q.drop x.1) x.2.1 x.2.2.1 x.2.2.2 = rowGo q num old []) (fun x => q.length - x.1) (0, num, old, []) ?_ ?_ ?_
       ·exact ⟨by simp, hN, Nat.le_refl _, by simp, rfl⟩
       ·simp only [show tArcs ([] : List (Int × Int)) = [] from rfl]
        exact lmz
       ·rintro ⟨k, num1, old1, nxt⟩ ⟨hk, hN1, hol, hnl, hgo⟩ K hK
        simp only at hk hN1 hol hnl hgo
        have hlen1 := hN1.len
        have hle1 := hN1.le
        by_cases hlt4 : k < q.length
        ·have d4 : decide ((k : Int) < (q.length : Int)) = true := by simpa using hlt4
         have hyb := hqb _ (List.getElem_mem hlt4)
         obtain ⟨e, tn, hya⟩ : ∃ (e : Int) (tn : Nat), q[k] = (e, (tn : Int)) := ⟨q[k].1, q[k].2.toNat, by
          have : (q[k].2.toNat : Int) = q[k].2 := by omega
          rw [this]⟩
         have htl : tn < R.length := by rw [hya] at hyb; have := hyb.2; simp only at this; omega
         have ha0 := tArcs_c0 hlt4
         have ha1 := tArcs_c1 hlt4
         rw [hya] at ha0 ha1
         have gn : (cInts num1)[tn]? = some (.v (.int .i64 num1[tn])) := cInts_get (List.getElem?_eq_getElem (by omega))
         have gn2 : num1[tn]? = some num1[tn] := List.getElem?_eq_getElem (by omega)
         have hdr : q.drop k = (e, (tn : Int)) :: q.drop (k + 1) := by rw [List.drop_eq_getElem_cons hlt4, hya]
         (refine wk1 (an @d4 (an @tArcs_len @half2)) ?_;(repeat clear hK K);repeat refine kq fun K hK=>?_)
         refine cxz ?_
         by_cases hx : num1[tn] < 0
         ·have d5 : decide (num1[tn] < 0) = true := by simpa using hx
          have gs : (cInts (num1.set tn (old1.length : Int)))[tn]? = some (.v (.int .i64 (old1.length : Int))) := cInts_get (List.getElem?_set_self (by omega))
          have op := old_push old1 (tn : Int)
          (refine wks1 (an @ha1 (an @tArcs_len (an @half2 (an @gn (an @d5 (an @cInts_len @hlen1)))))) ?_;(repeat clear hK K);repeat refine kq fun K hK=>?_)
          refine cxz ?_
          (refine wks1 (an @ha1 (an @tArcs_len (an @half2 (an @cInts_len (an @hlen1 (an @cInts_set (an @op @List.length_set.{0}))))))) ?_;(repeat clear hK K);repeat refine kq fun K hK=>?_)
          (refine aw_regionU 15 [(0, 0), (1, 0), (2, 0), (3, 0), (4, 0), (5, 1), (6, 0), (7, 0), (8, 0), (9, 0), (10, 0), (11, 1), (12, 0), (13, 1), (14, 0), (15, 2), (16, 0)] (by kernel_rfl) (by kernel_rfl) (by intro c st h; simp [ThenA, InBl, Ret] at h) ?_)
          (refine uk1 (an @ha0 (an @ha1 (an @tArcs_len (an @half2 (an @cInts_len (an @hlen1 (an @gs @List.length_set.{0}))))))) ?_; repeat clear hK K)
          (refine uckz (insT_fc nxt (e, (old1.length : Int)) (by omega)) ?_; intro K1 hK1)
          rintro _ _ ⟨rfl, rfl⟩
          (simp only [aInts, aSets, aArcs, List.append_nil, List.nil_append, List.length_map, go_sem]; refine hK1 _ ?_; clear hK1 K1)
          (refine uk0 ?_; repeat clear hK K)
          (refine wk0 ?_;(repeat clear hK K);repeat refine kq fun K hK=>?_)
          refine rnz ?_
          have hone : numOne num1 old1 (tn : Int) = (num1.set tn (old1.length : Int), old1 ++ [(tn : Int)]) := by
           simp only [numOne, Int.toNat_natCast, List.getD, gn2, Option.getD_some, if_pos hx]
          have hN2 := hN1.one (t := (tn : Int)) (by omega) (by omega)
          rw [hone] at hN2
          have hin := insA_len (e, (old1.length : Int)) nxt
          refine hK _ (k + 1, num1.set tn (old1.length : Int), old1 ++ [(tn : Int)], insA (e, (old1.length : Int)) nxt) ⟨hlt4, hN2, by simp; omega, by simp only; omega, by simp only; rw [← hgo, hdr, rowGo_neg gn2 hx rfl]⟩ (by simp only; omega) ?_
          refine Le.trans (le_pick [0, 1, 2, 7, 4, 5] rfl rfl) ?_
          (try simp only [List.set_nil, List.take_nil, List.take_zero, List.map_append, go_sem])
          (try simp only [cInts_ren, cRows_ren])
          simp only [List.length_append, List.length_cons, List.length_nil]
          exact lmz
         ·have d5 : decide (num1[tn] < 0) = false := by simpa using hx
          (refine wks1 (an @ha1 (an @tArcs_len (an @half2 (an @gn (an @d5 (an @cInts_len @hlen1)))))) ?_;(repeat clear hK K);repeat refine kq fun K hK=>?_)
          refine cyz ?_
          (refine wk0 ?_;(repeat clear hK K);repeat refine kq fun K hK=>?_)
          (refine aw_regionU 15 [(0, 0), (1, 0), (2, 0), (3, 0), (4, 0), (5, 1), (6, 0), (7, 0), (8, 0), (9, 0), (10, 0), (11, 1), (12, 0), (13, 1), (14, 0), (15, 2), (16, 0)] (by kernel_rfl) (by kernel_rfl) (by intro c st h; simp [ThenA, InBl, Ret] at h) ?_)
          (refine uk1 (an @ha0 (an @ha1 (an @tArcs_len (an @half2 (an @cInts_len (an @hlen1 @gn)))))) ?_; repeat clear hK K)
          (refine uckz (insT_fc nxt (e, num1[tn]) (by omega)) ?_; intro K1 hK1)
          rintro _ _ ⟨rfl, rfl⟩
          (simp only [aInts, aSets, aArcs, List.append_nil, List.nil_append, List.length_map, go_sem]; refine hK1 _ ?_; clear hK1 K1)
          (refine uk0 ?_; repeat clear hK K)
          (refine wk0 ?_;(repeat clear hK K);repeat refine kq fun K hK=>?_)
          refine rnz ?_
          have hin := insA_len (e, num1[tn]) nxt
          refine hK _ (k + 1, num1, old1, insA (e, num1[tn]) nxt) ⟨hlt4, hN1, hol, by simp only; omega, by simp only; rw [← hgo, hdr, rowGo_pos gn2 hx]⟩ (by simp only; omega) ?_
          exact lmz
        ·have d4 : decide ((k : Int) < (q.length : Int)) = false := by simpa using hlt4
         rw [List.drop_of_length_le (by omega)] at hgo
         rw [← hgo] at hst
         simp only [rowGo] at hst
         (refine wk1 (an @d4 (an @tArcs_len @half2)) ?_;(repeat clear hK K);repeat refine kq fun K hK=>?_)
         refine cyz ?_
         (refine ekz ?_;repeat clear hK K)
         have crp := cRows_push out nxt hoi
         (refine wks1 (an @cRows_len (an @hoi @crp)) ?_;(repeat clear hK K);repeat refine kq fun K hK=>?_)
         refine rnz ?_
         refine hK _ (i + 1, num1, old1, out ++ [nxt]) ⟨hN1, by simp only; rw [← hC, hst], by simp only; omega, by simp [hoi]⟩ (by simp only; omega) ?_
         refine Le.trans (le_pick [0, 1, 2, 3, 4, 7] rfl rfl) ?_
         (try simp only [List.set_nil, List.take_nil, List.take_zero, List.map_append, go_sem])
         (try simp only [cInts_ren, cRows_ren])
         exact lmz
    ·have d2 : decide ((i : Int) < (old.length : Int)) = false := by simpa using hlt2
     have hfin : canonR R = (out, old) := by rw [← hC]; exact canGo_stop (by omega)
     (refine wk1 (an @d2 @cInts_len) ?_;(repeat clear hK K);repeat refine kq fun K hK=>?_)
     refine cyz ?_
     (refine ekz ?_;repeat clear hK K)
     have htk : (tRows out).take i = tRows out := List.take_of_length_le (by rw [tRows_len]; omega)
     have htk2 : (tInts old).take old.length = tInts old := List.take_of_length_le (by rw [tInts_len]; exact Nat.le_refl _)
     refine aw_le (le_sink (r := ⟨45, 1, true, cRows out⟩) (ri := ⟨25, 1, false, [.s 5 i]⟩) (ts := tRows out) 4 0 5 i (by decide) rfl rfl rfl rfl (show 0 < 1 by omega) (by simp only [cRows_len, hoi]; omega) (fz_cr _)) ?_
     simp only [go_sem]
     refine aw_le (le_ot 4 rfl) ?_
     simp only [otC, go_sem]
     (refine aw_le (le_frz (r := ⟨3, 1, true, cInts old⟩) 3 (tInts old) rfl (fz_c _) (show 0 < (1 : Nat) by omega)) ?_; simp only [ST.frz, A0.frz, AV.frz, C.frz, Nat.le_refl, List.set_cons_zero, List.set_cons_succ, go_sem, htk2, tInts_len])
     (refine wks0 ?_;(repeat clear hK K);repeat refine kq fun K hK=>?_)
     refine rp0 [1] Tryz.results66 ?_
     rw [hfin]
     exact ⟨rfl, rfl⟩
theorem arcNe_s (x y : Operand) (a : Ar) : aggEq Tryz.prog .neq 44 x y [.int .i64 a.1, .int .i64 a.2] [.int .i64 a.1, .int .i64 a.2] false = True := by
 have h := arcNe_d x y a a
 rw [decide_eq_true (rfl : a = a)] at h
 exact h
theorem sameRow_fc (r : List Ar) (hn : r.length ≤ 1000000) : FC Tryz.prog 60 [.a (.c (.t 2 (tArcs r))), .a (.c (.t 2 (tArcs r)))] [] (fun x o => o = [] ∧ x = .b true) := by
 refine fc_intro Tryz.func60 rfl (by rw [Tryz.ntmps60]; simp) ?_
 rw [Tryz.ntmps60]
 simp only [enum]
 have d0 : ((r.length : Int) != (r.length : Int)) = false := by simp
 (refine wk1 (an @tArcs_len (an @half2 @d0)) ?_;(repeat clear hK K);repeat refine kq fun K hK=>?_)
 refine cyz ?_
 (refine wk0 ?_;(repeat clear hK K);repeat refine kq fun K hK=>?_)
 refine aw_loop (fun k : Nat => { tm := [(0, .a (.c (.t 2 (tArcs r)))), (1, .a (.c (.t 2 (tArcs r)))), (5, .i k)], hp := [], n := 26, pin := 0 }) (fun k => k ≤ r.length) (fun k => r.length - k) 0 ?_ ?_ ?_
 ·omega
 ·exact lmz
 ·rintro k hk K hK
  by_cases hlt : k < r.length
  ·have d1 : decide ((k : Int) < (r.length : Int)) = true := by simpa using hlt
   have hat := tArcs_at hlt
   have d2 : (!decide (r[k] = r[k])) = false := by simp
   (refine wk1 (an @d1 (an @tArcs_len @half2)) ?_;(repeat clear hK K);repeat refine kq fun K hK=>?_)
   refine cxz ?_
   (refine wk0 ?_;(repeat clear hK K);repeat refine kq fun K hK=>?_)
   (refine aw_regionU 8 [(0, 0), (1, 0), (2, 0), (3, 1), (4, 0), (5, 0), (6, 0), (7, 1), (8, 2)] (by kernel_rfl) (by kernel_rfl) (by intro c st h; simp [ThenA, InBl, Ret] at h) ?_)
   (repeat (first | ((first | refine u_0x rfl rfl rfl ?_ | refine u_1x rfl rfl rfl ?_); intro K1 hK1; simp only [go_sem, hat, tArcs_len, half2, arcNe_s, arcEq_b, decide_true, Bool.not_true, beq_self_eq_true, Bool.and_self, true_and]; (first | refine hK1 _ ?_ | refine andk (hK1 _ ?_)); clear hK1 K1) | (refine u_2x rfl rfl rfl rfl ?_; intro K1 hK1; simp only [go_sem, hat, tArcs_len, half2, arcNe_s, arcEq_b, decide_true, Bool.not_true, beq_self_eq_true, Bool.and_self, true_and]; (first | refine hK1 _ ?_ | refine andk (hK1 _ ?_)); clear hK1 K1) | (refine u_nil ?_; refine hK _ ?_; clear hK K)))
   refine cyz ?_
   (refine wk0 ?_;(repeat clear hK K);repeat refine kq fun K hK=>?_)
   refine rnz ?_
   refine hK _ (k + 1) (by omega) (by omega) ?_
   exact lmz
  ·have d1 : decide ((k : Int) < (r.length : Int)) = false := by simpa using hlt
   (refine wk1 (an @d1 (an @tArcs_len @half2)) ?_;(repeat clear hK K);repeat refine kq fun K hK=>?_)
   refine cyz ?_
   (refine ekz ?_;repeat clear hK K)
   (refine wk0 ?_;(repeat clear hK K);repeat refine kq fun K hK=>?_)
   exact rpc0 [] Tryz.results60
theorem same_fc (R : List (List Ar)) (hn : R.length ≤ 1000000) (hr : ∀ r ∈ R, r.length ≤ 1000000) : FC Tryz.prog 36 [aLts R, aLts R] [] (fun x o => o = [] ∧ x = .b true) := by
 refine fc_intro Tryz.func36 rfl (by rw [Tryz.ntmps36]; simp) ?_
 rw [Tryz.ntmps36]
 simp only [enum, aLts]
 have d0 : ((R.length : Int) != (R.length : Int)) = false := by simp
 (refine wk1 (an @tRows_len @d0) ?_;(repeat clear hK K);repeat refine kq fun K hK=>?_)
 refine cyz ?_
 (refine wk0 ?_;(repeat clear hK K);repeat refine kq fun K hK=>?_)
 refine aw_loop (fun k : Nat => { tm := [(2, .a (.c (.p 0 0))), (3, .a (.c (.p 1 0))), (5, .i k)], hp := [.r ⟨25, 1, false, [.t 1 (tRows R)]⟩, .r ⟨25, 1, false, [.t 1 (tRows R)]⟩], n := 32, pin := 0 }) (fun k => k ≤ R.length) (fun k => R.length - k) 0 ?_ ?_ ?_
 ·omega
 ·exact lmz
 ·rintro k hk K hK
  by_cases hlt : k < R.length
  ·have d1 : decide ((k : Int) < (R.length : Int)) = true := by simpa using hlt
   have hg := List.getElem?_eq_getElem hlt
   (refine wk1 (an @d1 @tRows_len) ?_;(repeat clear hK K);repeat refine kq fun K hK=>?_)
   refine cxz ?_
   (refine wk0 ?_;(repeat clear hK K);repeat refine kq fun K hK=>?_)
   (refine aw_regionU 10 [(0, 0), (1, 1), (2, 0), (3, 0), (4, 1), (5, 0), (6, 1), (7, 0), (8, 0), (9, 1), (10, 2), (11, 0)] (by kernel_rfl) (by kernel_rfl) (by intro c st h; simp [ThenA, InBl, Ret] at h) ?_)
   (refine uk1 (an @tRows_len (tRows_get hg)) ?_; repeat clear hK K)
   (refine uckz (sameRow_fc R[k] (hr _ (List.getElem_mem hlt))) ?_; intro K1 hK1)
   rintro _ _ ⟨rfl, rfl⟩
   (refine bkz ?_; clear hK1 K1)
   (refine uk1 @Bool.not_true ?_; repeat clear hK K)
   refine cyz ?_
   (refine wk0 ?_;(repeat clear hK K);repeat refine kq fun K hK=>?_)
   refine rnz ?_
   refine hK _ (k + 1) (by omega) (by omega) ?_
   exact lmz
  ·have d1 : decide ((k : Int) < (R.length : Int)) = false := by simpa using hlt
   (refine wk1 (an @d1 @tRows_len) ?_;(repeat clear hK K);repeat refine kq fun K hK=>?_)
   refine cyz ?_
   (refine ekz ?_;repeat clear hK K)
   (refine wk0 ?_;(repeat clear hK K);repeat refine kq fun K hK=>?_)
   exact rpc0 [] Tryz.results36
end Go.Proofs.YtglchakimolfdaaGreatDoor
