/- Bounds of the canonical form, Same at nil systems, Chain at 8. law28.sane by the contracts, at its one system. -/
import Derived.Test.YthlckclbjknldaaGreatZk
import Derived.Test.YthlckclbjknldaaGreatG50
import Derived.Test.YthlckclbjknldaaGreatG48
import Derived.Test.YthlckclbjknldaaGreatG38
import Derived.Test.YthlckclbjknldaaGreatG61
import Derived.Test.YthlckclbjknldaaGreatG12
namespace Go.Proofs.YthlckclbjknldaaGreat
set_option linter.unusedVariables false
set_option linter.unusedSimpArgs false
open Go.RowKit
set_option maxRecDepth 100000
attribute [local go_sem] List.set_cons_zero List.set_cons_succ List.map_cons List.map_nil List.take_succ_cons List.take_zero List.drop_zero List.drop_succ_cons C.pl C.one List.all_cons List.all_nil Bool.and_true Nat.mul_one Int.toNat_natCast

theorem rowGo_len (r : List Ar) : ∀ (num old : List Int) (nxt : List Ar), (rowGo r num old nxt).2.2.length ≤ nxt.length + r.length := by
 induction r with
 | nil => intro num old nxt; simp [rowGo]
 | cons a tl ih =>
  intro num old nxt
  have h1 := ih (numOne num old a.2).1 (numOne num old a.2).2 (insA (a.1, (numOne num old a.2).1.getD a.2.toNat 0) nxt)
  have h2 := insA_len (a.1, (numOne num old a.2).1.getD a.2.toNat 0) nxt
  simp only [rowGo, List.length_cons]
  omega
theorem canGo_bd {R : List (List Ar)} {B : Nat} (hb : ∀ r ∈ R, ∀ a ∈ r, 0 ≤ a.2 ∧ a.2 < (R.length : Int)) (hB : ∀ r ∈ R, r.length ≤ B) : ∀ (f i : Nat) (num old : List Int) (out : List (List Ar)), NumOk R.length num old → i = out.length → i ≤ old.length → (∀ x ∈ out, x.length ≤ B) → (canGo R f i num old out).1.length ≤ R.length ∧ ∀ x ∈ (canGo R f i num old out).1, x.length ≤ B := by
 intro f
 induction f with
 | zero =>
  intro i num old out hN hi ho hx
  have := hN.le
  exact ⟨by simp only [canGo]; omega, hx⟩
 | succ f ih =>
  intro i num old out hN hi ho hx
  have hle := hN.le
  unfold canGo
  split
  ·exact ⟨by simp only; omega, hx⟩
  ·rename_i s hs
   have hs0 := hN.st s (List.mem_of_getElem? hs)
   have hsl : s.toNat < R.length := by omega
   have hg : R.getD s.toNat [] = R[s.toNat] := by rw [List.getD_eq_getElem?_getD, List.getElem?_eq_getElem hsl]; rfl
   rw [hg]
   have hil := (List.getElem?_eq_some_iff.1 hs).1
   have hrm := List.getElem_mem hsl
   generalize R[s.toNat] = r at *
   have hq : ∀ a ∈ rowOf r, 0 ≤ a.2 ∧ a.2 < (R.length : Int) := fun a ha => hb r hrm a ((mem_rowOf r a).1 ha)
   have hN2 := NumOk.go (rowOf r) [] hN hq
   have hl2 := rowGo_len (rowOf r) num old []
   have hl3 := len_rowOf r
   have hl4 := hB r hrm
   refine ih _ _ _ _ hN2 (by simp; omega) ?_ fun x hx2 => ?_
   ·have : ∀ (q : List Ar) (num old : List Int) (nxt : List Ar), old.length ≤ (rowGo q num old nxt).2.1.length := by
     intro q
     induction q with
     | nil => intro num old nxt; exact Nat.le_refl _
     | cons a tl ih2 =>
      intro num old nxt
      simp only [rowGo]
      refine Nat.le_trans ?_ (ih2 _ _ _)
      unfold numOne
      split <;> simp
    have := this (rowOf r) num old []
    omega
   ·rcases List.mem_append.1 hx2 with h | h
    ·exact hx x h
    ·simp at h; subst h
     simp only [List.length_nil, Nat.zero_add] at hl2
     omega
theorem canonR_bd {R : List (List Ar)} {B : Nat} (h1 : 1 ≤ R.length) (hb : ∀ r ∈ R, ∀ a ∈ r, 0 ≤ a.2 ∧ a.2 < (R.length : Int)) (hB : ∀ r ∈ R, r.length ≤ B) : (canonR R).1.length ≤ R.length ∧ ∀ x ∈ (canonR R).1, x.length ≤ B :=
 canGo_bd hb hB _ _ _ _ _ (NumOk.start h1) rfl (by simp) (by simp)
theorem sameN_fc : FC Tryz.prog 34 [.a (.g [.v (.slice none 0 0)]), .a (.g [.v (.slice none 0 0)])] [] (fun x o => o = [] ∧ x = .b true) := by
 refine fc_intro Tryz.func34 rfl (by rw [Tryz.ntmps34]; simp) ?_
 rw [Tryz.ntmps34]
 simp only [enum]
 have d0 : (((0 : Nat) : Int) != ((0 : Nat) : Int)) = false := by simp
 (refine wk1 @d0 ?_; (repeat clear hK K); repeat (refine Kq.mk ?_; intro K hK))
 refine cyz ?_
 (refine wk0 ?_; (repeat clear hK K); repeat (refine Kq.mk ?_; intro K hK))
 refine aw_loop (fun k : Nat => { tm := [(2, .a (.c (.p 0 0))), (3, .a (.c (.p 1 0))), (5, .i k)], hp := [.r ⟨25, 1, false, [.v (.slice none 0 0)]⟩, .r ⟨25, 1, false, [.v (.slice none 0 0)]⟩], n := 32, pin := 0 }) (fun k => k ≤ 0) (fun k => 0 - k) 0 ?_ ?_ ?_
 ·omega
 ·exact lmz
 ·rintro k hk K hK
  have hk0 : k = 0 := by omega
  subst hk0
  (refine wk0 ?_; (repeat clear hK K); repeat (refine Kq.mk ?_; intro K hK))
  (refine aw_cnd ?_; intro X Y hX hY; simp only [go_sem])
  refine ⟨fun h => absurd h (by simp), fun _ => hY ?_⟩
  clear hX hY X Y
  (refine ekz ?_; repeat clear hK K)
  (refine wk0 ?_; (repeat clear hK K); repeat (refine Kq.mk ?_; intro K hK))
  ((try refine aw_ret ?_); (try simp only [ThenA, InBl]); refine ret_le (le_pick [] rfl rfl) ?_; (try simp only [List.set_nil, List.take_nil, List.take_zero, List.map_append, go_sem]); ((try refine aw_ret ?_); (try refine lst_nil ?_); (try simp only [ThenA, InBl]); refine ret_mk (by first | exact .inl rfl | exact .inr rfl) rfl ?_; simp only [rtn, resA, resL, resV, Tryz.results34, go_sem, true_and, and_true]))
theorem chain8_fc (T : List Int) (hT : TpOk T) (a0 : Nat) (ha : a0 ≤ 500000) :
  FC Tryz.prog 9 [.a (.c (.p 0 0)), .i 8] [tape T a0] (fun r o => ∃ (a' : Nat) (R : List (List Ar)), (o = [tape T a', oLts R] ∧ r = aLts R) ∧ a' ≤ a0 + 65 ∧ 1 ≤ R.length ∧ R.length ≤ 20 ∧ ∀ q ∈ R, q.length ≤ 1000) :=
 (chain_fc T hT a0 8 ha (by omega) (by omega)).mono fun r o ⟨a', R, h0, h1, h2, h3, h4, h5⟩ => ⟨a', R, ⟨h0, h1⟩, by omega, h3, by omega, fun q hq => by have := (h5.2 q hq).2.1; omega⟩
end Go.Proofs.YthlckclbjknldaaGreat
namespace Go.Proofs.YthlckclbjknldaaGreat
set_option linter.unusedVariables false
set_option linter.unusedSimpArgs false
open Go.RowKit
set_option maxRecDepth 100000
attribute [local go_sem] List.set_cons_zero List.set_cons_succ List.map_cons List.map_nil List.take_succ_cons List.take_zero List.drop_zero List.drop_succ_cons C.pl C.one List.all_cons List.all_nil Bool.and_true Nat.mul_one Int.toNat_natCast

def sR : List (List Ar) := [[(0, 1)], [(0, 2), (2, 3)], [(3, 3)], []]
def sX : List (List Ar) := [[(0, 1), (2, 2), (3, 2)], [(3, 2)], []]
theorem sR_val : valB sR = true := by kernel_rfl
theorem sR_adj : ∀ v w, w ∈ Adj true sR v → v ≤ w
 | 0, w, h => by have e : Adj true sR 0 = [1] := rfl; rw [e] at h; simp at h; omega
 | 1, w, h => by have e : Adj true sR 1 = [2] := rfl; rw [e] at h; simp at h; omega
 | 2, w, h => by have e : Adj true sR 2 = [] := rfl; rw [e] at h; simp at h
 | 3, w, h => by have e : Adj true sR 3 = [] := rfl; rw [e] at h; simp at h
 | n + 4, w, h => by have e : Adj true sR (n + 4) = [] := rfl; rw [e] at h; simp at h
theorem sR_le {v u : Nat} (h : Rc (Adj true sR) v u) : v ≤ u := by
 induction h with
 | refl => exact Nat.le_refl _
 | tail _ h2 ih => exact Nat.le_trans ih (sR_adj _ _ h2)
theorem sR_D {D : List Int} (hD : D.length = sR.length) (hL : ∀ v, v < sR.length → Least (Adj true sR) v (fnL D (-1) v)) : D = [0, 1, 2, 3] := by
 refine least_rows (n := 4) hD rfl hL fun v hv => ⟨v, ?_, .refl v, .refl v, fun u h1 _ => sR_le h1⟩
 match v, hv with
 | 0, _ => rfl
 | 1, _ => rfl
 | 2, _ => rfl
 | 3, _ => rfl
theorem cl_in {E : Nat → List Nat} {n : Nat} {L : List Nat} (h0 : n ∈ L) (hc : ∀ u ∈ L, ∀ w ∈ E u, w ∈ L) {u : Nat} (h : Rc E n u) : u ∈ L := by
 induction h with
 | refl => exact h0
 | tail _ h2 ih => exact hc _ ih _ h2
theorem sR_cl {n : Nat} {L : List Nat} (h0 : n ∈ L) (hc : ∀ u ∈ L, ∀ w ∈ Adj true sR u, w ∈ L) (hr : ∀ u ∈ L, Rc (Adj true sR) n u) (he : ordN sR.length (fun u => decide (u ∈ L)) = L) : sclo sR n = L := by
 rw [← sclo_eq (p := fun u => decide (u ∈ L)) fun u _ => ⟨fun h => hr u (by simpa using h), fun h => by simpa using cl_in h0 hc h⟩, he]
theorem sR_c0 : sclo sR 0 = [0, 1, 2] := by
 have h1 : Rc (Adj true sR) 0 1 := .tail (.refl 0) (show 1 ∈ [1] by simp)
 have h2 : Rc (Adj true sR) 0 2 := .tail h1 (show 2 ∈ [2] by simp)
 refine sR_cl (by simp) (by decide) (fun u hu => ?_) (by decide)
 simp at hu
 rcases hu with rfl | rfl | rfl
 ·exact .refl 0
 ·exact h1
 ·exact h2
theorem sR_c1 : sclo sR 1 = [1, 2] := by
 have h2 : Rc (Adj true sR) 1 2 := .tail (.refl 1) (show 2 ∈ [2] by simp)
 refine sR_cl (by simp) (by decide) (fun u hu => ?_) (by decide)
 simp at hu
 rcases hu with rfl | rfl
 ·exact .refl 1
 ·exact h2
theorem sR_dm : dmR sR = [unS sR 0 [0, 1, 2], unS sR 1 [1, 2], [(3, 3)], []] := by
 have e0 : dmRow sR 0 = unS sR 0 [0, 1, 2] := by rw [dmRow, if_neg (by decide), sR_c0]
 have e1 : dmRow sR 1 = unS sR 1 [1, 2] := by rw [dmRow, if_neg (by decide), sR_c1]
 have e2 : dmRow sR 2 = [(3, 3)] := by rw [dmRow, if_pos (by decide)]; rfl
 have e3 : dmRow sR 3 = [] := by rw [dmRow, if_pos (by decide)]; rfl
 show [dmRow sR 0, dmRow sR 1, dmRow sR 2, dmRow sR 3] = _
 rw [e0, e1, e2, e3]
theorem sR_x : (canonR [unS sR 0 [0, 1, 2], unS sR 1 [1, 2], [(3, 3)], []]).1 = sX := by kernel_rfl
theorem sR_q : (canonR (tlOut (clsN [0, 1, 2, 3]) (ixS [0, 1, 2, 3] sR.length).2 sR sR.length)).1 = sR := by kernel_rfl
theorem sdia_fc : FC Tryz.prog 46 [aLts sR] [] (fun r o => o = [.r ⟨25, 1, false, [.t 1 (tRows sX)]⟩] ∧ r = .tup [.g [.t 1 (tRows sX)], .c (.v (.int .i64 0))]) :=
 (dia_fc sR sR_val (by decide) (by decide) (by decide)).mono fun r o ⟨D, hD, hL, q, hq, h⟩ => by
  rw [sR_D hD hL] at hq
  have hq1 : q.1 = sR := by rw [hq]; exact sR_q
  rw [hq1, sR_dm, sR_x, diaO, if_pos (by decide)] at h
  exact h
set_option maxHeartbeats 2000000 in
theorem sane28d_fc : FC Tryz.prog 24 [] [] (fun r _ => r = .b true) := by
 refine fc_intro Tryz.func24 rfl (by rw [Tryz.ntmps24]; simp) ?_
 rw [Tryz.ntmps24]
 simp only [enum]
 have hsd := sdia_fc
 have hsm := same_fc sX (by decide) (by decide)
 simp only [aLts] at hsd hsm
 (refine wks0 ?_; (repeat clear hK K); repeat (refine Kq.mk ?_; intro K hK))
 refine lst_le (le_sink (r := ⟨40, 2, true, cArcs [(0, 1)]⟩) (ts := tArcs [(0, 1)]) 3 0 0 1 (by decide) rfl rfl rfl rfl (show 0 < 2 by omega) rfl (fz_ca _)) ?_
 simp only [go_sem]
 refine lst_le (le_sink (r := ⟨40, 2, true, cArcs [(0, 2), (2, 3)]⟩) (ts := tArcs [(0, 2), (2, 3)]) 3 1 1 2 (by decide) rfl rfl rfl rfl (show 0 < 2 by omega) rfl (fz_ca _)) ?_
 simp only [go_sem]
 refine lst_le (le_sink (r := ⟨40, 2, true, cArcs [(3, 3)]⟩) (ts := tArcs [(3, 3)]) 3 2 2 1 (by decide) rfl rfl rfl rfl (show 0 < 2 by omega) rfl (fz_ca _)) ?_
 simp only [go_sem]
 refine lst_le (le_nt 3 [2, 2, 2, 2] rfl) ?_
 simp only [ntA, otC, go_sem]
 (refine lst_le (le_frz (r := ⟨29, 1, true, cRows sR⟩) 3 (tRows sR) rfl (fz_cr _) (show 0 < (1 : Nat) by omega)) ?_; simp only [ST.frz, A0.frz, AV.frz, C.frz, Nat.le_refl, List.set_cons_zero, List.set_cons_succ, go_sem, show (tRows sR).take 4 = tRows sR from rfl])
 (refine ckz hsd ?_; intro K1 hK1)
 rintro _ _ ⟨rfl, rfl⟩
 (refine bkz ?_; clear hK1 K1)
 (refine wks0 ?_; (repeat clear hK K); repeat (refine Kq.mk ?_; intro K hK))
 refine lst_le (le_sink (r := ⟨40, 2, true, cArcs [(0, 1), (2, 2), (3, 2)]⟩) (ts := tArcs [(0, 1), (2, 2), (3, 2)]) 9 0 7 3 (by decide) rfl rfl rfl rfl (show 0 < 2 by omega) rfl (fz_ca _)) ?_
 simp only [go_sem]
 refine lst_le (le_sink (r := ⟨40, 2, true, cArcs [(3, 2)]⟩) (ts := tArcs [(3, 2)]) 9 1 8 1 (by decide) rfl rfl rfl rfl (show 0 < 2 by omega) rfl (fz_ca _)) ?_
 simp only [go_sem]
 refine lst_le (le_nt 9 [2, 2, 2] rfl) ?_
 simp only [ntA, otC, go_sem]
 (refine lst_le (le_frz (r := ⟨29, 1, true, cRows sX⟩) 9 (tRows sX) rfl (fz_cr _) (show 0 < (1 : Nat) by omega)) ?_; simp only [ST.frz, A0.frz, AV.frz, C.frz, Nat.le_refl, List.set_cons_zero, List.set_cons_succ, go_sem, show (tRows sX).take 3 = tRows sX from rfl, show (if 3 ≤ (tRows sX).length then C.t 1 (tRows sX) else C.u) = C.t 1 (tRows sX) from rfl])
 (refine lst_goU rfl rfl (by simp only [go_sem] <;> rfl) ?_; intro K1 hK1; refine (stp_call0 (ids := []) (hsm) rfl rfl (by simp only [go_sem]) (by kernel_rfl) (by (simp only [List.append_nil, go_sem]) <;> rfl) ?_).stp)
 rintro _ _ ⟨rfl, rfl⟩
 (refine bkz ?_; clear hK1 K1)
 (refine wk0 ?_; (repeat clear hK K); repeat (refine Kq.mk ?_; intro K hK))
 ((try refine aw_ret ?_); (try refine lst_nil ?_); (try simp only [ThenA, InBl]); refine ret_mk (by first | exact .inl rfl | exact .inr rfl) rfl ?_; simp only [rtn, resA, resL, resV, Tryz.results24, go_sem])
end Go.Proofs.YthlckclbjknldaaGreat
