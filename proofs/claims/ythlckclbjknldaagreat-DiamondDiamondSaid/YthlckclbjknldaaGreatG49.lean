/- ref23.Canonical. -/
import Derived.Test.YthlckclbjknldaaGreatZk
import Derived.Test.YthlckclbjknldaaGreatTl1
import Derived.Test.YthlckclbjknldaaGreatG43
import Derived.Test.YthlckclbjknldaaGreatMnil
namespace Go.Proofs.YthlckclbjknldaaGreat
set_option linter.unusedVariables false
set_option linter.unusedSimpArgs false
open Go.RowKit
set_option maxRecDepth 100000
attribute [local go_sem] List.set_cons_zero List.set_cons_succ List.map_cons List.map_nil List.take_succ_cons List.take_zero List.drop_zero List.drop_succ_cons C.pl C.one List.all_cons List.all_nil Bool.and_true Nat.mul_one Int.toNat_natCast

theorem rep_set {α : Type} (a b : α) (k m : Nat) : (List.replicate k a ++ List.replicate (m + 1) b).set k a = List.replicate (k + 1) a ++ List.replicate m b := by
 rw [List.set_append_right _ _ (by simp), List.length_replicate, Nat.sub_self, List.replicate_succ, List.set_cons_zero, List.replicate_succ' (n := k), List.append_assoc]; rfl
theorem foldI_snoc {r : List Ar} {k : Nat} (h : k < r.length) : (r.take (k + 1)).foldl (fun acc a => insA a acc) [] = insA r[k] ((r.take k).foldl (fun acc a => insA a acc) []) := by
 rw [List.take_succ_eq_append_getElem h, List.foldl_append]; rfl
theorem foldI_len (r : List Ar) (k : Nat) : ((r.take k).foldl (fun acc a => insA a acc) []).length ≤ k := by
 have := len_foldl_ins (r.take k) []
 simp only [List.length_nil, Nat.zero_add, List.length_take] at this
 omega
set_option maxHeartbeats 8000000 in
theorem canonX_fc (R : List (List Ar)) (h1 : 1 ≤ R.length) (hbd : ∀ r ∈ R, ∀ a ∈ r, 0 ≤ a.2 ∧ a.2 < (R.length : Int)) (hn : R.length ≤ 1000000) (hr : ∀ r ∈ R, r.length ≤ 1000000) : FC Tryz.prog 76 [aLts R] [] (fun r o => o = [.r ⟨25, 1, false, [.t 1 (tRows (canonR R).1)]⟩] ∧ r = .tup [.g [.t 1 (tRows (canonR R).1)], .c (.t 1 (tInts (canonR R).2))]) := by
 refine fc_intro Tryz.func76 rfl (by rw [Tryz.ntmps76]; simp) ?_
 rw [Tryz.ntmps76]
 simp only [enum, aLts]
 (refine wk1 @tRows_len ?_; (repeat clear hK K); repeat (refine Kq.mk ?_; intro K hK))
 have e0 : List.replicate R.length (C.v (.int .i64 0)) = cInts (List.replicate R.length 0) := by simp [cInts]
 rw [e0]
 refine aw_loop (fun k : Nat => { tm := [(1, .a (.c (.p 0 0))), (2, .a (.c (.p 1 0))), (4, .a (.c (.s 2 R.length))), (5, .i k)], hp := [.r ⟨25, 1, false, [.t 1 (tRows R)]⟩, .r ⟨25, 1, false, [.v (.slice none 0 0)]⟩, .r ⟨3, 1, true, cInts (List.replicate k (-1) ++ List.replicate (R.length - k) 0)⟩], n := 117, pin := 0 }) (fun k => k ≤ R.length) (fun k => R.length - k) 0 ?_ ?_ ?_
 ·omega
 ·simp only [List.replicate_zero, List.nil_append, Nat.sub_zero]
  exact lmz
 ·rintro k hk K hK
  by_cases hlt : k < R.length
  ·have d1 : decide ((k : Int) < (R.length : Int)) = true := by simpa using hlt
   obtain ⟨m, hm⟩ : ∃ m, R.length - k = m + 1 := ⟨R.length - k - 1, by omega⟩
   have hm2 : R.length - (k + 1) = m := by omega
   have hl : (List.replicate k (-1 : Int) ++ List.replicate (m + 1) 0).length = R.length := by simp; omega
   rw [hm]
   (refine wk1 (an @d1 (an @cInts_len @hl)) ?_; (repeat clear hK K); repeat (refine Kq.mk ?_; intro K hK))
   refine cxz ?_
   (refine wks1 (an @cInts_len (an @hl (an @cInts_set @rep_set))) ?_; (repeat clear hK K); repeat (refine Kq.mk ?_; intro K hK))
   refine rnz ?_
   refine hK _ (k + 1) (by omega) (by omega) ?_
   rw [hm2]
   exact lmz
  ·have d1 : decide ((k : Int) < (R.length : Int)) = false := by simpa using hlt
   have hke : k = R.length := by omega
   rw [hke] at d1
   have e1 : List.replicate R.length (-1 : Int) ++ List.replicate (R.length - R.length) 0 = List.replicate R.length (-1) := by simp
   have hlr : (List.replicate R.length (-1 : Int)).length = R.length := by simp
   rw [hke, e1]
   (refine wk1 (an @d1 (an @cInts_len @hlr)) ?_; (repeat clear hK K); repeat (refine Kq.mk ?_; intro K hK))
   refine cyz ?_
   (refine ekz ?_; repeat clear hK K)
   have g0 : 0 < (List.replicate R.length (-1 : Int)).length := by simp; omega
   (refine wks1 (an @cInts_len (an @hlr @cInts_set)) ?_; (repeat clear hK K); repeat (refine Kq.mk ?_; intro K hK))
   refine aw_le (le_new 29 1) ?_
   simp only [List.cons_append, List.nil_append]
   refine aw_le (le_cell 4 0 5 (by decide) rfl rfl rfl) ?_
   simp only [List.set_cons_zero, List.set_cons_succ]
   refine aw_loop (fun x : Nat × List Int × List Int × List (List Ar) => { tm := [(1, .a (.c (.p 0 0))), (2, .a (.c (.p 1 0))), (4, .a (.c (.s 2 R.length))), (6, .a (.c (.s 3 x.2.2.1.length))), (7, .a (.c (.p 4 0))), (8, .i x.1)], hp := [.r ⟨25, 1, false, [.t 1 (tRows R)]⟩, .r ⟨25, 1, false, [.v (.slice none 0 0)]⟩, .r ⟨3, 1, true, cInts x.2.1⟩, .r ⟨3, 1, true, cInts x.2.2.1⟩, .r ⟨25, 1, false, [.s 5 x.1]⟩, .r ⟨29, 1, true, cRows x.2.2.2⟩], n := 117, pin := 0 }) (fun x => NumOk R.length x.2.1 x.2.2.1 ∧ canGo R (R.length - x.1) x.1 x.2.1 x.2.2.1 x.2.2.2 = canonR R ∧ x.1 ≤ x.2.2.1.length ∧ x.2.2.2.length = x.1) (fun x => R.length - x.1) (0, (List.replicate R.length (-1)).set 0 0, [0], []) ?_ ?_ ?_
   ·exact ⟨NumOk.start h1, rfl, by simp, rfl⟩
   ·exact lmz
   ·rintro ⟨i, num, old, out⟩ ⟨hN, hC, hio, hoi⟩ K hK
    simp only at hN hC hio hoi
    have hlen := hN.len
    have hle := hN.le
    by_cases hlt2 : i < old.length
    ·have d2 : decide ((i : Int) < (old.length : Int)) = true := by simpa using hlt2
     have hs0 := hN.st _ (List.getElem_mem hlt2)
     obtain ⟨sn, hsn⟩ : ∃ sn : Nat, old[i] = sn := ⟨old[i].toNat, by omega⟩
     have hsl : sn < R.length := by omega
     have go : (cInts old)[i]? = some (.v (.int .i64 sn)) := by rw [← hsn]; exact cInts_get (List.getElem?_eq_getElem hlt2)
     have hgR := List.getElem?_eq_getElem hsl
     have hrl := hr _ (List.getElem_mem hsl)
     have hbr := hbd _ (List.getElem_mem hsl)
     have hst := canGo_step (rows := R) (n := R.length) (i := i) (num := num) (old := old) (out := out) (s := (sn : Int)) (r := R[sn]) (by omega) (by rw [List.getElem?_eq_getElem hlt2, hsn]) (by simp [hgR]) rfl
     generalize hrr : R[sn] = r at *
     (refine wk1 (an @d2 @cInts_len) ?_; (repeat clear hK K); repeat (refine Kq.mk ?_; intro K hK))
     refine cxz ?_
     (refine wk0 ?_; (repeat clear hK K); repeat (refine Kq.mk ?_; intro K hK))
     refine aw_le (le_nilt 9 2 ?_) ?_
     ·simp only [go_sem]
     refine aw_loop (fun k : Nat => { tm := [(1, .a (.c (.p 0 0))), (2, .a (.c (.p 1 0))), (4, .a (.c (.s 2 R.length))), (6, .a (.c (.s 3 old.length))), (7, .a (.c (.p 4 0))), (8, .i i), (9, .a (.c (.t 2 (tArcs ((r.take k).foldl (fun acc a => insA a acc) []))))), (10, .i k)], hp := [.r ⟨25, 1, false, [.t 1 (tRows R)]⟩, .r ⟨25, 1, false, [.v (.slice none 0 0)]⟩, .r ⟨3, 1, true, cInts num⟩, .r ⟨3, 1, true, cInts old⟩, .r ⟨25, 1, false, [.s 5 i]⟩, .r ⟨29, 1, true, cRows out⟩], n := 117, pin := 0 }) (fun k => k ≤ r.length) (fun k => r.length - k) 0 ?_ ?_ ?_
     ·omega
     ·simp only [List.take_zero, List.foldl_nil, show tArcs ([] : List (Int × Int)) = [] from rfl]
      exact lmz
     ·rintro k hk K hK
      by_cases hlt3 : k < r.length
      ·have d3 : decide ((k : Int) < (r.length : Int)) = true := by simpa using hlt3
       have hat := tArcs_at hlt3
       have hsn3 := foldI_snoc hlt3
       have hfl := foldI_len r k
       generalize (r.take k).foldl (fun acc a => insA a acc) [] = rk at *
       (refine wk0 ?_; (repeat clear hK K); repeat (refine Kq.mk ?_; intro K hK))
       (refine aw_regionU 10 [(0, 0), (1, 0), (2, 1), (3, 0), (4, 0), (5, 0), (6, 1), (7, 0), (8, 1), (9, 0), (10, 2)] (by kernel_rfl) (by kernel_rfl) (by intro c st h; simp [ThenA, InBl, Ret] at h) ?_)
       (refine uk1 (an @tRows_len (an (tRows_get hgR) (an @cInts_len (an @go (an @tArcs_len (an @half2 @d3)))))) ?_; repeat clear hK K)
       refine cxz ?_
       (refine wk0 ?_; (repeat clear hK K); repeat (refine Kq.mk ?_; intro K hK))
       (refine aw_regionU 12 [(0, 0), (1, 0), (2, 1), (3, 0), (4, 0), (5, 0), (6, 1), (7, 0), (8, 1), (9, 0), (10, 0), (11, 1), (12, 2), (13, 0)] (by kernel_rfl) (by kernel_rfl) (by intro c st h; simp [ThenA, InBl, Ret] at h) ?_)
       (refine uk1 (an @tRows_len (an (tRows_get hgR) (an @cInts_len (an @go (an @tArcs_len (an @half2 @hat)))))) ?_; repeat clear hK K)
       (refine uckz (insT_fc rk r[k] (by omega)) ?_; intro K1 hK1)
       rintro _ _ ⟨rfl, rfl⟩
       (simp only [aInts, aSets, aArcs, List.append_nil, List.nil_append, List.length_map, go_sem]; refine hK1 _ ?_; clear hK1 K1)
       (refine uk0 ?_; repeat clear hK K)
       (refine wk0 ?_; (repeat clear hK K); repeat (refine Kq.mk ?_; intro K hK))
       refine rnz ?_
       refine hK _ (k + 1) (by omega) (by omega) ?_
       rw [hsn3]
       exact lmz
      ·have d3 : decide ((k : Int) < (r.length : Int)) = false := by simpa using hlt3
       have hq0 : (r.take k).foldl (fun acc a => insA a acc) [] = rowOf r := by rw [List.take_of_length_le (by omega)]; rfl
       rw [hq0]
       (refine wk0 ?_; (repeat clear hK K); repeat (refine Kq.mk ?_; intro K hK))
       (refine aw_regionU 10 [(0, 0), (1, 0), (2, 1), (3, 0), (4, 0), (5, 0), (6, 1), (7, 0), (8, 1), (9, 0), (10, 2)] (by kernel_rfl) (by kernel_rfl) (by intro c st h; simp [ThenA, InBl, Ret] at h) ?_)
       (refine uk1 (an @tRows_len (an (tRows_get hgR) (an @cInts_len (an @go (an @tArcs_len (an @half2 @d3)))))) ?_; repeat clear hK K)
       refine cyz ?_
       (refine ekz ?_; repeat clear hK K)
       have hqb : ∀ a ∈ rowOf r, 0 ≤ a.2 ∧ a.2 < (R.length : Int) := fun a ha => by
        rw [mem_rowOf] at ha
        exact hbr a ha
       have hql := len_rowOf r
       generalize hqd : rowOf r = q at *
       (refine wk0 ?_; (repeat clear hK K); repeat (refine Kq.mk ?_; intro K hK))
       refine aw_le (le_nilt 11 2 ?_) ?_
       ·simp only [go_sem]
       refine aw_loop (fun x : Nat × List Int × List Int × List Ar => { tm := [(1, .a (.c (.p 0 0))), (2, .a (.c (.p 1 0))), (4, .a (.c (.s 2 R.length))), (6, .a (.c (.s 3 x.2.2.1.length))), (7, .a (.c (.p 4 0))), (8, .i i), (9, .a (.c (.t 2 (tArcs q)))), (11, .a (.c (.t 2 (tArcs x.2.2.2)))), (12, .i x.1)], hp := [.r ⟨25, 1, false, [.t 1 (tRows R)]⟩, .r ⟨25, 1, false, [.v (.slice none 0 0)]⟩, .r ⟨3, 1, true, cInts x.2.1⟩, .r ⟨3, 1, true, cInts x.2.2.1⟩, .r ⟨25, 1, false, [.s 5 i]⟩, .r ⟨29, 1, true, cRows out⟩], n := 117, pin := 0 }) (fun x => x.1 ≤ q.length ∧ NumOk R.length x.2.1 x.2.2.1 ∧ old.length ≤ x.2.2.1.length ∧ x.2.2.2.length ≤ x.1 ∧ rowGo (q.drop x.1) x.2.1 x.2.2.1 x.2.2.2 = rowGo q num old []) (fun x => q.length - x.1) (0, num, old, []) ?_ ?_ ?_
       ·exact ⟨by simp, hN, Nat.le_refl _, by simp, rfl⟩
       ·simp only [show tArcs ([] : List (Int × Int)) = [] from rfl]
        exact lmz
       ·rintro ⟨k, num1, old1, nxt⟩ ⟨hk, hN1, hol, hnl, hgo⟩ K hK
        simp only at hk hN1 hol hnl hgo
        have hlen1 := hN1.len
        have hle1 := hN1.le
        by_cases hlt4 : k < q.length
        ·have d4 : decide ((k : Int) < (q.length : Int)) = true := by simpa using hlt4
         have hyb := hqb _ (List.getElem_mem hlt4)
         obtain ⟨e, tn, hya⟩ : ∃ (e : Int) (tn : Nat), q[k] = (e, (tn : Int)) := ⟨q[k].1, q[k].2.toNat, by
          have : (q[k].2.toNat : Int) = q[k].2 := by omega
          rw [this]⟩
         have htl : tn < R.length := by rw [hya] at hyb; have := hyb.2; simp only at this; omega
         have ha0 := tArcs_c0 hlt4
         have ha1 := tArcs_c1 hlt4
         rw [hya] at ha0 ha1
         have gn : (cInts num1)[tn]? = some (.v (.int .i64 num1[tn])) := cInts_get (List.getElem?_eq_getElem (by omega))
         have gn2 : num1[tn]? = some num1[tn] := List.getElem?_eq_getElem (by omega)
         have hdr : q.drop k = (e, (tn : Int)) :: q.drop (k + 1) := by rw [List.drop_eq_getElem_cons hlt4, hya]
         (refine wk1 (an @d4 (an @tArcs_len @half2)) ?_; (repeat clear hK K); repeat (refine Kq.mk ?_; intro K hK))
         refine cxz ?_
         by_cases hx : num1[tn] < 0
         ·have d5 : decide (num1[tn] < 0) = true := by simpa using hx
          have gs : (cInts (num1.set tn (old1.length : Int)))[tn]? = some (.v (.int .i64 (old1.length : Int))) := cInts_get (List.getElem?_set_self (by omega))
          have op := old_push old1 (tn : Int)
          (refine wks1 (an @ha1 (an @tArcs_len (an @half2 (an @gn (an @d5 (an @cInts_len @hlen1)))))) ?_; (repeat clear hK K); repeat (refine Kq.mk ?_; intro K hK))
          refine cxz ?_
          (refine wks1 (an @ha1 (an @tArcs_len (an @half2 (an @cInts_len (an @hlen1 (an @cInts_set (an @op @List.length_set.{0}))))))) ?_; (repeat clear hK K); repeat (refine Kq.mk ?_; intro K hK))
          (refine aw_regionU 15 [(0, 0), (1, 0), (2, 0), (3, 0), (4, 0), (5, 1), (6, 0), (7, 0), (8, 0), (9, 0), (10, 0), (11, 1), (12, 0), (13, 1), (14, 0), (15, 2), (16, 0)] (by kernel_rfl) (by kernel_rfl) (by intro c st h; simp [ThenA, InBl, Ret] at h) ?_)
          (refine uk1 (an @ha0 (an @ha1 (an @tArcs_len (an @half2 (an @cInts_len (an @hlen1 (an @gs @List.length_set.{0}))))))) ?_; repeat clear hK K)
          (refine uckz (insT_fc nxt (e, (old1.length : Int)) (by omega)) ?_; intro K1 hK1)
          rintro _ _ ⟨rfl, rfl⟩
          (simp only [aInts, aSets, aArcs, List.append_nil, List.nil_append, List.length_map, go_sem]; refine hK1 _ ?_; clear hK1 K1)
          (refine uk0 ?_; repeat clear hK K)
          (refine wk0 ?_; (repeat clear hK K); repeat (refine Kq.mk ?_; intro K hK))
          refine rnz ?_
          have hone : numOne num1 old1 (tn : Int) = (num1.set tn (old1.length : Int), old1 ++ [(tn : Int)]) := by
           simp only [numOne, Int.toNat_natCast, List.getD, gn2, Option.getD_some, if_pos hx]
          have hN2 := hN1.one (t := (tn : Int)) (by omega) (by omega)
          rw [hone] at hN2
          have hin := insA_len (e, (old1.length : Int)) nxt
          refine hK _ (k + 1, num1.set tn (old1.length : Int), old1 ++ [(tn : Int)], insA (e, (old1.length : Int)) nxt) ⟨hlt4, hN2, by simp; omega, by simp only; omega, by simp only; rw [← hgo, hdr, rowGo_neg gn2 hx rfl]⟩ (by simp only; omega) ?_
          refine Le.trans (le_pick [0, 1, 2, 7, 4, 5] rfl rfl) ?_
          (try simp only [List.set_nil, List.take_nil, List.take_zero, List.map_append, go_sem])
          (try simp only [cInts_ren, cRows_ren])
          simp only [List.length_append, List.length_cons, List.length_nil]
          exact lmz
         ·have d5 : decide (num1[tn] < 0) = false := by simpa using hx
          (refine wks1 (an @ha1 (an @tArcs_len (an @half2 (an @gn (an @d5 (an @cInts_len @hlen1)))))) ?_; (repeat clear hK K); repeat (refine Kq.mk ?_; intro K hK))
          refine cyz ?_
          (refine wk0 ?_; (repeat clear hK K); repeat (refine Kq.mk ?_; intro K hK))
          (refine aw_regionU 15 [(0, 0), (1, 0), (2, 0), (3, 0), (4, 0), (5, 1), (6, 0), (7, 0), (8, 0), (9, 0), (10, 0), (11, 1), (12, 0), (13, 1), (14, 0), (15, 2), (16, 0)] (by kernel_rfl) (by kernel_rfl) (by intro c st h; simp [ThenA, InBl, Ret] at h) ?_)
          (refine uk1 (an @ha0 (an @ha1 (an @tArcs_len (an @half2 (an @cInts_len (an @hlen1 @gn)))))) ?_; repeat clear hK K)
          (refine uckz (insT_fc nxt (e, num1[tn]) (by omega)) ?_; intro K1 hK1)
          rintro _ _ ⟨rfl, rfl⟩
          (simp only [aInts, aSets, aArcs, List.append_nil, List.nil_append, List.length_map, go_sem]; refine hK1 _ ?_; clear hK1 K1)
          (refine uk0 ?_; repeat clear hK K)
          (refine wk0 ?_; (repeat clear hK K); repeat (refine Kq.mk ?_; intro K hK))
          refine rnz ?_
          have hin := insA_len (e, num1[tn]) nxt
          refine hK _ (k + 1, num1, old1, insA (e, num1[tn]) nxt) ⟨hlt4, hN1, hol, by simp only; omega, by simp only; rw [← hgo, hdr, rowGo_pos gn2 hx]⟩ (by simp only; omega) ?_
          exact lmz
        ·have d4 : decide ((k : Int) < (q.length : Int)) = false := by simpa using hlt4
         rw [List.drop_of_length_le (by omega)] at hgo
         rw [← hgo] at hst
         simp only [rowGo] at hst
         (refine wk1 (an @d4 (an @tArcs_len @half2)) ?_; (repeat clear hK K); repeat (refine Kq.mk ?_; intro K hK))
         refine cyz ?_
         (refine ekz ?_; repeat clear hK K)
         have crp := cRows_push out nxt hoi
         (refine wks1 (an @cRows_len (an @hoi @crp)) ?_; (repeat clear hK K); repeat (refine Kq.mk ?_; intro K hK))
         refine rnz ?_
         refine hK _ (i + 1, num1, old1, out ++ [nxt]) ⟨hN1, by simp only; rw [← hC, hst], by simp only; omega, by simp [hoi]⟩ (by simp only; omega) ?_
         refine Le.trans (le_pick [0, 1, 2, 3, 4, 7] rfl rfl) ?_
         (try simp only [List.set_nil, List.take_nil, List.take_zero, List.map_append, go_sem])
         (try simp only [cInts_ren, cRows_ren])
         exact lmz
    ·have d2 : decide ((i : Int) < (old.length : Int)) = false := by simpa using hlt2
     have hfin : canonR R = (out, old) := by rw [← hC]; exact canGo_stop (by omega)
     (refine wk1 (an @d2 @cInts_len) ?_; (repeat clear hK K); repeat (refine Kq.mk ?_; intro K hK))
     refine cyz ?_
     (refine ekz ?_; repeat clear hK K)
     have htk : (tRows out).take i = tRows out := List.take_of_length_le (by rw [tRows_len]; omega)
     have htk2 : (tInts old).take old.length = tInts old := List.take_of_length_le (by rw [tInts_len]; exact Nat.le_refl _)
     refine aw_le (le_sink (r := ⟨29, 1, true, cRows out⟩) (ri := ⟨25, 1, false, [.s 5 i]⟩) (ts := tRows out) 4 0 5 i (by decide) rfl rfl rfl rfl (show 0 < 1 by omega) (by simp only [cRows_len, hoi]; omega) (fz_cr _)) ?_
     simp only [go_sem]
     refine aw_le (le_ot 4 rfl) ?_
     simp only [otC, go_sem]
     (refine aw_le (le_frz (r := ⟨3, 1, true, cInts old⟩) 3 (tInts old) rfl (fz_c _) (show 0 < (1 : Nat) by omega)) ?_; simp only [ST.frz, A0.frz, AV.frz, C.frz, Nat.le_refl, List.set_cons_zero, List.set_cons_succ, go_sem, htk2, tInts_len])
     (refine wks0 ?_; (repeat clear hK K); repeat (refine Kq.mk ?_; intro K hK))
     ((try refine aw_ret ?_); (try simp only [ThenA, InBl]); refine ret_le (le_pick [1] rfl rfl) ?_; (try simp only [List.set_nil, List.take_nil, List.take_zero, List.map_append, go_sem]); ((try refine aw_ret ?_); (try refine lst_nil ?_); (try simp only [ThenA, InBl]); refine ret_mk (by first | exact .inl rfl | exact .inr rfl) rfl ?_; simp only [rtn, resA, resL, resV, Tryz.results76, go_sem, true_and, and_true]))
     rw [hfin]
     exact ⟨rfl, rfl⟩
theorem canonR_fc (R : List (List Ar)) (hv : looB R = true) (hn : R.length ≤ 1000000) (hr : ∀ r ∈ R, r.length ≤ 1000000) : FC Tryz.prog 76 [aLts R] [] (fun r o => o = [.r ⟨25, 1, false, [.t 1 (tRows (canonR R).1)]⟩] ∧ r = .tup [.g [.t 1 (tRows (canonR R).1)], .c (.t 1 (tInts (canonR R).2))]) :=
 canonX_fc R (of_decide_eq_true hv).1 (fun r h a ha => by have := (of_decide_eq_true hv).2.2.2 r h a ha; exact ⟨this.2.2.1, this.2.2.2⟩) hn hr
end Go.Proofs.YthlckclbjknldaaGreat
