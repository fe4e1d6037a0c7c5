/- Lemmas. -/
import Derived.Test.YthnkailnoobdoaaDoorZk
import Derived.Test.YthnkailnoobdoaaDoorG67
import Derived.Test.YthnkailnoobdoaaDoorG68
import Derived.Test.YthnkailnoobdoaaDoorG49
import Derived.Test.YthnkailnoobdoaaDoorW07
import Derived.Test.YthnkailnoobdoaaDoorG51a
import Derived.Test.YthnkailnoobdoaaDoorTl3
import Derived.Test.YthnkailnoobdoaaDoorG72
import Derived.Test.YthnkailnoobdoaaDoorG12
namespace Go.Proofs.YthnkailnoobdoaaDoor
set_option linter.unusedVariables false
set_option linter.unusedSimpArgs false
open Go.RowKit
set_option maxRecDepth 100000
attribute [local go_sem] lga C.pl C.one

def WQ (x : List (List Ar)) (r : AV) (o : List Ob) : Prop :=
 if AA x <= 262144 then o = [.r ⟨27, 1, false, [.t 1 (Ao x)]⟩] /\ r = .tup [.g [.t 1 (Ao x)], .c (.v (.int .i64 0))]
 else o = [.r ⟨27, 1, false, [.v (.slice none 0 0)]⟩] /\ r = .tup [.g [.v (.slice none 0 0)], .c (.v (.int .i64 10))]
set_option maxHeartbeats 8000000 in
theorem SS (R : List (List Ar)) (cl : List Int) (hv : AR R = true) (hC : Ij cl R.length = true) (hn : R.length <= 1000000) (hr : ∀ r ∈ R, r.length <= 1000000) : FC Tryd.prog 18 [CC R, AC cl] [] (fun r o => ∃ B, DvL R B /\ WQ (AG (qR R cl B)).1 r o) := by
 refine Af Tryd.func18 rfl (by rw [Tryd.ntmps18]; simp) ?_
 rw [Tryd.ntmps18]
 simp only [C2, CC, AC]
 have hlo : Bd R = true := gEg (gE4 hv).1
 have h1 : 1 <= R.length := (gE4 hlo).1
 have hR16 : R.length <= 16384 := (gE4 hlo).2.1
 have htA : AA R <= 262144 := (gE4 hlo).2.2.1
 have hbd := (gE4 hlo).2.2.2
 obtain ⟨hCl, hmn, hcl, hmx⟩ := EX hC
 have hcl1 : 0 < cl.length := by omega
 have hmax : Is cl[0] cl + 1 = (WK cl : Int) := by
  have h0 : 0 <= cl[0] := by
   have := (hcl 0 (by omega)).2
   rw [gE1 hcl1] at this
   injection this with this
   omega
  rw [<- hmx]
  cases cl with
  | nil => simp at hcl1
  | cons x l => exact (P4 l h0).symm
 have hm1 : 1 <= WK cl := by have := (hcl 0 (by omega)).1; omega
 (refine UW ?_;(repeat clear hK K);repeat refine kq fun K hK=>?_)
 (refine V1 (Dz R (by omega) (fun r h => by have := hr r h; omega)) ?_; intro K1 hK1)
 rintro _ _ ⟨rfl, rfl⟩
 (refine V3 ?_; clear hK1 K1)
 (refine UX (an @hv (an @Bool.not_true @Ac)) ?_;(repeat clear hK K);repeat refine kq fun K hK=>?_)
 (refine CZ rfl rfl (by simp only [go_sem] <;> rfl) ?_; intro K1 hK1; refine (AQ (ids := []) (SQ cl R.length (by omega)) rfl rfl (by simp only [go_sem]) (by kernel_rfl) (by (simp only [List.append_nil, go_sem]) <;> rfl) ?_).stp)
 rintro _ _ ⟨rfl, rfl⟩
 (refine V3 ?_; clear hK1 K1)
 (refine UX (an @hC @Bool.not_true) ?_;(repeat clear hK K);repeat refine kq fun K hK=>?_)
 refine V5 ?_
 (refine UW ?_;(repeat clear hK K);repeat refine kq fun K hK=>?_)
 (refine V1 (Mx R hv hn hr) ?_; intro K1 hK1)
 rintro _ _ ⟨B, hB, rfl, rfl⟩
 (refine V3 ?_; clear hK1 K1)
 have hBl := hB.1
 have hB2 : ∀ s, s < R.length -> B[s]? = some (B.getD s false) := fun s hs => by rw [gE2, gE1 (by omega)]; rfl
 have hend : ∀ r o, WQ (AG (qR R cl B)).1 r o -> ∃ B, DvL R B /\ WQ (AG (qR R cl B)).1 r o := fun r o h => ⟨B, hB, h⟩
 (refine UW ?_;(repeat clear hK K);repeat refine kq fun K hK=>?_)
 (refine V1 (SR cl hcl1 (by omega)) ?_; intro K1 hK1)
 rintro _ _ ⟨rfl, rfl⟩
 (refine V3 ?_; clear hK1 K1)
 have hqR := P6 (B := B) hlo hC
 have hqe : qR R cl B = Dn (WN (WJ cl) (WK cl) B R.length) (BO (WJ cl) (WK cl) R R.length) (WK cl) := rfl
 rw [hqe] at hqR
 generalize Is cl[0] cl = mx at *
 generalize hm : WK cl = m at *
 generalize hf : WJ cl = f at *
 (refine UX (an @hmax @Ac) ?_;(repeat clear hK K);repeat refine kq fun K hK=>?_)
 have e1 : List.replicate m (C.o (2, 37) []) = AP (BO f m R 0) := by simp [AP, BO, Au]
 have e2 : List.replicate m (C.v (.bool false)) = Vz (WN f m B 0) := by
  have : WN f m B 0 = List.replicate m false := List.ext_getElem (by simp [WN]) fun i h1 h2 => by simp [WN]
  rw [this]; simp [Vz]
 rw [e1, e2]
 have hfm : ∀ v, v < R.length -> f v < m := fun v hv => (hcl v hv).1
 refine Ab (fun s : Nat => { tm := [(1, .a (.c (.t 1 (Ad cl)))), (2, .a (.c (.p 0 0))), (4, .a (.c (.p 1 0))), (6, .a (.c (.t 1 (W3 B)))), (7, .a (.c (.s 2 m))), (8, .a (.c (.s 3 m))), (40, .a (.c (.t 1 (Ao R)))), (41, .i R.length), (42, .i s)], hp := [.r ⟨27, 1, false, [.t 1 (Ao R)]⟩, .r ⟨27, 1, false, [.v (.slice none 0 0)]⟩, .r ⟨38, 1, true, AP (BO f m R s)⟩, .r ⟨4, 1, true, Vz (WN f m B s)⟩], n := 130, pin := 0 }) (fun s => s <= R.length) (fun s => R.length - s) 0 ?_ ?_ ?_
 ·omega
 ·exact V7
 rintro s hs K hK
 by_cases hlt : s < R.length
 rotate_left
 ·have d1 : decide ((s : Int) < (R.length : Int)) = false := by simpa using hlt
  have hse : s = R.length := by omega
  rw [hse] at d1
  rw [hse]
  (refine UX @d1 ?_;(repeat clear hK K);repeat refine kq fun K hK=>?_)
  refine V5 ?_
  (refine V0 ?_;repeat clear hK K)
  have hLl := EM f m B R.length
  have hOl := CT f m R R.length
  have hOt := Gc f m R R.length (Nat.le_refl _)
  rw [List.take_length] at hOt
  generalize WN f m B R.length = L at *
  generalize BO f m R R.length = O at *
  (refine AO (C8 (r := ⟨4, 1, true, Vz L⟩) 3 (W3 L) rfl (Oz _) (show 0 < (1 : Nat) by omega)) ?_; simp only [ST.frz, A0.frz, AV.frz, C.frz, Nat.le_refl, List.set_cons_zero, List.set_cons_succ, go_sem, show (W3 L).take m = W3 L from gE7 (by rw [Bz]; omega), Bz, hLl])
  (refine UX (an @Bz @hLl) ?_;(repeat clear hK K);repeat refine kq fun K hK=>?_)
  refine AO (Ae [1, 2] rfl rfl) ?_
  (try simp only [List.set_nil, List.take_nil, List.take_zero, List.map_append, go_sem])
  (try simp only [BR])
  refine Ab (fun k : Nat => { tm := [(4, .a (.c (.p 0 0))), (7, .a (.c (.s 1 m))), (101, .a (.c (.t 1 (W3 L)))), (102, .i m), (103, .i k)], hp := [.r ⟨27, 1, false, [.v (.slice none 0 0)]⟩, .r ⟨38, 1, true, AP (Dn L O k)⟩], n := 130, pin := 0 }) (fun k => k <= m) (fun k => m - k) 0 ?_ ?_ ?_
  ·omega
  ·simp only [Dn]
   exact V7
  rintro k hk K hK
  by_cases hlk : k < m
  rotate_left
  ·have d2 : decide ((k : Int) < (m : Int)) = false := by simpa using hlk
   have hke : k = m := by omega
   rw [hke] at d2
   rw [hke]
   (refine UX @d2 ?_;(repeat clear hK K);repeat refine kq fun K hK=>?_)
   refine V5 ?_
   (refine V0 ?_;repeat clear hK K)
   obtain ⟨hql, hqb, hqt⟩ := hqR
   generalize Dn L O m = T at *
   have hrT : ∀ r ∈ T, r.length <= 1000000 := fun r hr0 => by
    obtain ⟨j, hj, rfl⟩ := List.getElem_of_mem hr0
    have h := DB T j
    rw [gE2, gE1 hj, Option.getD_some] at h
    omega
   have hco := Nf T (by omega) (fun r hr0 a ha => by have := hqb r hr0 a ha; exact ⟨this.2.2.1, this.2.2.2⟩) (by omega) hrT
   generalize hxe : (AG T).1 = x at *
   refine AO (FB 1 rfl) ?_
   simp only [Mw, go_sem]
   have htk : (Ao T).take m = Ao T := gE7 (by rw [Ac]; omega)
   (refine AO (C8 (r := ⟨38, 1, true, Bm T⟩) 1 (Ao T) rfl (KH _) (show 0 < (1 : Nat) by omega)) ?_; simp only [ST.frz, A0.frz, AV.frz, C.frz, Nat.le_refl, List.set_cons_zero, List.set_cons_succ, go_sem, htk, Ac, hql])
   (refine UW ?_;(repeat clear hK K);repeat refine kq fun K hK=>?_)
   (refine V1 hco ?_; intro K1 hK1)
   intro r0 o0 h0
   by_cases ht : AA x <= 262144
   ·rw [WP, if_pos ht] at h0
    obtain ⟨rfl, rfl⟩ := h0
    (refine V3 ?_; clear hK1 K1)
    (refine D1 @Bool.not_true ?_;(repeat clear hK K);repeat refine kq fun K hK=>?_)
    refine V5 ?_
    (refine Pv ?_;(repeat clear hK K);repeat refine kq fun K hK=>?_)
    refine V8 [0] Tryd.results18 ?_
    refine hend _ _ ?_
    rw [hqe, hxe, WQ, if_pos ht]
    exact ⟨rfl, rfl⟩
   rw [WP, if_neg ht] at h0
   obtain ⟨rfl, rfl⟩ := h0
   (refine V3 ?_; clear hK1 K1)
   (refine D1 @Bool.not_false ?_;(repeat clear hK K);repeat refine kq fun K hK=>?_)
   refine V4 ?_
   (refine Pv ?_;(repeat clear hK K);repeat refine kq fun K hK=>?_)
   refine V8 [0] Tryd.results18 ?_
   refine hend _ _ ?_
   rw [hqe, hxe, WQ, if_neg ht]
   exact ⟨rfl, rfl⟩
  have d2 : decide ((k : Int) < (m : Int)) = true := by simpa using hlk
  have gL : (W3 L)[k]? = some (.v (.bool (L.getD k false))) := Hc (by rw [gE2, gE1 (by omega)]; rfl)
  have hol := Ga L O k
  have hot := Im L O k
  have hsn : Dn L O (k + 1) = Ct (WM (L.getD k false) k) k (Dn L O k) := rfl
  rw [hOl] at hol
  generalize Dn L O k = o at *
  have hrw := DB o k
  have hgo : o[k]? = some (o.getD k []) := by
   rw [gE2, gE1 (by omega)]; rfl
  cases hb : L.getD k false with
  | true =>
   rw [hb] at gL hsn
   have hA : Ct (WM true k) k o = o.set k (o.getD k [] ++ [(0, (k : Int))]) := rfl
   generalize o.getD k [] = oc at *
   (refine UX @d2 ?_;(repeat clear hK K);repeat refine kq fun K hK=>?_)
   refine V4 ?_
   (refine UX (an @Bz (an @hLl @gL)) ?_;(repeat clear hK K);repeat refine kq fun K hK=>?_)
   refine V4 ?_
   (refine D1 (an @AB (an (BC hgo) (an @hol (an @C7 (an @List.length_set.{0} (an @List.set_cons_zero.{0} (an @List.set_cons_succ.{0} (an @List.take_succ_cons.{0} (an @List.take_zero.{0} (an @List.drop_zero.{0} (an @List.length_take.{0} (an @List.length_drop.{0} (an @List.length_append.{0} (an @A3 (an @AK (an @Bp (an @Dw (an @Df (an @Aj (an @FK (an @C4 (an @CK @CL)))))))))))))))))))))) ?_;(repeat clear hK K);repeat refine kq fun K hK=>?_)
   have hj6 : ((AP o).set k (C.s 3 (oc.length + 1)))[k]? = some (.s 3 (oc.length + 1)) := by rw [gEc (by rw [AB]; omega)]
   have hset6 : ((AP o).set k (C.s 3 (oc.length + 1))).set k (.o (2, 37) (Au (oc ++ [(0, (k : Int))]))) = AP (o.set k (oc ++ [(0, (k : Int))])) := by rw [C7, CO]
   refine V6 ?_
   refine hK _ (k + 1) (by omega) (by omega) ?_
   refine Le.trans (Be (r := ⟨37, 2, true, Am (oc ++ [(0, (k : Int))])⟩) (ri := ⟨38, 1, true, (AP o).set k (C.s 3 (oc.length + 1))⟩) (ts := Au (oc ++ [(0, (k : Int))])) 1 k 3 (oc.length + 1) (by decide) rfl hj6 rfl rfl (show 0 < 2 by omega) (by rw [Aj]; simp) (F3 _)) ?_
   simp only [hset6, go_sem]
   refine Le.trans (Ae [0, 1] rfl rfl) ?_
   (try simp only [List.set_nil, List.take_nil, List.take_zero, List.map_append, go_sem])
   (try simp only [BR])
   rw [hsn, hA]
   exact V7
  | false =>
   rw [hb] at gL hsn
   have hA : Ct (WM false k) k o = o := rfl
   (refine UX @d2 ?_;(repeat clear hK K);repeat refine kq fun K hK=>?_)
   refine V4 ?_
   (refine UX (an @Bz (an @hLl @gL)) ?_;(repeat clear hK K);repeat refine kq fun K hK=>?_)
   refine V5 ?_
   (refine UW ?_;(repeat clear hK K);repeat refine kq fun K hK=>?_)
   refine V6 ?_
   refine hK _ (k + 1) (by omega) (by omega) ?_
   rw [hsn, hA]
   exact V7
 have d1 : decide ((s : Int) < (R.length : Int)) = true := by simpa using hlt
 have hgR := gE1 hlt
 have hrl := hr _ (gE6 hlt)
 obtain ⟨hfs, hgs⟩ := hcl s hlt
 have gC := Ai hgs
 have gB := Hc (hB2 s hlt)
 have hlset := Rq (B := B) hfs
 have hll := EM f m B s
 have gL : (Vz (WN f m B s))[f s]? = some (.v (.bool ((WN f m B s).getD (f s) false))) := Qu (by rw [gE2, gE1 (by omega)]; rfl)
 have htot := Gc f m R s hs
 have hto := Cb hlt
 have htl3 := GX R (s + 1)
 have hbs := hbd _ (gE6 hlt)
 have htl : BO f m R (s + 1) = CS f (f s) (BO f m R s) R[s] := by
  rw [BO, gE2, hgR, Option.getD_some]
 generalize hrow : R[s] = row at *
 cases hlb : (WN f m B s).getD (f s) false with
 | true =>
  rw [hlb] at gL hlset
  rw [Bool.true_or] at hlset
  (refine UX @d1 ?_;(repeat clear hK K);repeat refine kq fun K hK=>?_)
  refine V4 ?_
  (refine D1 (an @Ac (an (Bl hgR) (an @A2 (an @hCl (an @gC (an @H6 (an @hll (an @gL (an @Bz (an @hBl (an @gB (an @H7 (an @hlset (an @A3 @AK)))))))))))))) ?_;(repeat clear hK K);repeat refine kq fun K hK=>?_)
  refine Ab (fun k : Nat => { tm := [(1, .a (.c (.t 1 (Ad cl)))), (2, .a (.c (.p 0 0))), (4, .a (.c (.p 1 0))), (6, .a (.c (.t 1 (W3 B)))), (7, .a (.c (.s 2 m))), (8, .a (.c (.s 3 m))), (9, .i s), (11, .i (f s)), (40, .a (.c (.t 1 (Ao R)))), (41, .i R.length), (42, .i s), (64, .a (.c (.t 2 (Au row)))), (65, .i row.length), (66, .i k)], hp := [.r ⟨27, 1, false, [.t 1 (Ao R)]⟩, .r ⟨27, 1, false, [.v (.slice none 0 0)]⟩, .r ⟨38, 1, true, AP (CS f (f s) (BO f m R s) (row.take k))⟩, .r ⟨4, 1, true, Vz (WN f m B (s + 1))⟩], n := 130, pin := 0 }) (fun k => k <= row.length) (fun k => row.length - k) 0 ?_ ?_ ?_
  ·omega
  ·simp only [List.take_zero, CS, List.foldl_nil]
   exact V7
  rintro k hk K hK
  by_cases hlt3 : k < row.length
  rotate_left
  ·have d3 : decide ((k : Int) < (row.length : Int)) = false := by simpa using hlt3
   have hke3 : row.take k = row := gE7 (by omega)
   rw [hke3, <- htl]
   (refine UX @d3 ?_;(repeat clear hK K);repeat refine kq fun K hK=>?_)
   refine V5 ?_
   (refine V0 ?_;repeat clear hK K)
   (refine UW ?_;(repeat clear hK K);repeat refine kq fun K hK=>?_)
   refine V6 ?_
   refine hK _ (s + 1) (by omega) (by omega) ?_
   exact V7
  have d3 : decide ((k : Int) < (row.length : Int)) = true := by simpa using hlt3
  have hat := Bi hlt3
  have hb := hbs _ (gE6 hlt3)
  have hsn := GG f (f s) (BO f m R s) (row.take k) row[k]
  rw [<- gE8 hlt3] at hsn
  generalize row[k] = a at *
  obtain ⟨e, t⟩ := a
  simp only at hat hb
  obtain ⟨_, _, ht0, ht1⟩ := hb
  obtain ⟨tn, rfl⟩ : ∃ tn : Nat, t = (tn : Int) := ⟨t.toNat, by omega⟩
  have htn : tn < R.length := by omega
  obtain ⟨hft, hgt⟩ := hcl tn htn
  have gT := Ai hgt
  have hol : (CS f (f s) (BO f m R s) (row.take k)).length = m := by rw [G9, CT]
  have hot := Gb f (f s) (row.take k) (BO f m R s)
  rw [List.length_take] at hot
  generalize CS f (f s) (BO f m R s) (row.take k) = o at *
  have hrw := DB o (f s)
  have hgo : o[f s]? = some (o.getD (f s) []) := by
   rw [gE2, gE1 (by omega)]; rfl
  by_cases hq : e ≠ 0 \/ f tn ≠ f s
  rotate_left
  ·have hx : WL f (f s) (e, (tn : Int)) = none := by
    show (if e ≠ 0 \/ f tn ≠ f s then some (e, (f tn : Int)) else none) = _
    rw [if_neg hq]
   have hA : Ct (WL f (f s) (e, (tn : Int))) (f s) o = o := by rw [hx]; rfl
   have he : e = 0 := Decidable.not_not.1 fun h => hq (.inl h)
   have hff : f tn = f s := Decidable.not_not.1 fun h => hq (.inr h)
   have d4 : (e != 0) = false := by simp [he]
   have d5 : ((f tn : Int) != (f s : Int)) = false := by simp [hff]
   (refine UX @d3 ?_;(repeat clear hK K);repeat refine kq fun K hK=>?_)
   refine V4 ?_
   (refine D1 (an @hat (an @A3 (an @AK (an @d4 (an @d5 (an @A2 (an @hCl @gT))))))) ?_;(repeat clear hK K);repeat refine kq fun K hK=>?_)
   refine V5 ?_
   (refine UW ?_;(repeat clear hK K);repeat refine kq fun K hK=>?_)
   refine V6 ?_
   refine hK _ (k + 1) (by omega) (by omega) ?_
   refine Le.trans (Ae [0, 1, 2, 3] rfl rfl) ?_
   (try simp only [List.set_nil, List.take_nil, List.take_zero, List.map_append, go_sem])
   (try simp only [CE, BR])
   rw [hsn, hA]
   exact V7
  have hx : WL f (f s) (e, (tn : Int)) = some (e, (f tn : Int)) := by
   show (if e ≠ 0 \/ f tn ≠ f s then some (e, (f tn : Int)) else none) = _
   rw [if_pos hq]
  have hA : Ct (WL f (f s) (e, (tn : Int))) (f s) o = o.set (f s) (o.getD (f s) [] ++ [(e, (f tn : Int))]) := by rw [hx]; rfl
  generalize o.getD (f s) [] = oc at *
  by_cases he : e = 0
  rotate_left
  ·have d4 : (e != 0) = true := by simpa using he
   (refine UX @d3 ?_;(repeat clear hK K);repeat refine kq fun K hK=>?_)
   refine V4 ?_
   (refine D1 (an @hat (an @A3 (an @AK (an @d4 (an @A2 (an @hCl @gT)))))) ?_;(repeat clear hK K);repeat refine kq fun K hK=>?_)
   refine V4 ?_
   (refine UW ?_;(repeat clear hK K);repeat refine kq fun K hK=>?_)
   (refine B2 [] (.m 0 0 0 (.m 1 0 0 (.m 2 0 0 (.m 3 0 0 (.m 4 0 0 (.m 5 1 15 (.m 6 0 0 (.m 7 1 14 (.m 8 0 0 (.m 9 0 0 (.m 10 1 14 (.m 11 0 0 (.m 12 1 14 (.m 13 0 0 (.a 14 (.a 15 (.m 16 0 0 (.a 17 .e)))))))))))))))))) (by kernel_rfl) (by kernel_rfl) (by intro c st h; simp [Ag, B6, Un] at h) ?_)
   (refine UZ (an @AB (an (BC hgo) (an @hol (an @A2 (an @hCl @gT))))) ?_; repeat clear hK K)
   (refine UN rfl rfl ?_; intro K1 hK1; refine C9 rfl ?_; simp only [go_sem]; (first | refine hK1 _ ?_ | refine Aw (hK1 _ ?_)); clear hK1 K1)
   (refine Lb rfl rfl rfl ?_; intro K1 hK1; refine DS rfl rfl rfl rfl (by first | rfl | simp only [D9, List.getD_cons_zero, List.getD_cons_succ, hne, List.isEmpty_cons, Bool.not_false, Bool.true_and, Bool.and_true, Bool.and_self]) rfl ?_; simp only [go_sem, Df, A3, AK, C4, BC hgo]; (first | refine hK1 _ ?_ | refine Aw (hK1 _ ?_)); clear hK1 K1)
   (refine UZ (an @AB @hol) ?_; repeat clear hK K)
   (refine UO rfl rfl rfl rfl ?_; intro K1 hK1; refine BF rfl ?_; simp only [go_sem, AB, List.length_set, C7, hol]; (first | refine hK1 _ ?_ | refine Aw (hK1 _ ?_)); clear hK1 K1)
   refine CB ⟨by simp, by simp, ?_⟩
   (try simp only [Ag, B6])
   refine hK _ ?_
   clear hK K
   have hj6 : ((AP o).set (f s) (C.s 6 (oc.length + 1)))[f s]? = some (.s 6 (oc.length + 1)) := by rw [gEc (by rw [AB]; omega)]
   have hset6 : ((AP o).set (f s) (C.s 6 (oc.length + 1))).set (f s) (.o (2, 37) (Au (oc ++ [(e, (f tn : Int))]))) = AP (o.set (f s) (oc ++ [(e, (f tn : Int))])) := by rw [C7, CO]
   refine AO (Be (r := ⟨37, 2, true, Am (oc ++ [(e, (f tn : Int))])⟩) (ri := ⟨38, 1, true, (AP o).set (f s) (C.s 6 (oc.length + 1))⟩) (ts := Au (oc ++ [(e, (f tn : Int))])) 2 (f s) 6 (oc.length + 1) (by decide) rfl hj6 rfl rfl (show 0 < 2 by omega) (by rw [Aj]; simp) (F3 _)) ?_
   simp only [hset6, go_sem]
   (refine UW ?_;(repeat clear hK K);repeat refine kq fun K hK=>?_)
   refine V6 ?_
   refine hK _ (k + 1) (by omega) (by omega) ?_
   refine Le.trans (Ae [0, 1, 2, 3] rfl rfl) ?_
   (try simp only [List.set_nil, List.take_nil, List.take_zero, List.map_append, go_sem])
   (try simp only [CE, BR])
   rw [hsn, hA]
   exact V7
  have d4 : (e != 0) = false := by simp [he]
  have d5 : ((f tn : Int) != (f s : Int)) = true := by
   have := hq.resolve_left (by simp [he])
   simp; omega
  (refine UX @d3 ?_;(repeat clear hK K);repeat refine kq fun K hK=>?_)
  refine V4 ?_
  (refine D1 (an @hat (an @A3 (an @AK (an @d4 (an @d5 (an @A2 (an @hCl @gT))))))) ?_;(repeat clear hK K);repeat refine kq fun K hK=>?_)
  refine V4 ?_
  (refine UW ?_;(repeat clear hK K);repeat refine kq fun K hK=>?_)
  (refine B2 [] (.m 0 0 0 (.m 1 0 0 (.m 2 0 0 (.m 3 0 0 (.m 4 0 0 (.m 5 1 15 (.m 6 0 0 (.m 7 1 14 (.m 8 0 0 (.m 9 0 0 (.m 10 1 14 (.m 11 0 0 (.m 12 1 14 (.m 13 0 0 (.a 14 (.a 15 (.m 16 0 0 (.a 17 .e)))))))))))))))))) (by kernel_rfl) (by kernel_rfl) (by intro c st h; simp [Ag, B6, Un] at h) ?_)
  (refine UZ (an @AB (an (BC hgo) (an @hol (an @A2 (an @hCl @gT))))) ?_; repeat clear hK K)
  (refine UN rfl rfl ?_; intro K1 hK1; refine C9 rfl ?_; simp only [go_sem]; (first | refine hK1 _ ?_ | refine Aw (hK1 _ ?_)); clear hK1 K1)
  (refine Lb rfl rfl rfl ?_; intro K1 hK1; refine DS rfl rfl rfl rfl (by first | rfl | simp only [D9, List.getD_cons_zero, List.getD_cons_succ, hne, List.isEmpty_cons, Bool.not_false, Bool.true_and, Bool.and_true, Bool.and_self]) rfl ?_; simp only [go_sem, Df, A3, AK, C4, BC hgo]; (first | refine hK1 _ ?_ | refine Aw (hK1 _ ?_)); clear hK1 K1)
  (refine UZ (an @AB @hol) ?_; repeat clear hK K)
  (refine UO rfl rfl rfl rfl ?_; intro K1 hK1; refine BF rfl ?_; simp only [go_sem, AB, List.length_set, C7, hol]; (first | refine hK1 _ ?_ | refine Aw (hK1 _ ?_)); clear hK1 K1)
  refine CB ⟨by simp, by simp, ?_⟩
  (try simp only [Ag, B6])
  refine hK _ ?_
  clear hK K
  have hj6 : ((AP o).set (f s) (C.s 6 (oc.length + 1)))[f s]? = some (.s 6 (oc.length + 1)) := by rw [gEc (by rw [AB]; omega)]
  have hset6 : ((AP o).set (f s) (C.s 6 (oc.length + 1))).set (f s) (.o (2, 37) (Au (oc ++ [(e, (f tn : Int))]))) = AP (o.set (f s) (oc ++ [(e, (f tn : Int))])) := by rw [C7, CO]
  refine AO (Be (r := ⟨37, 2, true, Am (oc ++ [(e, (f tn : Int))])⟩) (ri := ⟨38, 1, true, (AP o).set (f s) (C.s 6 (oc.length + 1))⟩) (ts := Au (oc ++ [(e, (f tn : Int))])) 2 (f s) 6 (oc.length + 1) (by decide) rfl hj6 rfl rfl (show 0 < 2 by omega) (by rw [Aj]; simp) (F3 _)) ?_
  simp only [hset6, go_sem]
  (refine UW ?_;(repeat clear hK K);repeat refine kq fun K hK=>?_)
  refine V6 ?_
  refine hK _ (k + 1) (by omega) (by omega) ?_
  refine Le.trans (Ae [0, 1, 2, 3] rfl rfl) ?_
  (try simp only [List.set_nil, List.take_nil, List.take_zero, List.map_append, go_sem])
  (try simp only [CE, BR])
  rw [hsn, hA]
  exact V7
 | false =>
  rw [hlb] at gL hlset
  rw [Bool.false_or] at hlset
  (refine UX @d1 ?_;(repeat clear hK K);repeat refine kq fun K hK=>?_)
  refine V4 ?_
  (refine D1 (an @Ac (an (Bl hgR) (an @A2 (an @hCl (an @gC (an @H6 (an @hll (an @gL (an @Bz (an @hBl (an @gB (an @H7 (an @hlset (an @A3 @AK)))))))))))))) ?_;(repeat clear hK K);repeat refine kq fun K hK=>?_)
  refine Ab (fun k : Nat => { tm := [(1, .a (.c (.t 1 (Ad cl)))), (2, .a (.c (.p 0 0))), (4, .a (.c (.p 1 0))), (6, .a (.c (.t 1 (W3 B)))), (7, .a (.c (.s 2 m))), (8, .a (.c (.s 3 m))), (9, .i s), (11, .i (f s)), (40, .a (.c (.t 1 (Ao R)))), (41, .i R.length), (42, .i s), (64, .a (.c (.t 2 (Au row)))), (65, .i row.length), (66, .i k)], hp := [.r ⟨27, 1, false, [.t 1 (Ao R)]⟩, .r ⟨27, 1, false, [.v (.slice none 0 0)]⟩, .r ⟨38, 1, true, AP (CS f (f s) (BO f m R s) (row.take k))⟩, .r ⟨4, 1, true, Vz (WN f m B (s + 1))⟩], n := 130, pin := 0 }) (fun k => k <= row.length) (fun k => row.length - k) 0 ?_ ?_ ?_
  ·omega
  ·simp only [List.take_zero, CS, List.foldl_nil]
   exact V7
  rintro k hk K hK
  by_cases hlt3 : k < row.length
  rotate_left
  ·have d3 : decide ((k : Int) < (row.length : Int)) = false := by simpa using hlt3
   have hke3 : row.take k = row := gE7 (by omega)
   rw [hke3, <- htl]
   (refine UX @d3 ?_;(repeat clear hK K);repeat refine kq fun K hK=>?_)
   refine V5 ?_
   (refine V0 ?_;repeat clear hK K)
   (refine UW ?_;(repeat clear hK K);repeat refine kq fun K hK=>?_)
   refine V6 ?_
   refine hK _ (s + 1) (by omega) (by omega) ?_
   exact V7
  have d3 : decide ((k : Int) < (row.length : Int)) = true := by simpa using hlt3
  have hat := Bi hlt3
  have hb := hbs _ (gE6 hlt3)
  have hsn := GG f (f s) (BO f m R s) (row.take k) row[k]
  rw [<- gE8 hlt3] at hsn
  generalize row[k] = a at *
  obtain ⟨e, t⟩ := a
  simp only at hat hb
  obtain ⟨_, _, ht0, ht1⟩ := hb
  obtain ⟨tn, rfl⟩ : ∃ tn : Nat, t = (tn : Int) := ⟨t.toNat, by omega⟩
  have htn : tn < R.length := by omega
  obtain ⟨hft, hgt⟩ := hcl tn htn
  have gT := Ai hgt
  have hol : (CS f (f s) (BO f m R s) (row.take k)).length = m := by rw [G9, CT]
  have hot := Gb f (f s) (row.take k) (BO f m R s)
  rw [List.length_take] at hot
  generalize CS f (f s) (BO f m R s) (row.take k) = o at *
  have hrw := DB o (f s)
  have hgo : o[f s]? = some (o.getD (f s) []) := by
   rw [gE2, gE1 (by omega)]; rfl
  by_cases hq : e ≠ 0 \/ f tn ≠ f s
  rotate_left
  ·have hx : WL f (f s) (e, (tn : Int)) = none := by
    show (if e ≠ 0 \/ f tn ≠ f s then some (e, (f tn : Int)) else none) = _
    rw [if_neg hq]
   have hA : Ct (WL f (f s) (e, (tn : Int))) (f s) o = o := by rw [hx]; rfl
   have he : e = 0 := Decidable.not_not.1 fun h => hq (.inl h)
   have hff : f tn = f s := Decidable.not_not.1 fun h => hq (.inr h)
   have d4 : (e != 0) = false := by simp [he]
   have d5 : ((f tn : Int) != (f s : Int)) = false := by simp [hff]
   (refine UX @d3 ?_;(repeat clear hK K);repeat refine kq fun K hK=>?_)
   refine V4 ?_
   (refine D1 (an @hat (an @A3 (an @AK (an @d4 (an @d5 (an @A2 (an @hCl @gT))))))) ?_;(repeat clear hK K);repeat refine kq fun K hK=>?_)
   refine V5 ?_
   (refine UW ?_;(repeat clear hK K);repeat refine kq fun K hK=>?_)
   refine V6 ?_
   refine hK _ (k + 1) (by omega) (by omega) ?_
   refine Le.trans (Ae [0, 1, 2, 3] rfl rfl) ?_
   (try simp only [List.set_nil, List.take_nil, List.take_zero, List.map_append, go_sem])
   (try simp only [CE, BR])
   rw [hsn, hA]
   exact V7
  have hx : WL f (f s) (e, (tn : Int)) = some (e, (f tn : Int)) := by
   show (if e ≠ 0 \/ f tn ≠ f s then some (e, (f tn : Int)) else none) = _
   rw [if_pos hq]
  have hA : Ct (WL f (f s) (e, (tn : Int))) (f s) o = o.set (f s) (o.getD (f s) [] ++ [(e, (f tn : Int))]) := by rw [hx]; rfl
  generalize o.getD (f s) [] = oc at *
  by_cases he : e = 0
  rotate_left
  ·have d4 : (e != 0) = true := by simpa using he
   (refine UX @d3 ?_;(repeat clear hK K);repeat refine kq fun K hK=>?_)
   refine V4 ?_
   (refine D1 (an @hat (an @A3 (an @AK (an @d4 (an @A2 (an @hCl @gT)))))) ?_;(repeat clear hK K);repeat refine kq fun K hK=>?_)
   refine V4 ?_
   (refine UW ?_;(repeat clear hK K);repeat refine kq fun K hK=>?_)
   (refine B2 [] (.m 0 0 0 (.m 1 0 0 (.m 2 0 0 (.m 3 0 0 (.m 4 0 0 (.m 5 1 15 (.m 6 0 0 (.m 7 1 14 (.m 8 0 0 (.m 9 0 0 (.m 10 1 14 (.m 11 0 0 (.m 12 1 14 (.m 13 0 0 (.a 14 (.a 15 (.m 16 0 0 (.a 17 .e)))))))))))))))))) (by kernel_rfl) (by kernel_rfl) (by intro c st h; simp [Ag, B6, Un] at h) ?_)
   (refine UZ (an @AB (an (BC hgo) (an @hol (an @A2 (an @hCl @gT))))) ?_; repeat clear hK K)
   (refine UN rfl rfl ?_; intro K1 hK1; refine C9 rfl ?_; simp only [go_sem]; (first | refine hK1 _ ?_ | refine Aw (hK1 _ ?_)); clear hK1 K1)
   (refine Lb rfl rfl rfl ?_; intro K1 hK1; refine DS rfl rfl rfl rfl (by first | rfl | simp only [D9, List.getD_cons_zero, List.getD_cons_succ, hne, List.isEmpty_cons, Bool.not_false, Bool.true_and, Bool.and_true, Bool.and_self]) rfl ?_; simp only [go_sem, Df, A3, AK, C4, BC hgo]; (first | refine hK1 _ ?_ | refine Aw (hK1 _ ?_)); clear hK1 K1)
   (refine UZ (an @AB @hol) ?_; repeat clear hK K)
   (refine UO rfl rfl rfl rfl ?_; intro K1 hK1; refine BF rfl ?_; simp only [go_sem, AB, List.length_set, C7, hol]; (first | refine hK1 _ ?_ | refine Aw (hK1 _ ?_)); clear hK1 K1)
   refine CB ⟨by simp, by simp, ?_⟩
   (try simp only [Ag, B6])
   refine hK _ ?_
   clear hK K
   have hj6 : ((AP o).set (f s) (C.s 6 (oc.length + 1)))[f s]? = some (.s 6 (oc.length + 1)) := by rw [gEc (by rw [AB]; omega)]
   have hset6 : ((AP o).set (f s) (C.s 6 (oc.length + 1))).set (f s) (.o (2, 37) (Au (oc ++ [(e, (f tn : Int))]))) = AP (o.set (f s) (oc ++ [(e, (f tn : Int))])) := by rw [C7, CO]
   refine AO (Be (r := ⟨37, 2, true, Am (oc ++ [(e, (f tn : Int))])⟩) (ri := ⟨38, 1, true, (AP o).set (f s) (C.s 6 (oc.length + 1))⟩) (ts := Au (oc ++ [(e, (f tn : Int))])) 2 (f s) 6 (oc.length + 1) (by decide) rfl hj6 rfl rfl (show 0 < 2 by omega) (by rw [Aj]; simp) (F3 _)) ?_
   simp only [hset6, go_sem]
   (refine UW ?_;(repeat clear hK K);repeat refine kq fun K hK=>?_)
   refine V6 ?_
   refine hK _ (k + 1) (by omega) (by omega) ?_
   refine Le.trans (Ae [0, 1, 2, 3] rfl rfl) ?_
   (try simp only [List.set_nil, List.take_nil, List.take_zero, List.map_append, go_sem])
   (try simp only [CE, BR])
   rw [hsn, hA]
   exact V7
  have d4 : (e != 0) = false := by simp [he]
  have d5 : ((f tn : Int) != (f s : Int)) = true := by
   have := hq.resolve_left (by simp [he])
   simp; omega
  (refine UX @d3 ?_;(repeat clear hK K);repeat refine kq fun K hK=>?_)
  refine V4 ?_
  (refine D1 (an @hat (an @A3 (an @AK (an @d4 (an @d5 (an @A2 (an @hCl @gT))))))) ?_;(repeat clear hK K);repeat refine kq fun K hK=>?_)
  refine V4 ?_
  (refine UW ?_;(repeat clear hK K);repeat refine kq fun K hK=>?_)
  (refine B2 [] (.m 0 0 0 (.m 1 0 0 (.m 2 0 0 (.m 3 0 0 (.m 4 0 0 (.m 5 1 15 (.m 6 0 0 (.m 7 1 14 (.m 8 0 0 (.m 9 0 0 (.m 10 1 14 (.m 11 0 0 (.m 12 1 14 (.m 13 0 0 (.a 14 (.a 15 (.m 16 0 0 (.a 17 .e)))))))))))))))))) (by kernel_rfl) (by kernel_rfl) (by intro c st h; simp [Ag, B6, Un] at h) ?_)
  (refine UZ (an @AB (an (BC hgo) (an @hol (an @A2 (an @hCl @gT))))) ?_; repeat clear hK K)
  (refine UN rfl rfl ?_; intro K1 hK1; refine C9 rfl ?_; simp only [go_sem]; (first | refine hK1 _ ?_ | refine Aw (hK1 _ ?_)); clear hK1 K1)
  (refine Lb rfl rfl rfl ?_; intro K1 hK1; refine DS rfl rfl rfl rfl (by first | rfl | simp only [D9, List.getD_cons_zero, List.getD_cons_succ, hne, List.isEmpty_cons, Bool.not_false, Bool.true_and, Bool.and_true, Bool.and_self]) rfl ?_; simp only [go_sem, Df, A3, AK, C4, BC hgo]; (first | refine hK1 _ ?_ | refine Aw (hK1 _ ?_)); clear hK1 K1)
  (refine UZ (an @AB @hol) ?_; repeat clear hK K)
  (refine UO rfl rfl rfl rfl ?_; intro K1 hK1; refine BF rfl ?_; simp only [go_sem, AB, List.length_set, C7, hol]; (first | refine hK1 _ ?_ | refine Aw (hK1 _ ?_)); clear hK1 K1)
  refine CB ⟨by simp, by simp, ?_⟩
  (try simp only [Ag, B6])
  refine hK _ ?_
  clear hK K
  have hj6 : ((AP o).set (f s) (C.s 6 (oc.length + 1)))[f s]? = some (.s 6 (oc.length + 1)) := by rw [gEc (by rw [AB]; omega)]
  have hset6 : ((AP o).set (f s) (C.s 6 (oc.length + 1))).set (f s) (.o (2, 37) (Au (oc ++ [(e, (f tn : Int))]))) = AP (o.set (f s) (oc ++ [(e, (f tn : Int))])) := by rw [C7, CO]
  refine AO (Be (r := ⟨37, 2, true, Am (oc ++ [(e, (f tn : Int))])⟩) (ri := ⟨38, 1, true, (AP o).set (f s) (C.s 6 (oc.length + 1))⟩) (ts := Au (oc ++ [(e, (f tn : Int))])) 2 (f s) 6 (oc.length + 1) (by decide) rfl hj6 rfl rfl (show 0 < 2 by omega) (by rw [Aj]; simp) (F3 _)) ?_
  simp only [hset6, go_sem]
  (refine UW ?_;(repeat clear hK K);repeat refine kq fun K hK=>?_)
  refine V6 ?_
  refine hK _ (k + 1) (by omega) (by omega) ?_
  refine Le.trans (Ae [0, 1, 2, 3] rfl rfl) ?_
  (try simp only [List.set_nil, List.take_nil, List.take_zero, List.map_append, go_sem])
  (try simp only [CE, BR])
  rw [hsn, hA]
  exact V7
def WR (x : List (List Ar)) (r : AV) (o : List Ob) : Prop := o = [.r ⟨27, 1, false, [.t 1 (Ao x)]⟩] /\ r = .tup [.g [.t 1 (Ao x)], .c (.v (.int .i64 0))]
theorem SU (R : List (List Ar)) (cl : List Int) (hv : AR R = true) (hC : Ij cl R.length = true) (hn : R.length <= 100) (ht : AA R <= 1000) (hr : ∀ r ∈ R, r.length <= 1000000) : FC Tryd.prog 18 [CC R, AC cl] [] (fun r o => ∃ B, DvL R B /\ WR (AG (qR R cl B)).1 r o) := by
 refine (SS R cl hv hC (by omega) hr).mono ?_
 intro r0 o0 ⟨B, hB, h0⟩
 have hlo : Bd R = true := gEg (gE4 hv).1
 obtain ⟨b1, b2, b3⟩ := P6 (B := B) hlo hC
 have hm1 : 1 <= WK cl := by have := ((EX hC).2.2.1 0 (gE4 hlo).1).1; omega
 have hmn := (EX hC).2.1
 have hlq : Bd (qR R cl B) = true := gEg ⟨by omega, by show (qR R cl B).length <= 16384; omega, by show AA (qR R cl B) <= 262144; omega, b2⟩
 have htX := GI hlq
 rw [WQ, if_pos (by omega)] at h0
 exact ⟨B, hB, h0⟩
set_option maxHeartbeats 1000000 in
theorem Ko (R : List (List Ar)) (hv : AR R = true) (hn : R.length <= 64) (ht : AA R <= 1000) (hr : ∀ r ∈ R, r.length <= 1000000) : FC Tryd.prog 7 [CC R] [] (fun r o => ∃ c B, WkC R c /\ Nrm R.length c /\ DvL R B /\ WR (AG (qR R c B)).1 r o) := by
 refine Af Tryd.func7 rfl (by rw [Tryd.ntmps7]; simp) ?_
 rw [Tryd.ntmps7]
 simp only [C2, CC]
 (refine UW ?_;(repeat clear hK K);repeat refine kq fun K hK=>?_)
 (refine CJ [] [(0, 1, 3), (1, 1, 2), (2, 2, 0), (3, 2, 0), (4, 0, 0), (5, 0, 0), (6, 2, 0), (7, 2, 0)] (by kernel_rfl) (by kernel_rfl) (by intro c st h; simp [Ag, B6, Un] at h) ?_)
 (refine UV ?_; repeat clear hK K)
 (refine UJ rfl rfl ?_; intro K1 hK1; refine BW ?_; refine xv [] (Na R hv hn hr) ?_ ?_)
 ·rintro _ _ ⟨_, _, _, rfl, rfl⟩ i o hi hl; simp at hl
 rintro _ _ ⟨c, hc, hN, rfl, rfl⟩
 (refine V3 ?_; clear hK1 K1)
 (refine UV ?_; repeat clear hK K)
 (refine UJ rfl rfl ?_; intro K1 hK1; refine BW ?_; refine xv [] (SU R c hv hN.num (by omega) ht hr) ?_ ?_)
 ·rintro _ _ ⟨_, _, rfl, rfl⟩ i o hi hl; simp at hl
 rintro _ _ ⟨B, hB, rfl, rfl⟩
 have hend : ∀ r o, WR (AG (qR R c B)).1 r o -> ∃ c B, WkC R c /\ Nrm R.length c /\ DvL R B /\ WR (AG (qR R c B)).1 r o := fun r o h => ⟨c, B, hc, hN, hB, h⟩
 generalize (AG (qR R c B)).1 = x at *
 (refine V3 ?_; clear hK1 K1)
 (refine UV ?_; repeat clear hK K)
 (refine UK rfl rfl rfl ?_; intro K1 hK1; refine BF rfl ?_; simp only [go_sem, ST.put, Dp, A0.cells]; (first | refine hK1 _ ?_ | refine Aw (hK1 _ ?_)); clear hK1 K1)
 (refine UK rfl rfl rfl ?_; intro K1 hK1; refine BF rfl ?_; simp only [go_sem]; (first | refine hK1 _ ?_ | refine Aw (hK1 _ ?_)); clear hK1 K1)
 (refine UV ?_; repeat clear hK K)
 (refine UW ?_;(repeat clear hK K);repeat refine kq fun K hK=>?_)
 refine V8 [1] Tryd.results7 ?_
 exact hend _ _ ⟨rfl, rfl⟩
def sK : List (List Ar) := [[(0, 1)], [(2, 2)], []]
def sQ : List (List Ar) := [[(2, 1)], []]
theorem Do : AR sK = true := by kernel_rfl
theorem PW : ∀ v w, w ∈ Vo true sK v -> v = 0 /\ w = 1
 | 0, w, h => by have e : Vo true sK 0 = [1] := rfl; rw [e] at h; simp at h; omega
 | 1, w, h => by have e : Vo true sK 1 = [] := rfl; rw [e] at h; simp at h
 | 2, w, h => by have e : Vo true sK 2 = [] := rfl; rw [e] at h; simp at h
 | n + 3, w, h => by have e : Vo true sK (n + 3) = [] := rfl; rw [e] at h; simp at h
theorem Pf {v u : Nat} (h : Rc (Vo true sK) v u) : u = v \/ (v = 0 /\ u = 1) := by
 induction h with
 | refl => exact .inl rfl
 | tail _ h2 ih => have := PW _ _ h2; omega
theorem Tu (s : Nat) : ¬ Dv sK s := by
 rintro ⟨g, _, w, hw, hr⟩
 have := PW _ _ hw
 have := Pf hr
 omega
theorem TH : DvL sK [false, false, false] := by
 refine ⟨rfl, fun s hs => ⟨fun h => ?_, fun h => absurd h (Tu s)⟩⟩
 match s, hs with
 | 0, _ => simp at h
 | 1, _ => simp at h
 | 2, _ => simp at h
theorem U1 : (AG (qR sK [0, 0, 1] [false, false, false])).1 = sQ := by kernel_rfl
theorem Rz : Rc (Vo true sK) 0 1 := .tail (.refl 0) (show 1 ∈ [1] by simp)
def sk (s : Nat) : Nat := if s <= 1 then 0 else 1
theorem PX {c : List Int} (hN : Nrm sK.length c) (h : c.getD 0 0 = c.getD 1 0) : Vi (B1 sK) c = [0, 0, 1] := by
 have hSl : (B1 sK).length = 3 := (DX Do (by decide)).1
 have e2 : sK.getD 2 [] = [] := rfl
 have e0 : sK.getD 0 [] = [(0, 1)] := rfl
 have e1 : sK.getD 1 [] = [(2, 2)] := rfl
 have rt : ∀ i, RT sK c 0 i ↔ RT sK c 1 i := fun i => by
  constructor
  rotate_left
  ·rintro ⟨u, hu, h1, h2⟩
   exact ⟨u, hu, Rz.trans h1, h2⟩
  rintro ⟨u, hu, h1, h2⟩
  rcases Pf h1 with rfl | ⟨_, rfl⟩
  ·exact ⟨1, by decide, .refl 1, by rw [<- h]; exact h2⟩
  exact ⟨1, by decide, .refl 1, h2⟩
 have rv : ∀ e i, RV sK c 0 e i ↔ RV sK c 1 e i := fun e i => by
  constructor
  rotate_left
  ·rintro ⟨hn, u, hu, h1, h2⟩
   exact ⟨hn, u, hu, Rz.trans h1, h2⟩
  rintro ⟨hn, u, hu, h1, a, ha, h2, h3⟩
  rcases Pf h1 with rfl | ⟨_, rfl⟩
  rotate_left
  ·exact ⟨hn, 1, by decide, .refl 1, a, ha, h2, h3⟩
  rw [e0] at ha
  simp at ha
  subst ha
  exact absurd h2.symm hn
 have im : Vg (B1 sK) c 0 = Vg (B1 sK) c 1 := by
  refine BQ (Ay _) (Ay _) fun x => ?_
  show x ∈ Vg (B1 sK) c 0 ↔ x ∈ Vg (B1 sK) c 1
  obtain ⟨e, y⟩ := x
  have key : ∀ i : Nat, (e, (i : Int)) ∈ Vg (B1 sK) c 0 ↔ (e, (i : Int)) ∈ Vg (B1 sK) c 1 := fun i => by
   by_cases he : e = 0
   ·subst he; rw [Dl Do (by decide), Dl Do (by decide), rt]
   rw [CF Do (by decide) he, CF Do (by decide) he, rv]
  constructor
  ·intro hx
   obtain ⟨i, _, hy⟩ := Id Do hN (by decide) hx
   simp only at hy
   subst hy
   exact (key i).1 hx
  intro hx
  obtain ⟨i, _, hy⟩ := Id Do hN (by decide) hx
  simp only at hy
  subst hy
  exact (key i).2 hx
 have f01 : Vh (B1 sK) c 0 = Vh (B1 sK) c 1 := by unfold Vh; rw [h, im]
 have f02 : Vh (B1 sK) c 0 ≠ Vh (B1 sK) c 2 := fun hf => by
  unfold Vh at hf
  have him : Vg (B1 sK) c 0 = Vg (B1 sK) c 2 := (Prod.mk.inj hf).2
  have hr : RT sK c 2 (c.getD 2 0).toNat := ⟨2, by decide, .refl 2, by
   have := hN.rng (c.getD 2 0) (by rw [gE2, gE1 (by rw [hN.len]; decide)]; exact gE6 _)
   omega⟩
  have hv0 : RV sK c 0 2 (c.getD 2 0).toNat := ⟨by decide, 1, by decide, Rz, (2, 2), by rw [e1]; simp, rfl, hr⟩
  have h2 := (CF Do (by decide) (by decide) _).2 hv0
  rw [him] at h2
  obtain ⟨_, u, _, h3, a, ha, _⟩ := (CF Do (by decide) (by decide) _).1 h2
  have : u = 2 := by have := Pf h3; omega
  subst this
  rw [e2] at ha
  simp at ha
 unfold Vi
 rw [hSl]
 have e : Vf (Vh (B1 sK) c) 3 = Vf sk 3 := IP 3 fun s t hs ht => by
  have hs3 : ∀ s, s < 3 -> (Vh (B1 sK) c s = Vh (B1 sK) c 0 /\ sk s = 0) \/ (Vh (B1 sK) c s = Vh (B1 sK) c 2 /\ sk s = 1)
   | 0, _ => .inl ⟨rfl, rfl⟩
   | 1, _ => .inl ⟨f01.symm, rfl⟩
   | 2, _ => .inr ⟨rfl, rfl⟩
  rcases hs3 s hs with ⟨a1, a2⟩ | ⟨a1, a2⟩ <;> rcases hs3 t ht with ⟨b1, b2⟩ | ⟨b1, b2⟩ <;> rw [a1, b1, a2, b2]
  ·exact iff_of_true rfl rfl
  ·exact iff_of_false f02 (by decide)
  ·exact iff_of_false f02.symm (by decide)
  exact iff_of_true rfl rfl
 rw [e]
 rfl
theorem U2 : WkC sK [0, 0, 1] := by
 refine ⟨_, TH, 1, ?_, PX (c := [0, 0, 1]) (by unfold Nrm; rfl) rfl⟩
 show [0, 0, 1] = Vi (B1 sK) (VP [false, false, false] 3)
 exact (PX (c := VP [false, false, false] 3) (IX _ (by decide)) rfl).symm
theorem TK {c : List Int} (hc : WkC sK c) : c = [0, 0, 1] := hc.uniq U2
theorem SV : FC Tryd.prog 7 [CC sK] [] (fun r o => o = [.r ⟨27, 1, false, [.t 1 (Ao sQ)]⟩] /\ r = .tup [.g [.t 1 (Ao sQ)], .c (.v (.int .i64 0))]) :=
 (Ko sK Do (by decide) (by decide) (by decide)).mono fun r o ⟨c, B, hc, hN, hB, h⟩ => by
  rw [TK hc, hB.uniq TH, U1] at h
  exact h
theorem SW : FC Tryd.prog 9 [CC sK] [] (fun r o => o = [] /\ r = AC [0, 0, 1]) :=
 (Na sK Do (by decide) (by decide)).mono fun r o ⟨c, hc, hN, h1, h2⟩ => by
  rw [TK hc] at h2
  exact ⟨h1, h2⟩
set_option maxHeartbeats 1000000 in
theorem RA : FC Tryd.prog 22 [] [] (fun r o => o = [.r ⟨27, 1, false, [.t 1 (Ao sK)]⟩] /\ r = CC sK) := by
 refine Af Tryd.func22 rfl (by rw [Tryd.ntmps22]; simp) ?_
 rw [Tryd.ntmps22]
 simp only [C2]
 (refine Pv ?_;(repeat clear hK K);repeat refine kq fun K hK=>?_)
 refine AO (Be (r := ⟨37, 2, true, Am [(0, 1)]⟩) (ts := Au [(0, 1)]) 3 0 1 1 (by decide) rfl rfl rfl rfl (show 0 < 2 by omega) rfl (F3 _)) ?_
 simp only [go_sem]
 refine AO (Be (r := ⟨37, 2, true, Am [(2, 2)]⟩) (ts := Au [(2, 2)]) 3 1 2 1 (by decide) rfl rfl rfl rfl (show 0 < 2 by omega) rfl (F3 _)) ?_
 simp only [go_sem]
 refine AO (Sk 3 [2, 2, 2] rfl) ?_
 simp only [W2, Ur, go_sem]
 refine AO (Be (r := ⟨38, 1, true, Bm sK⟩) (ri := ⟨27, 1, false, [.s 3 3]⟩) (ts := Ao sK) 0 0 3 3 (by decide) rfl rfl rfl rfl (show 0 < 1 by omega) rfl (KH _)) ?_
 simp only [go_sem]
 refine AO (FB 0 rfl) ?_
 simp only [Ur, go_sem]
 ((try refine AM ?_); (try simp only [Ag, B6]); refine BG (Ae [0] rfl rfl) ?_; (try simp only [List.set_nil, List.take_nil, List.take_zero, List.map_append, go_sem]); ((try refine AM ?_); (try refine A6 ?_); (try simp only [Ag, B6]); refine BP (by first | exact .inl rfl | exact .inr rfl) rfl ?_; simp only [Uo, Fy, F0, Ge, Tryd.results22, go_sem, true_and, and_true, CC]))
set_option maxHeartbeats 2000000 in
theorem L9 : FC Tryd.prog 10 [] [] (fun r _ => r = .b true) := by
 refine Af Tryd.func10 rfl (by rw [Tryd.ntmps10]; simp) ?_
 rw [Tryd.ntmps10]
 simp only [C2]
 have hcn := RA
 have hsd := SV
 have hcl := SW
 have hsi := P8 [0, 0, 1] [0, 0, 1] (by decide) (by decide)
 have hsm := Ru sQ (by decide) (by decide)
 simp only [CC, AC] at hcn hsd hcl hsi hsm
 (refine UW ?_;(repeat clear hK K);repeat refine kq fun K hK=>?_)
 (refine V1 hcn ?_; intro K1 hK1)
 rintro _ _ ⟨rfl, rfl⟩
 (refine V3 ?_; clear hK1 K1)
 (refine UW ?_;(repeat clear hK K);repeat refine kq fun K hK=>?_)
 (refine V1 hsd ?_; intro K1 hK1)
 rintro _ _ ⟨rfl, rfl⟩
 (refine V3 ?_; clear hK1 K1)
 (refine Pv ?_;(repeat clear hK K);repeat refine kq fun K hK=>?_)
 (refine CZ rfl rfl (by simp only [go_sem] <;> rfl) ?_; intro K1 hK1; refine (AQ (ids := []) (hcn) rfl rfl (by simp only [go_sem]) (by kernel_rfl) (by (simp only [List.append_nil, go_sem]) <;> rfl) ?_).stp)
 rintro _ _ ⟨rfl, rfl⟩
 (refine V3 ?_; clear hK1 K1)
 (refine UW ?_;(repeat clear hK K);repeat refine kq fun K hK=>?_)
 (refine CZ rfl rfl (by simp only [go_sem] <;> rfl) ?_; intro K1 hK1; refine (AQ (ids := []) (hcl) rfl rfl (by simp only [go_sem]) (by kernel_rfl) (by (simp only [List.append_nil, go_sem]) <;> rfl) ?_).stp)
 rintro _ _ ⟨rfl, rfl⟩
 (refine V3 ?_; clear hK1 K1)
 (refine Pv ?_;(repeat clear hK K);repeat refine kq fun K hK=>?_)
 (refine EV (C8 (r := ⟨3, 1, true, A7 [0, 0, 1]⟩) 4 (Ad [0, 0, 1]) rfl (KO _) (show 0 < (1 : Nat) by omega)) ?_; simp only [ST.frz, A0.frz, AV.frz, C.frz, Nat.le_refl, List.set_cons_zero, List.set_cons_succ, go_sem, show (Ad [0, 0, 1]).take 3 = Ad [0, 0, 1] from rfl, show (if 3 <= (Ad [0, 0, 1]).length then C.t 1 (Ad [0, 0, 1]) else C.u) = C.t 1 (Ad [0, 0, 1]) from rfl])
 (refine CZ rfl rfl (by simp only [go_sem] <;> rfl) ?_; intro K1 hK1; refine (AQ (ids := []) (hsi) rfl rfl (by simp only [go_sem]) (by kernel_rfl) (by (simp only [List.append_nil, go_sem]) <;> rfl) ?_).stp)
 rintro _ _ ⟨rfl, rfl⟩
 (refine V3 ?_; clear hK1 K1)
 (refine Pv ?_;(repeat clear hK K);repeat refine kq fun K hK=>?_)
 refine EV (Be (r := ⟨37, 2, true, Am [(2, 1)]⟩) (ts := Au [(2, 1)]) 6 0 5 1 (by decide) rfl rfl rfl rfl (show 0 < 2 by omega) rfl (F3 _)) ?_
 simp only [go_sem]
 refine EV (Sk 6 [2, 2] rfl) ?_
 simp only [W2, Ur, go_sem]
 (refine EV (C8 (r := ⟨38, 1, true, Bm sQ⟩) 6 (Ao sQ) rfl (KH _) (show 0 < (1 : Nat) by omega)) ?_; simp only [ST.frz, A0.frz, AV.frz, C.frz, Nat.le_refl, List.set_cons_zero, List.set_cons_succ, go_sem, show (Ao sQ).take 2 = Ao sQ from rfl, show (if 2 <= (Ao sQ).length then C.t 1 (Ao sQ) else C.u) = C.t 1 (Ao sQ) from rfl])
 (refine CZ rfl rfl (by simp only [go_sem] <;> rfl) ?_; intro K1 hK1; refine (AQ (ids := []) (hsm) rfl rfl (by simp only [go_sem]) (by kernel_rfl) (by (simp only [List.append_nil, go_sem]) <;> rfl) ?_).stp)
 rintro _ _ ⟨rfl, rfl⟩
 (refine V3 ?_; clear hK1 K1)
 (refine UW ?_;(repeat clear hK K);repeat refine kq fun K hK=>?_)
 exact RH Tryd.results10
end Go.Proofs.YthnkailnoobdoaaDoor
