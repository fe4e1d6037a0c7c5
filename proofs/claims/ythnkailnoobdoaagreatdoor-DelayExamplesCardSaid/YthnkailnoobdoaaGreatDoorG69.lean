/- Lemmas. -/
import Derived.Test.YthnkailnoobdoaaGreatDoorZk
import Derived.Test.YthnkailnoobdoaaGreatDoorG67
import Derived.Test.YthnkailnoobdoaaGreatDoorG68
import Derived.Test.YthnkailnoobdoaaGreatDoorG49
import Derived.Test.YthnkailnoobdoaaGreatDoorKyl
import Derived.Test.YthnkailnoobdoaaGreatDoorG36
import Derived.Test.YthnkailnoobdoaaGreatDoorW07
import Derived.Test.YthnkailnoobdoaaGreatDoorG72
import Derived.Test.YthnkailnoobdoaaGreatDoorMnt
namespace Go.Proofs.YthnkailnoobdoaaGreatDoor
set_option linter.unusedVariables false
set_option linter.unusedSimpArgs false
open Go.RowKit
set_option maxRecDepth 100000
attribute [local go_sem] lga C.pl C.one

def Yc (x : List (List Ar)) (r : AV) (o : List Ob) : Prop :=
 if AN x <= 262144 then o = [.r ⟨25, 1, false, [.t 1 (Ai x)]⟩] /\ r = .tup [.g [.t 1 (Ai x)], .c (.v (.int .i64 0))]
 else o = [.r ⟨25, 1, false, [.v (.slice none 0 0)]⟩] /\ r = .tup [.g [.v (.slice none 0 0)], .c (.v (.int .i64 10))]
set_option maxHeartbeats 8000000 in
theorem Uh (R : List (List Ar)) (cl : List Int) (hv : BL R = true) (hC : M7 cl R.length = true) (hn : R.length <= 1000000) (hr : ∀ r ∈ R, r.length <= 1000000) : FC Tryz.prog 53 [Bh R, Aq cl] [] (fun r o => ∃ B, DvL R B /\ Yc (CH (qR R cl B)).1 r o) := by
 refine A9 Tryz.func53 rfl (by rw [Tryz.ntmps53]; simp) ?_
 rw [Tryz.ntmps53]
 simp only [Bz, Bh, Aq]
 have hlo : BK R = true := gEg (gE4 hv).1
 have h1 : 1 <= R.length := (gE4 hlo).1
 have hR16 : R.length <= 16384 := (gE4 hlo).2.1
 have htA : AN R <= 262144 := (gE4 hlo).2.2.1
 have hbd := (gE4 hlo).2.2.2
 obtain ⟨hCl, hmn, hcl, hmx⟩ := IL hC
 have hcl1 : 0 < cl.length := by omega
 have hmax : IY cl[0] cl + 1 = (Y7 cl : Int) := by
  have h0 : 0 <= cl[0] := by
   have := (hcl 0 (by omega)).2
   rw [gE1 hcl1] at this
   injection this with this
   omega
  rw [<- hmx]
  cases cl with
  | nil => simp at hcl1
  | cons x l => exact (Qa l h0).symm
 have hm1 : 1 <= Y7 cl := by have := (hcl 0 (by omega)).1; omega
 (refine We ?_;(repeat clear hK K);repeat refine kq fun K hK=>?_)
 (refine Wj (EE R (by omega) (fun r h => by have := hr r h; omega)) ?_; intro K1 hK1)
 rintro _ _ ⟨rfl, rfl⟩
 (refine Wk ?_; clear hK1 K1)
 (refine Wf (an @hv (an @Bool.not_true @A4)) ?_;(repeat clear hK K);repeat refine kq fun K hK=>?_)
 (refine Cn rfl rfl (by simp only [go_sem] <;> rfl) ?_; intro K1 hK1; refine (A2 (ids := []) (Uf cl R.length (by omega)) rfl rfl (by simp only [go_sem]) (by kernel_rfl) (by (simp only [List.append_nil, go_sem]) <;> rfl) ?_).stp)
 rintro _ _ ⟨rfl, rfl⟩
 (refine Wk ?_; clear hK1 K1)
 (refine Wf (an @hC @Bool.not_true) ?_;(repeat clear hK K);repeat refine kq fun K hK=>?_)
 refine Wm ?_
 (refine We ?_;(repeat clear hK K);repeat refine kq fun K hK=>?_)
 (refine Wj (Nx R hv hn hr) ?_; intro K1 hK1)
 rintro _ _ ⟨B, hB, rfl, rfl⟩
 (refine Wk ?_; clear hK1 K1)
 have hBl := hB.1
 have hB2 : ∀ s, s < R.length -> B[s]? = some (B.getD s false) := fun s hs => by rw [gE2, gE1 (by omega)]; rfl
 have hend : ∀ r o, Yc (CH (qR R cl B)).1 r o -> ∃ B, DvL R B /\ Yc (CH (qR R cl B)).1 r o := fun r o h => ⟨B, hB, h⟩
 (refine We ?_;(repeat clear hK K);repeat refine kq fun K hK=>?_)
 (refine Wj (Ug cl hcl1 (by omega)) ?_; intro K1 hK1)
 rintro _ _ ⟨rfl, rfl⟩
 (refine Wk ?_; clear hK1 K1)
 have hqR := Ue (B := B) hlo hC
 have hqe : qR R cl B = DJ (Ya (Y6 cl) (Y7 cl) B R.length) (C4 (Y6 cl) (Y7 cl) R R.length) (Y7 cl) := rfl
 rw [hqe] at hqR
 generalize IY cl[0] cl = mx at *
 generalize hm : Y7 cl = m at *
 generalize hf : Y6 cl = f at *
 (refine Wf (an @hmax @A4) ?_;(repeat clear hK K);repeat refine kq fun K hK=>?_)
 have e1 : List.replicate m (C.o (2, 40) []) = Ay (C4 f m R 0) := by simp [Ay, C4, At]
 have e2 : List.replicate m (C.v (.bool false)) = WP (Ya f m B 0) := by
  have : Ya f m B 0 = List.replicate m false := List.ext_getElem (by simp [Ya]) fun i h1 h2 => by simp [Ya]
  rw [this]; simp [WP]
 rw [e1, e2]
 have hfm : ∀ v, v < R.length -> f v < m := fun v hv => (hcl v hv).1
 refine A6 (fun s : Nat => { tm := [(1, .a (.c (.t 1 (Aa cl)))), (2, .a (.c (.p 0 0))), (4, .a (.c (.p 1 0))), (6, .a (.c (.t 1 (Xl B)))), (7, .a (.c (.s 2 m))), (8, .a (.c (.s 3 m))), (40, .a (.c (.t 1 (Ai R)))), (41, .i R.length), (42, .i s)], hp := [.r ⟨25, 1, false, [.t 1 (Ai R)]⟩, .r ⟨25, 1, false, [.v (.slice none 0 0)]⟩, .r ⟨41, 1, true, Ay (C4 f m R s)⟩, .r ⟨4, 1, true, WP (Ya f m B s)⟩], n := 130, pin := 0 }) (fun s => s <= R.length) (fun s => R.length - s) 0 ?_ ?_ ?_
 ·omega
 ·exact Wo
 rintro s hs K hK
 by_cases hlt : s < R.length
 rotate_left
 ·have d1 : decide ((s : Int) < (R.length : Int)) = false := by simpa using hlt
  have hse : s = R.length := by omega
  rw [hse] at d1
  rw [hse]
  (refine Wf @d1 ?_;(repeat clear hK K);repeat refine kq fun K hK=>?_)
  refine Wm ?_
  (refine Wi ?_;repeat clear hK K)
  have hLl := Fj f m B R.length
  have hOl := Db f m R R.length
  have hOt := GD f m R R.length (Nat.le_refl _)
  rw [List.take_length] at hOt
  generalize Ya f m B R.length = L at *
  generalize C4 f m R R.length = O at *
  (refine Av (BA (r := ⟨4, 1, true, WP L⟩) 3 (Xl L) rfl (Nw _) (show 0 < (1 : Nat) by omega)) ?_; simp only [ST.frz, A0.frz, AV.frz, C.frz, Nat.le_refl, List.set_cons_zero, List.set_cons_succ, go_sem, show (Xl L).take m = Xl L from gE7 (by rw [Bw]; omega), Bw, hLl])
  (refine Wf (an @Bw @hLl) ?_;(repeat clear hK K);repeat refine kq fun K hK=>?_)
  refine Av (A8 [1, 2] rfl rfl) ?_
  (try simp only [List.set_nil, List.take_nil, List.take_zero, List.map_append, go_sem])
  (try simp only [Bv])
  refine A6 (fun k : Nat => { tm := [(4, .a (.c (.p 0 0))), (7, .a (.c (.s 1 m))), (101, .a (.c (.t 1 (Xl L)))), (102, .i m), (103, .i k)], hp := [.r ⟨25, 1, false, [.v (.slice none 0 0)]⟩, .r ⟨41, 1, true, Ay (DJ L O k)⟩], n := 130, pin := 0 }) (fun k => k <= m) (fun k => m - k) 0 ?_ ?_ ?_
  ·omega
  ·simp only [DJ]
   exact Wo
  rintro k hk K hK
  by_cases hlk : k < m
  rotate_left
  ·have d2 : decide ((k : Int) < (m : Int)) = false := by simpa using hlk
   have hke : k = m := by omega
   rw [hke] at d2
   rw [hke]
   (refine Wf @d2 ?_;(repeat clear hK K);repeat refine kq fun K hK=>?_)
   refine Wm ?_
   (refine Wi ?_;repeat clear hK K)
   obtain ⟨hql, hqb, hqt⟩ := hqR
   generalize DJ L O m = T at *
   have hrT : ∀ r ∈ T, r.length <= 1000000 := fun r hr0 => by
    obtain ⟨j, hj, rfl⟩ := List.getElem_of_mem hr0
    have h := EH T j
    rw [gE2, gE1 hj, Option.getD_some] at h
    omega
   have hco := Ol T (by omega) (fun r hr0 a ha => by have := hqb r hr0 a ha; exact ⟨this.2.2.1, this.2.2.2⟩) (by omega) hrT
   generalize hxe : (CH T).1 = x at *
   refine Av (CD 1 rfl) ?_
   simp only [Gs, go_sem]
   have htk : (Ai T).take m = Ai T := gE7 (by rw [A4]; omega)
   (refine Av (BA (r := ⟨41, 1, true, AC T⟩) 1 (Ai T) rfl (Ee _) (show 0 < (1 : Nat) by omega)) ?_; simp only [ST.frz, A0.frz, AV.frz, C.frz, Nat.le_refl, List.set_cons_zero, List.set_cons_succ, go_sem, htk, A4, hql])
   (refine We ?_;(repeat clear hK K);repeat refine kq fun K hK=>?_)
   (refine Wj hco ?_; intro K1 hK1)
   intro r0 o0 h0
   by_cases ht : AN x <= 262144
   ·rw [Yb, if_pos ht] at h0
    obtain ⟨rfl, rfl⟩ := h0
    (refine Wk ?_; clear hK1 K1)
    (refine Cr @Bool.not_true ?_;(repeat clear hK K);repeat refine kq fun K hK=>?_)
    refine Wm ?_
    (refine Oy ?_;(repeat clear hK K);repeat refine kq fun K hK=>?_)
    refine Wp [0] Tryz.results53 ?_
    refine hend _ _ ?_
    rw [hqe, hxe, Yc, if_pos ht]
    exact ⟨rfl, rfl⟩
   rw [Yb, if_neg ht] at h0
   obtain ⟨rfl, rfl⟩ := h0
   (refine Wk ?_; clear hK1 K1)
   (refine Cr @Bool.not_false ?_;(repeat clear hK K);repeat refine kq fun K hK=>?_)
   refine Wl ?_
   (refine Oy ?_;(repeat clear hK K);repeat refine kq fun K hK=>?_)
   refine Wp [0] Tryz.results53 ?_
   refine hend _ _ ?_
   rw [hqe, hxe, Yc, if_neg ht]
   exact ⟨rfl, rfl⟩
  have d2 : decide ((k : Int) < (m : Int)) = true := by simpa using hlk
  have gL : (Xl L)[k]? = some (.v (.bool (L.getD k false))) := Ff (by rw [gE2, gE1 (by omega)]; rfl)
  have hol := GB L O k
  have hot := IP L O k
  have hsn : DJ L O (k + 1) = CN (Y9 (L.getD k false) k) k (DJ L O k) := rfl
  rw [hOl] at hol
  generalize DJ L O k = o at *
  have hrw := EH o k
  have hgo : o[k]? = some (o.getD k []) := by
   rw [gE2, gE1 (by omega)]; rfl
  cases hb : L.getD k false with
  | true =>
   rw [hb] at gL hsn
   have hA : CN (Y9 true k) k o = o.set k (o.getD k [] ++ [(0, (k : Int))]) := rfl
   generalize o.getD k [] = oc at *
   (refine Wf @d2 ?_;(repeat clear hK K);repeat refine kq fun K hK=>?_)
   refine Wl ?_
   (refine Wf (an @Bw (an @hLl @gL)) ?_;(repeat clear hK K);repeat refine kq fun K hK=>?_)
   refine Wl ?_
   (refine Cr (an @AB (an (Bu hgo) (an @hol (an @Cl (an @List.length_set.{0} (an @List.set_cons_zero.{0} (an @List.set_cons_succ.{0} (an @List.take_succ_cons.{0} (an @List.take_zero.{0} (an @List.drop_zero.{0} (an @List.length_take.{0} (an @List.length_drop.{0} (an @List.length_append.{0} (an @A3 (an @Al (an @Bl (an @DR (an @Co (an @Ah (an @Dz (an @Br (an @Cm @D3)))))))))))))))))))))) ?_;(repeat clear hK K);repeat refine kq fun K hK=>?_)
   have hj6 : ((Ay o).set k (C.s 3 (oc.length + 1)))[k]? = some (.s 3 (oc.length + 1)) := by rw [gEc (by rw [AB]; omega)]
   have hset6 : ((Ay o).set k (C.s 3 (oc.length + 1))).set k (.o (2, 40) (At (oc ++ [(0, (k : Int))]))) = Ay (o.set k (oc ++ [(0, (k : Int))])) := by rw [Cl, CB]
   refine Wn ?_
   refine hK _ (k + 1) (by omega) (by omega) ?_
   refine Le.trans (AR (r := ⟨40, 2, true, As (oc ++ [(0, (k : Int))])⟩) (ri := ⟨41, 1, true, (Ay o).set k (C.s 3 (oc.length + 1))⟩) (ts := At (oc ++ [(0, (k : Int))])) 1 k 3 (oc.length + 1) (by decide) rfl hj6 rfl rfl (show 0 < 2 by omega) (by rw [Ah]; simp) (DA _)) ?_
   simp only [hset6, go_sem]
   refine Le.trans (A8 [0, 1] rfl rfl) ?_
   (try simp only [List.set_nil, List.take_nil, List.take_zero, List.map_append, go_sem])
   (try simp only [Bv])
   rw [hsn, hA]
   exact Wo
  | false =>
   rw [hb] at gL hsn
   have hA : CN (Y9 false k) k o = o := rfl
   (refine Wf @d2 ?_;(repeat clear hK K);repeat refine kq fun K hK=>?_)
   refine Wl ?_
   (refine Wf (an @Bw (an @hLl @gL)) ?_;(repeat clear hK K);repeat refine kq fun K hK=>?_)
   refine Wm ?_
   (refine We ?_;(repeat clear hK K);repeat refine kq fun K hK=>?_)
   refine Wn ?_
   refine hK _ (k + 1) (by omega) (by omega) ?_
   rw [hsn, hA]
   exact Wo
 have d1 : decide ((s : Int) < (R.length : Int)) = true := by simpa using hlt
 have hgR := gE1 hlt
 have hrl := hr _ (gE6 hlt)
 obtain ⟨hfs, hgs⟩ := hcl s hlt
 have gC := Aj hgs
 have gB := Ff (hB2 s hlt)
 have hlset := SI (B := B) hfs
 have hll := Fj f m B s
 have gL : (WP (Ya f m B s))[f s]? = some (.v (.bool ((Ya f m B s).getD (f s) false))) := Hx (by rw [gE2, gE1 (by omega)]; rfl)
 have htot := GD f m R s hs
 have hto := BX hlt
 have htl3 := Gc R (s + 1)
 have hbs := hbd _ (gE6 hlt)
 have htl : C4 f m R (s + 1) = Da f (f s) (C4 f m R s) R[s] := by
  rw [C4, gE2, hgR, Option.getD_some]
 generalize hrow : R[s] = row at *
 cases hlb : (Ya f m B s).getD (f s) false with
 | true =>
  rw [hlb] at gL hlset
  rw [Bool.true_or] at hlset
  (refine Wf @d1 ?_;(repeat clear hK K);repeat refine kq fun K hK=>?_)
  refine Wl ?_
  (refine Cr (an @A4 (an (Ac hgR) (an @Yi (an @hCl (an @gC (an @Ci (an @hll (an @gL (an @Bw (an @hBl (an @gB (an @Ei (an @hlset (an @A3 @Al)))))))))))))) ?_;(repeat clear hK K);repeat refine kq fun K hK=>?_)
  refine A6 (fun k : Nat => { tm := [(1, .a (.c (.t 1 (Aa cl)))), (2, .a (.c (.p 0 0))), (4, .a (.c (.p 1 0))), (6, .a (.c (.t 1 (Xl B)))), (7, .a (.c (.s 2 m))), (8, .a (.c (.s 3 m))), (9, .i s), (11, .i (f s)), (40, .a (.c (.t 1 (Ai R)))), (41, .i R.length), (42, .i s), (64, .a (.c (.t 2 (At row)))), (65, .i row.length), (66, .i k)], hp := [.r ⟨25, 1, false, [.t 1 (Ai R)]⟩, .r ⟨25, 1, false, [.v (.slice none 0 0)]⟩, .r ⟨41, 1, true, Ay (Da f (f s) (C4 f m R s) (row.take k))⟩, .r ⟨4, 1, true, WP (Ya f m B (s + 1))⟩], n := 130, pin := 0 }) (fun k => k <= row.length) (fun k => row.length - k) 0 ?_ ?_ ?_
  ·omega
  ·simp only [List.take_zero, Da, List.foldl_nil]
   exact Wo
  rintro k hk K hK
  by_cases hlt3 : k < row.length
  rotate_left
  ·have d3 : decide ((k : Int) < (row.length : Int)) = false := by simpa using hlt3
   have hke3 : row.take k = row := gE7 (by omega)
   rw [hke3, <- htl]
   (refine Wf @d3 ?_;(repeat clear hK K);repeat refine kq fun K hK=>?_)
   refine Wm ?_
   (refine Wi ?_;repeat clear hK K)
   (refine We ?_;(repeat clear hK K);repeat refine kq fun K hK=>?_)
   refine Wn ?_
   refine hK _ (s + 1) (by omega) (by omega) ?_
   exact Wo
  have d3 : decide ((k : Int) < (row.length : Int)) = true := by simpa using hlt3
  have hat := Be hlt3
  have hb := hbs _ (gE6 hlt3)
  have hsn := He f (f s) (C4 f m R s) (row.take k) row[k]
  rw [<- gE8 hlt3] at hsn
  generalize row[k] = a at *
  obtain ⟨e, t⟩ := a
  simp only at hat hb
  obtain ⟨_, _, ht0, ht1⟩ := hb
  obtain ⟨tn, rfl⟩ : ∃ tn : Nat, t = (tn : Int) := ⟨t.toNat, by omega⟩
  have htn : tn < R.length := by omega
  obtain ⟨hft, hgt⟩ := hcl tn htn
  have gT := Aj hgt
  have hol : (Da f (f s) (C4 f m R s) (row.take k)).length = m := by rw [GA, Db]
  have hot := GC f (f s) (row.take k) (C4 f m R s)
  rw [List.length_take] at hot
  generalize Da f (f s) (C4 f m R s) (row.take k) = o at *
  have hrw := EH o (f s)
  have hgo : o[f s]? = some (o.getD (f s) []) := by
   rw [gE2, gE1 (by omega)]; rfl
  by_cases hq : e ≠ 0 \/ f tn ≠ f s
  rotate_left
  ·have hx : Y8 f (f s) (e, (tn : Int)) = none := by
    show (if e ≠ 0 \/ f tn ≠ f s then some (e, (f tn : Int)) else none) = _
    rw [if_neg hq]
   have hA : CN (Y8 f (f s) (e, (tn : Int))) (f s) o = o := by rw [hx]; rfl
   have he : e = 0 := Decidable.not_not.1 fun h => hq (.inl h)
   have hff : f tn = f s := Decidable.not_not.1 fun h => hq (.inr h)
   have d4 : (e != 0) = false := by simp [he]
   have d5 : ((f tn : Int) != (f s : Int)) = false := by simp [hff]
   (refine Wf @d3 ?_;(repeat clear hK K);repeat refine kq fun K hK=>?_)
   refine Wl ?_
   (refine Cr (an @hat (an @A3 (an @Al (an @d4 (an @d5 (an @Yi (an @hCl @gT))))))) ?_;(repeat clear hK K);repeat refine kq fun K hK=>?_)
   refine Wm ?_
   (refine We ?_;(repeat clear hK K);repeat refine kq fun K hK=>?_)
   refine Wn ?_
   refine hK _ (k + 1) (by omega) (by omega) ?_
   refine Le.trans (A8 [0, 1, 2, 3] rfl rfl) ?_
   (try simp only [List.set_nil, List.take_nil, List.take_zero, List.map_append, go_sem])
   (try simp only [BD, Bv])
   rw [hsn, hA]
   exact Wo
  have hx : Y8 f (f s) (e, (tn : Int)) = some (e, (f tn : Int)) := by
   show (if e ≠ 0 \/ f tn ≠ f s then some (e, (f tn : Int)) else none) = _
   rw [if_pos hq]
  have hA : CN (Y8 f (f s) (e, (tn : Int))) (f s) o = o.set (f s) (o.getD (f s) [] ++ [(e, (f tn : Int))]) := by rw [hx]; rfl
  generalize o.getD (f s) [] = oc at *
  by_cases he : e = 0
  rotate_left
  ·have d4 : (e != 0) = true := by simpa using he
   (refine Wf @d3 ?_;(repeat clear hK K);repeat refine kq fun K hK=>?_)
   refine Wl ?_
   (refine Cr (an @hat (an @A3 (an @Al (an @d4 (an @Yi (an @hCl @gT)))))) ?_;(repeat clear hK K);repeat refine kq fun K hK=>?_)
   refine Wl ?_
   (refine We ?_;(repeat clear hK K);repeat refine kq fun K hK=>?_)
   (refine AD [] (.m 0 0 0 (.m 1 0 0 (.m 2 0 0 (.m 3 0 0 (.m 4 0 0 (.m 5 1 15 (.m 6 0 0 (.m 7 1 14 (.m 8 0 0 (.m 9 0 0 (.m 10 1 14 (.m 11 0 0 (.m 12 1 14 (.m 13 0 0 (.a 14 (.a 15 (.m 16 0 0 (.a 17 .e)))))))))))))))))) (by kernel_rfl) (by kernel_rfl) (by intro c st h; simp [Ae, AJ, VD] at h) ?_)
   (refine Wh (an @AB (an (Bu hgo) (an @hol (an @Yi (an @hCl @gT))))) ?_; repeat clear hK K)
   (refine W4 rfl rfl ?_; intro K1 hK1; refine BF rfl ?_; simp only [go_sem]; (first | refine hK1 _ ?_ | refine AE (hK1 _ ?_)); clear hK1 K1)
   (refine EY rfl rfl rfl ?_; intro K1 hK1; refine CF rfl rfl rfl rfl (by first | rfl | simp only [CM, List.getD_cons_zero, List.getD_cons_succ, hne, List.isEmpty_cons, Bool.not_false, Bool.true_and, Bool.and_true, Bool.and_self]) rfl ?_; simp only [go_sem, Co, A3, Al, Br, Bu hgo]; (first | refine hK1 _ ?_ | refine AE (hK1 _ ?_)); clear hK1 K1)
   (refine Wh (an @AB @hol) ?_; repeat clear hK K)
   (refine W5 rfl rfl rfl rfl ?_; intro K1 hK1; refine B4 rfl ?_; simp only [go_sem, AB, List.length_set, Cl, hol]; (first | refine hK1 _ ?_ | refine AE (hK1 _ ?_)); clear hK1 K1)
   refine Cg ⟨by simp, by simp, ?_⟩
   (try simp only [Ae, AJ])
   refine hK _ ?_
   clear hK K
   have hj6 : ((Ay o).set (f s) (C.s 6 (oc.length + 1)))[f s]? = some (.s 6 (oc.length + 1)) := by rw [gEc (by rw [AB]; omega)]
   have hset6 : ((Ay o).set (f s) (C.s 6 (oc.length + 1))).set (f s) (.o (2, 40) (At (oc ++ [(e, (f tn : Int))]))) = Ay (o.set (f s) (oc ++ [(e, (f tn : Int))])) := by rw [Cl, CB]
   refine Av (AR (r := ⟨40, 2, true, As (oc ++ [(e, (f tn : Int))])⟩) (ri := ⟨41, 1, true, (Ay o).set (f s) (C.s 6 (oc.length + 1))⟩) (ts := At (oc ++ [(e, (f tn : Int))])) 2 (f s) 6 (oc.length + 1) (by decide) rfl hj6 rfl rfl (show 0 < 2 by omega) (by rw [Ah]; simp) (DA _)) ?_
   simp only [hset6, go_sem]
   (refine We ?_;(repeat clear hK K);repeat refine kq fun K hK=>?_)
   refine Wn ?_
   refine hK _ (k + 1) (by omega) (by omega) ?_
   refine Le.trans (A8 [0, 1, 2, 3] rfl rfl) ?_
   (try simp only [List.set_nil, List.take_nil, List.take_zero, List.map_append, go_sem])
   (try simp only [BD, Bv])
   rw [hsn, hA]
   exact Wo
  have d4 : (e != 0) = false := by simp [he]
  have d5 : ((f tn : Int) != (f s : Int)) = true := by
   have := hq.resolve_left (by simp [he])
   simp; omega
  (refine Wf @d3 ?_;(repeat clear hK K);repeat refine kq fun K hK=>?_)
  refine Wl ?_
  (refine Cr (an @hat (an @A3 (an @Al (an @d4 (an @d5 (an @Yi (an @hCl @gT))))))) ?_;(repeat clear hK K);repeat refine kq fun K hK=>?_)
  refine Wl ?_
  (refine We ?_;(repeat clear hK K);repeat refine kq fun K hK=>?_)
  (refine AD [] (.m 0 0 0 (.m 1 0 0 (.m 2 0 0 (.m 3 0 0 (.m 4 0 0 (.m 5 1 15 (.m 6 0 0 (.m 7 1 14 (.m 8 0 0 (.m 9 0 0 (.m 10 1 14 (.m 11 0 0 (.m 12 1 14 (.m 13 0 0 (.a 14 (.a 15 (.m 16 0 0 (.a 17 .e)))))))))))))))))) (by kernel_rfl) (by kernel_rfl) (by intro c st h; simp [Ae, AJ, VD] at h) ?_)
  (refine Wh (an @AB (an (Bu hgo) (an @hol (an @Yi (an @hCl @gT))))) ?_; repeat clear hK K)
  (refine W4 rfl rfl ?_; intro K1 hK1; refine BF rfl ?_; simp only [go_sem]; (first | refine hK1 _ ?_ | refine AE (hK1 _ ?_)); clear hK1 K1)
  (refine EY rfl rfl rfl ?_; intro K1 hK1; refine CF rfl rfl rfl rfl (by first | rfl | simp only [CM, List.getD_cons_zero, List.getD_cons_succ, hne, List.isEmpty_cons, Bool.not_false, Bool.true_and, Bool.and_true, Bool.and_self]) rfl ?_; simp only [go_sem, Co, A3, Al, Br, Bu hgo]; (first | refine hK1 _ ?_ | refine AE (hK1 _ ?_)); clear hK1 K1)
  (refine Wh (an @AB @hol) ?_; repeat clear hK K)
  (refine W5 rfl rfl rfl rfl ?_; intro K1 hK1; refine B4 rfl ?_; simp only [go_sem, AB, List.length_set, Cl, hol]; (first | refine hK1 _ ?_ | refine AE (hK1 _ ?_)); clear hK1 K1)
  refine Cg ⟨by simp, by simp, ?_⟩
  (try simp only [Ae, AJ])
  refine hK _ ?_
  clear hK K
  have hj6 : ((Ay o).set (f s) (C.s 6 (oc.length + 1)))[f s]? = some (.s 6 (oc.length + 1)) := by rw [gEc (by rw [AB]; omega)]
  have hset6 : ((Ay o).set (f s) (C.s 6 (oc.length + 1))).set (f s) (.o (2, 40) (At (oc ++ [(e, (f tn : Int))]))) = Ay (o.set (f s) (oc ++ [(e, (f tn : Int))])) := by rw [Cl, CB]
  refine Av (AR (r := ⟨40, 2, true, As (oc ++ [(e, (f tn : Int))])⟩) (ri := ⟨41, 1, true, (Ay o).set (f s) (C.s 6 (oc.length + 1))⟩) (ts := At (oc ++ [(e, (f tn : Int))])) 2 (f s) 6 (oc.length + 1) (by decide) rfl hj6 rfl rfl (show 0 < 2 by omega) (by rw [Ah]; simp) (DA _)) ?_
  simp only [hset6, go_sem]
  (refine We ?_;(repeat clear hK K);repeat refine kq fun K hK=>?_)
  refine Wn ?_
  refine hK _ (k + 1) (by omega) (by omega) ?_
  refine Le.trans (A8 [0, 1, 2, 3] rfl rfl) ?_
  (try simp only [List.set_nil, List.take_nil, List.take_zero, List.map_append, go_sem])
  (try simp only [BD, Bv])
  rw [hsn, hA]
  exact Wo
 | false =>
  rw [hlb] at gL hlset
  rw [Bool.false_or] at hlset
  (refine Wf @d1 ?_;(repeat clear hK K);repeat refine kq fun K hK=>?_)
  refine Wl ?_
  (refine Cr (an @A4 (an (Ac hgR) (an @Yi (an @hCl (an @gC (an @Ci (an @hll (an @gL (an @Bw (an @hBl (an @gB (an @Ei (an @hlset (an @A3 @Al)))))))))))))) ?_;(repeat clear hK K);repeat refine kq fun K hK=>?_)
  refine A6 (fun k : Nat => { tm := [(1, .a (.c (.t 1 (Aa cl)))), (2, .a (.c (.p 0 0))), (4, .a (.c (.p 1 0))), (6, .a (.c (.t 1 (Xl B)))), (7, .a (.c (.s 2 m))), (8, .a (.c (.s 3 m))), (9, .i s), (11, .i (f s)), (40, .a (.c (.t 1 (Ai R)))), (41, .i R.length), (42, .i s), (64, .a (.c (.t 2 (At row)))), (65, .i row.length), (66, .i k)], hp := [.r ⟨25, 1, false, [.t 1 (Ai R)]⟩, .r ⟨25, 1, false, [.v (.slice none 0 0)]⟩, .r ⟨41, 1, true, Ay (Da f (f s) (C4 f m R s) (row.take k))⟩, .r ⟨4, 1, true, WP (Ya f m B (s + 1))⟩], n := 130, pin := 0 }) (fun k => k <= row.length) (fun k => row.length - k) 0 ?_ ?_ ?_
  ·omega
  ·simp only [List.take_zero, Da, List.foldl_nil]
   exact Wo
  rintro k hk K hK
  by_cases hlt3 : k < row.length
  rotate_left
  ·have d3 : decide ((k : Int) < (row.length : Int)) = false := by simpa using hlt3
   have hke3 : row.take k = row := gE7 (by omega)
   rw [hke3, <- htl]
   (refine Wf @d3 ?_;(repeat clear hK K);repeat refine kq fun K hK=>?_)
   refine Wm ?_
   (refine Wi ?_;repeat clear hK K)
   (refine We ?_;(repeat clear hK K);repeat refine kq fun K hK=>?_)
   refine Wn ?_
   refine hK _ (s + 1) (by omega) (by omega) ?_
   exact Wo
  have d3 : decide ((k : Int) < (row.length : Int)) = true := by simpa using hlt3
  have hat := Be hlt3
  have hb := hbs _ (gE6 hlt3)
  have hsn := He f (f s) (C4 f m R s) (row.take k) row[k]
  rw [<- gE8 hlt3] at hsn
  generalize row[k] = a at *
  obtain ⟨e, t⟩ := a
  simp only at hat hb
  obtain ⟨_, _, ht0, ht1⟩ := hb
  obtain ⟨tn, rfl⟩ : ∃ tn : Nat, t = (tn : Int) := ⟨t.toNat, by omega⟩
  have htn : tn < R.length := by omega
  obtain ⟨hft, hgt⟩ := hcl tn htn
  have gT := Aj hgt
  have hol : (Da f (f s) (C4 f m R s) (row.take k)).length = m := by rw [GA, Db]
  have hot := GC f (f s) (row.take k) (C4 f m R s)
  rw [List.length_take] at hot
  generalize Da f (f s) (C4 f m R s) (row.take k) = o at *
  have hrw := EH o (f s)
  have hgo : o[f s]? = some (o.getD (f s) []) := by
   rw [gE2, gE1 (by omega)]; rfl
  by_cases hq : e ≠ 0 \/ f tn ≠ f s
  rotate_left
  ·have hx : Y8 f (f s) (e, (tn : Int)) = none := by
    show (if e ≠ 0 \/ f tn ≠ f s then some (e, (f tn : Int)) else none) = _
    rw [if_neg hq]
   have hA : CN (Y8 f (f s) (e, (tn : Int))) (f s) o = o := by rw [hx]; rfl
   have he : e = 0 := Decidable.not_not.1 fun h => hq (.inl h)
   have hff : f tn = f s := Decidable.not_not.1 fun h => hq (.inr h)
   have d4 : (e != 0) = false := by simp [he]
   have d5 : ((f tn : Int) != (f s : Int)) = false := by simp [hff]
   (refine Wf @d3 ?_;(repeat clear hK K);repeat refine kq fun K hK=>?_)
   refine Wl ?_
   (refine Cr (an @hat (an @A3 (an @Al (an @d4 (an @d5 (an @Yi (an @hCl @gT))))))) ?_;(repeat clear hK K);repeat refine kq fun K hK=>?_)
   refine Wm ?_
   (refine We ?_;(repeat clear hK K);repeat refine kq fun K hK=>?_)
   refine Wn ?_
   refine hK _ (k + 1) (by omega) (by omega) ?_
   refine Le.trans (A8 [0, 1, 2, 3] rfl rfl) ?_
   (try simp only [List.set_nil, List.take_nil, List.take_zero, List.map_append, go_sem])
   (try simp only [BD, Bv])
   rw [hsn, hA]
   exact Wo
  have hx : Y8 f (f s) (e, (tn : Int)) = some (e, (f tn : Int)) := by
   show (if e ≠ 0 \/ f tn ≠ f s then some (e, (f tn : Int)) else none) = _
   rw [if_pos hq]
  have hA : CN (Y8 f (f s) (e, (tn : Int))) (f s) o = o.set (f s) (o.getD (f s) [] ++ [(e, (f tn : Int))]) := by rw [hx]; rfl
  generalize o.getD (f s) [] = oc at *
  by_cases he : e = 0
  rotate_left
  ·have d4 : (e != 0) = true := by simpa using he
   (refine Wf @d3 ?_;(repeat clear hK K);repeat refine kq fun K hK=>?_)
   refine Wl ?_
   (refine Cr (an @hat (an @A3 (an @Al (an @d4 (an @Yi (an @hCl @gT)))))) ?_;(repeat clear hK K);repeat refine kq fun K hK=>?_)
   refine Wl ?_
   (refine We ?_;(repeat clear hK K);repeat refine kq fun K hK=>?_)
   (refine AD [] (.m 0 0 0 (.m 1 0 0 (.m 2 0 0 (.m 3 0 0 (.m 4 0 0 (.m 5 1 15 (.m 6 0 0 (.m 7 1 14 (.m 8 0 0 (.m 9 0 0 (.m 10 1 14 (.m 11 0 0 (.m 12 1 14 (.m 13 0 0 (.a 14 (.a 15 (.m 16 0 0 (.a 17 .e)))))))))))))))))) (by kernel_rfl) (by kernel_rfl) (by intro c st h; simp [Ae, AJ, VD] at h) ?_)
   (refine Wh (an @AB (an (Bu hgo) (an @hol (an @Yi (an @hCl @gT))))) ?_; repeat clear hK K)
   (refine W4 rfl rfl ?_; intro K1 hK1; refine BF rfl ?_; simp only [go_sem]; (first | refine hK1 _ ?_ | refine AE (hK1 _ ?_)); clear hK1 K1)
   (refine EY rfl rfl rfl ?_; intro K1 hK1; refine CF rfl rfl rfl rfl (by first | rfl | simp only [CM, List.getD_cons_zero, List.getD_cons_succ, hne, List.isEmpty_cons, Bool.not_false, Bool.true_and, Bool.and_true, Bool.and_self]) rfl ?_; simp only [go_sem, Co, A3, Al, Br, Bu hgo]; (first | refine hK1 _ ?_ | refine AE (hK1 _ ?_)); clear hK1 K1)
   (refine Wh (an @AB @hol) ?_; repeat clear hK K)
   (refine W5 rfl rfl rfl rfl ?_; intro K1 hK1; refine B4 rfl ?_; simp only [go_sem, AB, List.length_set, Cl, hol]; (first | refine hK1 _ ?_ | refine AE (hK1 _ ?_)); clear hK1 K1)
   refine Cg ⟨by simp, by simp, ?_⟩
   (try simp only [Ae, AJ])
   refine hK _ ?_
   clear hK K
   have hj6 : ((Ay o).set (f s) (C.s 6 (oc.length + 1)))[f s]? = some (.s 6 (oc.length + 1)) := by rw [gEc (by rw [AB]; omega)]
   have hset6 : ((Ay o).set (f s) (C.s 6 (oc.length + 1))).set (f s) (.o (2, 40) (At (oc ++ [(e, (f tn : Int))]))) = Ay (o.set (f s) (oc ++ [(e, (f tn : Int))])) := by rw [Cl, CB]
   refine Av (AR (r := ⟨40, 2, true, As (oc ++ [(e, (f tn : Int))])⟩) (ri := ⟨41, 1, true, (Ay o).set (f s) (C.s 6 (oc.length + 1))⟩) (ts := At (oc ++ [(e, (f tn : Int))])) 2 (f s) 6 (oc.length + 1) (by decide) rfl hj6 rfl rfl (show 0 < 2 by omega) (by rw [Ah]; simp) (DA _)) ?_
   simp only [hset6, go_sem]
   (refine We ?_;(repeat clear hK K);repeat refine kq fun K hK=>?_)
   refine Wn ?_
   refine hK _ (k + 1) (by omega) (by omega) ?_
   refine Le.trans (A8 [0, 1, 2, 3] rfl rfl) ?_
   (try simp only [List.set_nil, List.take_nil, List.take_zero, List.map_append, go_sem])
   (try simp only [BD, Bv])
   rw [hsn, hA]
   exact Wo
  have d4 : (e != 0) = false := by simp [he]
  have d5 : ((f tn : Int) != (f s : Int)) = true := by
   have := hq.resolve_left (by simp [he])
   simp; omega
  (refine Wf @d3 ?_;(repeat clear hK K);repeat refine kq fun K hK=>?_)
  refine Wl ?_
  (refine Cr (an @hat (an @A3 (an @Al (an @d4 (an @d5 (an @Yi (an @hCl @gT))))))) ?_;(repeat clear hK K);repeat refine kq fun K hK=>?_)
  refine Wl ?_
  (refine We ?_;(repeat clear hK K);repeat refine kq fun K hK=>?_)
  (refine AD [] (.m 0 0 0 (.m 1 0 0 (.m 2 0 0 (.m 3 0 0 (.m 4 0 0 (.m 5 1 15 (.m 6 0 0 (.m 7 1 14 (.m 8 0 0 (.m 9 0 0 (.m 10 1 14 (.m 11 0 0 (.m 12 1 14 (.m 13 0 0 (.a 14 (.a 15 (.m 16 0 0 (.a 17 .e)))))))))))))))))) (by kernel_rfl) (by kernel_rfl) (by intro c st h; simp [Ae, AJ, VD] at h) ?_)
  (refine Wh (an @AB (an (Bu hgo) (an @hol (an @Yi (an @hCl @gT))))) ?_; repeat clear hK K)
  (refine W4 rfl rfl ?_; intro K1 hK1; refine BF rfl ?_; simp only [go_sem]; (first | refine hK1 _ ?_ | refine AE (hK1 _ ?_)); clear hK1 K1)
  (refine EY rfl rfl rfl ?_; intro K1 hK1; refine CF rfl rfl rfl rfl (by first | rfl | simp only [CM, List.getD_cons_zero, List.getD_cons_succ, hne, List.isEmpty_cons, Bool.not_false, Bool.true_and, Bool.and_true, Bool.and_self]) rfl ?_; simp only [go_sem, Co, A3, Al, Br, Bu hgo]; (first | refine hK1 _ ?_ | refine AE (hK1 _ ?_)); clear hK1 K1)
  (refine Wh (an @AB @hol) ?_; repeat clear hK K)
  (refine W5 rfl rfl rfl rfl ?_; intro K1 hK1; refine B4 rfl ?_; simp only [go_sem, AB, List.length_set, Cl, hol]; (first | refine hK1 _ ?_ | refine AE (hK1 _ ?_)); clear hK1 K1)
  refine Cg ⟨by simp, by simp, ?_⟩
  (try simp only [Ae, AJ])
  refine hK _ ?_
  clear hK K
  have hj6 : ((Ay o).set (f s) (C.s 6 (oc.length + 1)))[f s]? = some (.s 6 (oc.length + 1)) := by rw [gEc (by rw [AB]; omega)]
  have hset6 : ((Ay o).set (f s) (C.s 6 (oc.length + 1))).set (f s) (.o (2, 40) (At (oc ++ [(e, (f tn : Int))]))) = Ay (o.set (f s) (oc ++ [(e, (f tn : Int))])) := by rw [Cl, CB]
  refine Av (AR (r := ⟨40, 2, true, As (oc ++ [(e, (f tn : Int))])⟩) (ri := ⟨41, 1, true, (Ay o).set (f s) (C.s 6 (oc.length + 1))⟩) (ts := At (oc ++ [(e, (f tn : Int))])) 2 (f s) 6 (oc.length + 1) (by decide) rfl hj6 rfl rfl (show 0 < 2 by omega) (by rw [Ah]; simp) (DA _)) ?_
  simp only [hset6, go_sem]
  (refine We ?_;(repeat clear hK K);repeat refine kq fun K hK=>?_)
  refine Wn ?_
  refine hK _ (k + 1) (by omega) (by omega) ?_
  refine Le.trans (A8 [0, 1, 2, 3] rfl rfl) ?_
  (try simp only [List.set_nil, List.take_nil, List.take_zero, List.map_append, go_sem])
  (try simp only [BD, Bv])
  rw [hsn, hA]
  exact Wo
def ZP (x : List (List Ar)) (r : AV) (o : List Ob) : Prop := o = [.r ⟨25, 1, false, [.t 1 (Ai x)]⟩] /\ r = .tup [.g [.t 1 (Ai x)], .c (.v (.int .i64 0))]
theorem Zp (R : List (List Ar)) (cl : List Int) (hv : BL R = true) (hC : M7 cl R.length = true) (hn : R.length <= 100) (ht : AN R <= 1000) (hr : ∀ r ∈ R, r.length <= 1000000) : FC Tryz.prog 58 [Bh R, Aq cl] [] (fun r o => ∃ B, DvL R B /\ ZP (CH (qR R cl B)).1 r o) := by
 refine A9 Tryz.func58 rfl (by rw [Tryz.ntmps58]; simp) ?_
 rw [Tryz.ntmps58]
 simp only [Bz, Bh, Aq]
 (refine We ?_;(repeat clear hK K);repeat refine kq fun K hK=>?_)
 (refine Wj (Uh R cl hv hC (by omega) hr) ?_; intro K1 hK1)
 intro r0 o0 ⟨B, hB, h0⟩
 have hlo : BK R = true := gEg (gE4 hv).1
 obtain ⟨b1, b2, b3⟩ := Ue (B := B) hlo hC
 have hm1 : 1 <= Y7 cl := by have := ((IL hC).2.2.1 0 (gE4 hlo).1).1; omega
 have hmn := (IL hC).2.1
 have hlq : BK (qR R cl B) = true := gEg ⟨by omega, by show (qR R cl B).length <= 16384; omega, by show AN (qR R cl B) <= 262144; omega, b2⟩
 have htX := LY hlq
 rw [Yc, if_pos (by omega)] at h0
 have hend : ∀ r o, ZP (CH (qR R cl B)).1 r o -> ∃ B, DvL R B /\ ZP (CH (qR R cl B)).1 r o := fun r o h => ⟨B, hB, h⟩
 generalize (CH (qR R cl B)).1 = x at *
 obtain ⟨rfl, rfl⟩ := h0
 (refine Wk ?_; clear hK1 K1)
 (refine Oy ?_;(repeat clear hK K);repeat refine kq fun K hK=>?_)
 refine Wp [1] Tryz.results58 ?_
 exact hend _ _ ⟨rfl, rfl⟩
set_option maxHeartbeats 1000000 in
theorem Ze (R : List (List Ar)) (hv : BL R = true) (hn : R.length <= 100) (ht : AN R <= 1000) (hr : ∀ r ∈ R, r.length <= 1000000) : FC Tryz.prog 36 [Bh R] [] (fun r o => ∃ c B, DlC R c /\ Nrm R.length c /\ DvL R B /\ ZP (CH (qR R c B)).1 r o) := by
 refine A9 Tryz.func36 rfl (by rw [Tryz.ntmps36]; simp) ?_
 rw [Tryz.ntmps36]
 simp only [Bz, Bh]
 (refine We ?_;(repeat clear hK K);repeat refine kq fun K hK=>?_)
 (refine BJ [] [(0, 1, 3), (1, 1, 2), (2, 2, 0), (3, 2, 0), (4, 0, 0), (5, 0, 0), (6, 2, 0), (7, 2, 0)] (by kernel_rfl) (by kernel_rfl) (by intro c st h; simp [Ae, AJ, VD] at h) ?_)
 (refine Wc ?_; repeat clear hK K)
 (refine W0 rfl rfl ?_; intro K1 hK1; refine Au ?_; refine xv [] (Z2 R hv hn ht hr) ?_ ?_)
 ·rintro _ _ ⟨_, _, _, rfl, rfl⟩ i o hi hl; simp at hl
 rintro _ _ ⟨c, hc, hN, rfl, rfl⟩
 (refine Wk ?_; clear hK1 K1)
 (refine Wc ?_; repeat clear hK K)
 (refine W0 rfl rfl ?_; intro K1 hK1; refine Au ?_; refine xv [] (Zp R c hv hN.num hn ht hr) ?_ ?_)
 ·rintro _ _ ⟨_, _, rfl, rfl⟩ i o hi hl; simp at hl
 rintro _ _ ⟨B, hB, rfl, rfl⟩
 have hend : ∀ r o, ZP (CH (qR R c B)).1 r o -> ∃ c B, DlC R c /\ Nrm R.length c /\ DvL R B /\ ZP (CH (qR R c B)).1 r o := fun r o h => ⟨c, B, hc, hN, hB, h⟩
 generalize (CH (qR R c B)).1 = x at *
 (refine Wk ?_; clear hK1 K1)
 (refine Wc ?_; repeat clear hK K)
 (refine W1 rfl rfl rfl ?_; intro K1 hK1; refine B4 rfl ?_; simp only [go_sem, ST.put, Dr, A0.cells]; (first | refine hK1 _ ?_ | refine AE (hK1 _ ?_)); clear hK1 K1)
 (refine W1 rfl rfl rfl ?_; intro K1 hK1; refine B4 rfl ?_; simp only [go_sem]; (first | refine hK1 _ ?_ | refine AE (hK1 _ ?_)); clear hK1 K1)
 (refine Wc ?_; repeat clear hK K)
 (refine We ?_;(repeat clear hK K);repeat refine kq fun K hK=>?_)
 refine Wp [1] Tryz.results36 ?_
 exact hend _ _ ⟨rfl, rfl⟩
theorem SN : Rc (WG true sK) 0 1 := .tail (.refl 0) (show 1 ∈ [1] by simp)
def sk (s : Nat) : Nat := if s <= 1 then 0 else 1
theorem Zy : MtK sK sk sK sk := by
 intro s t hs ht e
 have hs : s < 3 := hs
 have ht : t < 3 := ht
 refine ⟨fun d => absurd d (UQ s), fun a ha => ?_⟩
 by_cases he : s = t
 ·subst he; exact ⟨a, ha, rfl, rfl⟩
 have h2 : (s = 0 /\ t = 1) \/ (s = 1 /\ t = 0) := by
  unfold sk at e
  split at e <;> split at e <;> omega
 rcases (Hz DK hs).1 ha with ⟨h0, u, hu, hr⟩ | ⟨h0, v, hr, hv⟩
 ·have hu2 := Qc hr
  have hk : sk a.2.toNat = 0 := by rw [hu]; unfold sk; rw [if_pos (by simp only [Int.toNat_natCast]; omega)]
  have hr1 : Rc (WG true sK) t 1 := by
   rcases h2 with ⟨_, rfl⟩ | ⟨_, rfl⟩
   ·exact .refl 1
   exact SN
  exact ⟨(0, 1), (Hz DK ht).2 (.inl ⟨rfl, 1, rfl, hr1⟩), h0.symm, by rw [hk]; rfl⟩
 have hv2 := Qc hr
 have hv1 : v = 1 := by
  have : v = 0 \/ v = 1 := by omega
  rcases this with rfl | rfl
  rotate_left
  ·rfl
  have e0 : sK.getD 0 [] = [(0, 1)] := rfl
  rw [e0] at hv
  simp at hv
  exact absurd (by rw [hv]) h0
 subst hv1
 have hr1 : Rc (WG true sK) t 1 := by
  rcases h2 with ⟨_, rfl⟩ | ⟨_, rfl⟩
  ·exact .refl 1
  exact SN
 exact ⟨a, (Hz DK ht).2 (.inr ⟨h0, 1, hr1, hv⟩), rfl, rfl⟩
theorem V1 {c : List Int} (hc : DlC sK c) (hN : Nrm sK.length c) : c = [0, 0, 1] := by
 have h01 : c.getD 0 0 = c.getD 1 0 := Zy.le DK (by decide) hc (by decide) (by decide) rfl
 have h02 : c.getD 0 0 ≠ c.getD 2 0 := fun h => by
  obtain ⟨_, q⟩ := DlC.key DK (by decide) hc 0 2 (by decide) (by decide) h
  obtain ⟨b, hb, e1, _⟩ := q (2, 2) ((Hz DK (by decide)).2 (.inr ⟨by decide, 1, SN, by show (2, 2) ∈ [((2 : Int), (2 : Int))]; simp⟩))
  rcases (Hz DK (by decide)).1 hb with ⟨h0, _⟩ | ⟨h0, t, hr, ht⟩
  ·rw [h0] at e1; simp at e1
  have := Qc hr
  have : t = 2 := by omega
  subst this
  have e0 : sK.getD 2 [] = [] := rfl
  rw [e0] at ht
  simp at ht
 have hs3 : ∀ s, s < 3 -> (c.getD s 0 = c.getD 0 0 /\ sk s = 0) \/ (c.getD s 0 = c.getD 2 0 /\ sk s = 1)
  | 0, _ => .inl ⟨rfl, rfl⟩
  | 1, _ => .inl ⟨h01.symm, rfl⟩
  | 2, _ => .inr ⟨rfl, rfl⟩
 have e : Ww (fun s => c.getD s 0) 3 = Ww sk 3 := Jk 3 fun s t hs ht => by
  rcases hs3 s hs with ⟨a1, a2⟩ | ⟨a1, a2⟩ <;> rcases hs3 t ht with ⟨b1, b2⟩ | ⟨b1, b2⟩ <;> rw [a1, b1, a2, b2]
  ·exact iff_of_true rfl rfl
  ·exact iff_of_false h02 (by decide)
  ·exact iff_of_false h02.symm (by decide)
  exact iff_of_true rfl rfl
 have h3 : (Ww (fun s => c.getD s 0) 3).1 = c := hN
 rw [<- h3, e]
 rfl
theorem Uk : FC Tryz.prog 36 [Bh sK] [] (fun r o => o = [.r ⟨25, 1, false, [.t 1 (Ai sQ)]⟩] /\ r = .tup [.g [.t 1 (Ai sQ)], .c (.v (.int .i64 0))]) :=
 (Ze sK DK (by decide) (by decide) (by decide)).mono fun r o ⟨c, B, hc, hN, hB, h⟩ => by
  rw [V1 hc hN, hB.uniq V0, Ve] at h
  exact h
theorem Ul : FC Tryz.prog 38 [Bh sK] [] (fun r o => o = [] /\ r = Aq [0, 0, 1]) :=
 (Z2 sK DK (by decide) (by decide) (by decide)).mono fun r o ⟨c, hc, hN, h1, h2⟩ => by
  rw [V1 hc hN] at h2
  exact ⟨h1, h2⟩
set_option maxHeartbeats 1000000 in
theorem SO : FC Tryz.prog 37 [] [] (fun r o => o = [.r ⟨25, 1, false, [.t 1 (Ai sK)]⟩] /\ r = Bh sK) := by
 refine A9 Tryz.func37 rfl (by rw [Tryz.ntmps37]; simp) ?_
 rw [Tryz.ntmps37]
 simp only [Bz]
 (refine Oy ?_;(repeat clear hK K);repeat refine kq fun K hK=>?_)
 refine Av (AR (r := ⟨40, 2, true, As [(0, 1)]⟩) (ts := At [(0, 1)]) 3 0 1 1 (by decide) rfl rfl rfl rfl (show 0 < 2 by omega) rfl (DA _)) ?_
 simp only [go_sem]
 refine Av (AR (r := ⟨40, 2, true, As [(2, 2)]⟩) (ts := At [(2, 2)]) 3 1 2 1 (by decide) rfl rfl rfl rfl (show 0 < 2 by omega) rfl (DA _)) ?_
 simp only [go_sem]
 refine Av (TH 3 [2, 2, 2] rfl) ?_
 simp only [Xk, VH, go_sem]
 refine Av (AR (r := ⟨41, 1, true, AC sK⟩) (ri := ⟨25, 1, false, [.s 3 3]⟩) (ts := Ai sK) 0 0 3 3 (by decide) rfl rfl rfl rfl (show 0 < 1 by omega) rfl (Ee _)) ?_
 simp only [go_sem]
 refine Av (CD 0 rfl) ?_
 simp only [VH, go_sem]
 ((try refine AF ?_); (try simp only [Ae, AJ]); refine Bm (A8 [0] rfl rfl) ?_; (try simp only [List.set_nil, List.take_nil, List.take_zero, List.map_append, go_sem]); ((try refine AF ?_); (try refine Ab ?_); (try simp only [Ae, AJ]); refine BE (by first | exact .inl rfl | exact .inr rfl) rfl ?_; simp only [VE, EO, Em, EU, Tryz.results37, go_sem, true_and, and_true, Bh]))
set_option maxHeartbeats 2000000 in
theorem YE : FC Tryz.prog 20 [] [] (fun r _ => r = .b true) := by
 refine A9 Tryz.func20 rfl (by rw [Tryz.ntmps20]; simp) ?_
 rw [Tryz.ntmps20]
 simp only [Bz]
 have hcn := SO
 have hsd := Uk
 have hcl := Ul
 have hsi := DX [0, 0, 1] [0, 0, 1] (by decide) (by decide)
 have hsm := SM sQ (by decide) (by decide)
 simp only [Bh, Aq] at hcn hsd hcl hsi hsm
 (refine We ?_;(repeat clear hK K);repeat refine kq fun K hK=>?_)
 (refine Wj hcn ?_; intro K1 hK1)
 rintro _ _ ⟨rfl, rfl⟩
 (refine Wk ?_; clear hK1 K1)
 (refine We ?_;(repeat clear hK K);repeat refine kq fun K hK=>?_)
 (refine Wj hsd ?_; intro K1 hK1)
 rintro _ _ ⟨rfl, rfl⟩
 (refine Wk ?_; clear hK1 K1)
 (refine Oy ?_;(repeat clear hK K);repeat refine kq fun K hK=>?_)
 (refine Cn rfl rfl (by simp only [go_sem] <;> rfl) ?_; intro K1 hK1; refine (A2 (ids := []) (hcn) rfl rfl (by simp only [go_sem]) (by kernel_rfl) (by (simp only [List.append_nil, go_sem]) <;> rfl) ?_).stp)
 rintro _ _ ⟨rfl, rfl⟩
 (refine Wk ?_; clear hK1 K1)
 (refine We ?_;(repeat clear hK K);repeat refine kq fun K hK=>?_)
 (refine Cn rfl rfl (by simp only [go_sem] <;> rfl) ?_; intro K1 hK1; refine (A2 (ids := []) (hcl) rfl rfl (by simp only [go_sem]) (by kernel_rfl) (by (simp only [List.append_nil, go_sem]) <;> rfl) ?_).stp)
 rintro _ _ ⟨rfl, rfl⟩
 (refine Wk ?_; clear hK1 K1)
 (refine Oy ?_;(repeat clear hK K);repeat refine kq fun K hK=>?_)
 (refine D4 (BA (r := ⟨3, 1, true, A7 [0, 0, 1]⟩) 4 (Aa [0, 0, 1]) rfl (Gd _) (show 0 < (1 : Nat) by omega)) ?_; simp only [ST.frz, A0.frz, AV.frz, C.frz, Nat.le_refl, List.set_cons_zero, List.set_cons_succ, go_sem, show (Aa [0, 0, 1]).take 3 = Aa [0, 0, 1] from rfl, show (if 3 <= (Aa [0, 0, 1]).length then C.t 1 (Aa [0, 0, 1]) else C.u) = C.t 1 (Aa [0, 0, 1]) from rfl])
 (refine Cn rfl rfl (by simp only [go_sem] <;> rfl) ?_; intro K1 hK1; refine (A2 (ids := []) (hsi) rfl rfl (by simp only [go_sem]) (by kernel_rfl) (by (simp only [List.append_nil, go_sem]) <;> rfl) ?_).stp)
 rintro _ _ ⟨rfl, rfl⟩
 (refine Wk ?_; clear hK1 K1)
 (refine Oy ?_;(repeat clear hK K);repeat refine kq fun K hK=>?_)
 refine D4 (AR (r := ⟨40, 2, true, As [(2, 1)]⟩) (ts := At [(2, 1)]) 6 0 5 1 (by decide) rfl rfl rfl rfl (show 0 < 2 by omega) rfl (DA _)) ?_
 simp only [go_sem]
 refine D4 (TH 6 [2, 2] rfl) ?_
 simp only [Xk, VH, go_sem]
 (refine D4 (BA (r := ⟨41, 1, true, AC sQ⟩) 6 (Ai sQ) rfl (Ee _) (show 0 < (1 : Nat) by omega)) ?_; simp only [ST.frz, A0.frz, AV.frz, C.frz, Nat.le_refl, List.set_cons_zero, List.set_cons_succ, go_sem, show (Ai sQ).take 2 = Ai sQ from rfl, show (if 2 <= (Ai sQ).length then C.t 1 (Ai sQ) else C.u) = C.t 1 (Ai sQ) from rfl])
 (refine Cn rfl rfl (by simp only [go_sem] <;> rfl) ?_; intro K1 hK1; refine (A2 (ids := []) (hsm) rfl rfl (by simp only [go_sem]) (by kernel_rfl) (by (simp only [List.append_nil, go_sem]) <;> rfl) ?_).stp)
 rintro _ _ ⟨rfl, rfl⟩
 (refine Wk ?_; clear hK1 K1)
 (refine We ?_;(repeat clear hK K);repeat refine kq fun K hK=>?_)
 exact P0 Tryz.results20
set_option maxHeartbeats 2000000 in
theorem Zf : FC Tryz.prog 5 [] [] (fun r _ => r = .b true) := by
 refine A9 Tryz.func5 rfl (by rw [Tryz.ntmps5]; simp) ?_
 rw [Tryz.ntmps5]
 simp only [Bz]
 have hde := Zl ZK ZL YA YB (by decide) (by decide) (by decide) (by decide)
 have hwe := Yv ZK ZL YA YB (by decide) (by decide) (by decide) (by decide)
 rw [Zx] at hde
 rw [Zo] at hwe
 simp only [Bh] at hde hwe
 (repeat (first | (refine AG ?_; intro K hK) | refine Am ?_ | refine Ag ?_))
 (repeat (refine Bg rfl rfl ?_; intro K1 hK1; simp only [go_sem, ST.put, Dr, A0.cells]; refine hK1 _ ?_; clear hK1 K1))
 (first | refine Ab ?_ | refine Ap ?_)
 refine hK _ ?_
 clear hK K
 (repeat (first | (refine AG ?_; intro K hK) | refine Am ?_ | refine Ag ?_))
 (repeat (refine Bg rfl rfl ?_; intro K1 hK1; simp only [go_sem, ST.put, Dr, A0.cells]; refine hK1 _ ?_; clear hK1 K1))
 (first | refine Ab ?_ | refine Ap ?_)
 refine hK _ ?_
 clear hK K
 (repeat (first | (refine AG ?_; intro K hK) | refine Am ?_ | refine Ag ?_))
 (repeat (refine Bg rfl rfl ?_; intro K1 hK1; simp only [go_sem, ST.put, Dr, A0.cells]; refine hK1 _ ?_; clear hK1 K1))
 (first | refine Ab ?_ | refine Ap ?_)
 refine hK _ ?_
 clear hK K
 refine Av (AR (r := ⟨40, 2, true, As [(2, 1), (2, 2)]⟩) (ts := At [(2, 1), (2, 2)]) 3 0 0 2 (by decide) rfl rfl rfl rfl (show 0 < 2 by omega) rfl (DA _)) ?_
 simp only [go_sem]
 refine Av (AR (r := ⟨40, 2, true, As [(0, 2), (3, 3)]⟩) (ts := At [(0, 2), (3, 3)]) 3 1 1 2 (by decide) rfl rfl rfl rfl (show 0 < 2 by omega) rfl (DA _)) ?_
 simp only [go_sem]
 refine Av (AR (r := ⟨40, 2, true, As [(4, 3)]⟩) (ts := At [(4, 3)]) 3 2 2 1 (by decide) rfl rfl rfl rfl (show 0 < 2 by omega) rfl (DA _)) ?_
 simp only [go_sem]
 refine Av (TH 3 [2, 2, 2, 2] rfl) ?_
 simp only [Xk, VH, go_sem]
 refine Av (AR (r := ⟨41, 1, true, AC ZK⟩) (ri := ⟨25, 1, false, [.s 3 4]⟩) (ts := Ai ZK) 4 0 3 4 (by decide) rfl rfl rfl rfl (show 0 < 1 by omega) rfl (Ee _)) ?_
 simp only [go_sem]
 refine Av (CD 4 rfl) ?_
 simp only [VH, go_sem]
 refine Av (AR (r := ⟨40, 2, true, As [(2, 1)]⟩) (ts := At [(2, 1)]) 8 0 5 1 (by decide) rfl rfl rfl rfl (show 0 < 2 by omega) rfl (DA _)) ?_
 simp only [go_sem]
 refine Av (AR (r := ⟨40, 2, true, As [(0, 2), (3, 3)]⟩) (ts := At [(0, 2), (3, 3)]) 8 1 6 2 (by decide) rfl rfl rfl rfl (show 0 < 2 by omega) rfl (DA _)) ?_
 simp only [go_sem]
 refine Av (AR (r := ⟨40, 2, true, As [(4, 3)]⟩) (ts := At [(4, 3)]) 8 2 7 1 (by decide) rfl rfl rfl rfl (show 0 < 2 by omega) rfl (DA _)) ?_
 simp only [go_sem]
 refine Av (TH 8 [2, 2, 2, 2] rfl) ?_
 simp only [Xk, VH, go_sem]
 refine Av (AR (r := ⟨41, 1, true, AC ZL⟩) (ri := ⟨25, 1, false, [.s 8 4]⟩) (ts := Ai ZL) 9 0 8 4 (by decide) rfl rfl rfl rfl (show 0 < 1 by omega) rfl (Ee _)) ?_
 simp only [go_sem]
 refine Av (CD 9 rfl) ?_
 simp only [VH, go_sem]
 (refine We ?_;(repeat clear hK K);repeat refine kq fun K hK=>?_)
 (refine Wj hde ?_; intro K1 hK1)
 rintro _ _ ⟨rfl, rfl⟩
 (refine Wk ?_; clear hK1 K1)
 (refine Wf @Bool.not_false ?_;(repeat clear hK K);repeat refine kq fun K hK=>?_)
 (refine Cn rfl rfl (by simp only [go_sem] <;> rfl) ?_; intro K1 hK1; refine (A2 (ids := []) (hwe) rfl rfl (by simp only [go_sem]) (by kernel_rfl) (by (simp only [List.append_nil, go_sem]) <;> rfl) ?_).stp)
 rintro _ _ ⟨rfl, rfl⟩
 (refine Wk ?_; clear hK1 K1)
 (refine We ?_;(repeat clear hK K);repeat refine kq fun K hK=>?_)
 (refine Cn rfl rfl (by simp only [go_sem] <;> rfl) ?_; intro K1 hK1; refine (A2 (ids := []) (YE) rfl rfl (by simp only [go_sem]) (by kernel_rfl) (by (simp only [List.append_nil, go_sem]) <;> rfl) ?_).stp)
 rintro _ _ rfl
 (refine Wk ?_; clear hK1 K1)
 (refine We ?_;(repeat clear hK K);repeat refine kq fun K hK=>?_)
 exact P0 Tryz.results5
end Go.Proofs.YthnkailnoobdoaaGreatDoor
