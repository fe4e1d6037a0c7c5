/- Lemmas. -/
import Derived.Test.YthnkailnoobdoaaGreatDoorZk
import Derived.Test.YthnkailnoobdoaaGreatDoorMG
import Derived.Test.YthnkailnoobdoaaGreatDoorG77
import Derived.Test.YthnkailnoobdoaaGreatDoorShlfD
import Derived.Test.YthnkailnoobdoaaGreatDoorMD
namespace Go.Proofs.YthnkailnoobdoaaGreatDoor
set_option linter.unusedVariables false
set_option linter.unusedSimpArgs false
open Go.RowKit Go.Shelf Go.Sort
set_option maxRecDepth 100000

set_option maxHeartbeats 1000000 in
theorem YV (f : FuncId) (hf : BB Tryz.prog f = true) (hcmp : ∀ a b : Ar, FC Tryz.prog f [.a (.g [.v (.int .i64 a.1), .v (.int .i64 a.2)]), .a (.g [.v (.int .i64 b.1), .v (.int .i64 b.2)])] [] (fun r o => o = [] /\ r = .i (Gb a b))) (L : List Ar) (hsz : L.length <= 100000000) :
  FC Tryz.prog 81 [.a (.c (.s 0 L.length)), .a (.c (.f f []))] [.r ⟨83, 2, true, As L⟩]
   (fun r o => r = .u /\ ∃ L' : List Ar, L'.Perm L /\ L'.Pairwise (fun a b => Wu b a = false) /\ o = [.r ⟨83, 2, true, As L'⟩]) := by
 intro g w vals hr hargs
 obtain ⟨hlen, hargs⟩ := hargs
 obtain ⟨v1, e1, b1, b2, A, rfl, b4, b5⟩ := hargs 0 _ rfl
 obtain ⟨v2, e2, c1, c2⟩ := hargs 1 _ rfl
 have hv2 : v2 = .func (.func f) #[] #[] := by rw [c2]; simp [Vj]
 subst hv2
 have hvals : vals = [.slice A L.length (g.κ 0), .func (.func f) #[] #[]] := by
  match vals, hlen with
  | [a, b], _ => simp at e1 e2; simp [e1, e2]
 subst hvals
 rcases hr.row 0 _ rfl with ⟨h0, hnil⟩ | ⟨h0, hne, arr, ha, hle, hs, hmx, hcells⟩
 ·have hL0 : L = [] := by
   have : (As L).length = 0 := by have h : As L = [] := hnil; rw [h]; rfl
   rw [Ah] at this
   exact List.length_eq_zero_iff.1 (by omega)
  subst hL0
  refine (AnyF.slices_SortFunc_none Tryz.sortArrows A (g.κ 0) (.func (.func f) #[] #[]) w).mono ?_
  rintro e' w' ⟨rfl, rfl⟩
  exact ⟨.tuple #[], .u, _, g, rfl, ⟨rfl, [], List.Perm.refl _, List.Pairwise.nil, rfl⟩, hr, ⟨Nat.le_refl _, Ext.refl _ _⟩, fun ℓ hl => .inl ⟨ℓ, hl, rfl⟩, trivial, Fp.refl _ _⟩
 have hL0 : L ≠ [] := fun e => by subst e; exact hne rfl rfl
 have x0 : 0 < L.length := List.length_pos_iff.2 hL0
 rw [b4 h0] at *
 have hblk : g.γ (.ob 0) < w.heap.size := (Array.getElem?_eq_some_iff.1 ha).1
 have hle' : L.length * 2 <= arr.size := by simpa [Ah] using hle
 have hfl := Dc WK 2 (fun _ => rfl) L
 have hget : ∀ j, j < L.length * 2 -> arr[j]? = (L.flatMap WK)[j]? := by
  intro j hj
  obtain ⟨v, hv⟩ : ∃ v, (L.flatMap WK)[j]? = some v := ⟨_, gE1 (by rw [hfl]; exact hj)⟩
  obtain ⟨u, u1, u2⟩ := hcells j (.v v) (by rw [Gi, List.getElem?_map, hv]; rfl)
  have hu : u = v := u2
  rw [u1, hv, hu]
 have hlays : CmpLays Tryz.prog f #[] WK 2 Gb (g.γ (.ob 0)) 0 L.toArray.size w := by
  intro m os dk _ x y
  have hoth : ∀ k, k < w.heap.size -> ¬ Ow [.r ⟨83, 2, true, As L⟩] g k -> (sortWorldK WK 2 w (g.γ (.ob 0)) 0 m dk os).heap[k]? = w.heap[k]? := by
   intro k hk hn
   have hn2 : k ≠ g.γ (.ob 0) := fun e => hn (.inr ⟨.ob 0, WL.2 ⟨rfl, h0⟩, e.symm⟩)
   unfold sortWorldK putRowK putRow mapBlock Sort.grow Sort.ahead
   simp only
   rw [Array.getElem?_append_left (by simpa using hk), Array.getElem?_modify, if_neg (Ne.symm hn2)]
  generalize hW : sortWorldK WK 2 w (g.γ (.ob 0)) 0 m dk os = W at hoth
  have hsz' : w.heap.size <= W.heap.size := by rw [<- hW]; simp [sortWorldK, putRowK, putRow, mapBlock, Sort.grow, Sort.ahead]
  have hHR : HR ⟨g.γ, g.κ, fun _ => False⟩ [] W := ⟨fun b hb => hb.elim, fun ℓ hl => absurd hl (Ut _ ℓ), fun ℓ _ hl => absurd hl (Ut _ ℓ), fun id r h => by simp at h, fun id r h => by simp at h, hr.gl.keep hsz' hoth (fun k _ hk => hk.elim (fun h => h.elim) (fun ⟨ℓ, hl, _⟩ => absurd hl (Ut _ ℓ)))⟩
  have hA : GI ⟨g.γ, g.κ, fun _ => False⟩ [] W [.a (.g [.v (.int .i64 x.1), .v (.int .i64 x.2)]), .a (.g [.v (.int .i64 y.1), .v (.int .i64 y.2)])] [.agg #[.int .i64 x.1, .int .i64 x.2], .agg #[.int .i64 y.1, .int .i64 y.2]] := by
   refine ⟨rfl, fun i a hi => ?_⟩
   have ag : ∀ z : Ar, A0R (CR ⟨g.γ, g.κ, fun _ => False⟩ [] W) (.g [.v (.int .i64 z.1), .v (.int .i64 z.2)]) (.agg #[.int .i64 z.1, .int .i64 z.2]) := fun z => ⟨[.int .i64 z.1, .int .i64 z.2], rfl, rfl, fun q c hq => by
    match q, hq with
    | 0, hq => simp at hq; subst hq; exact ⟨_, rfl, rfl⟩
    | 1, hq => simp at hq; subst hq; exact ⟨_, rfl, rfl⟩
    | q + 2, hq => simp at hq⟩
   match i, hi with
   | 0, hi => cases hi; exact ⟨_, rfl, ag x⟩
   | 1, hi => cases hi; exact ⟨_, rfl, ag y⟩
   | i + 2, hi => simp at hi
  refine Calls.mono (hcmp x y _ _ _ hHR hA) ?_
  rintro e' w' ⟨v, r, outs, g', rfl, ⟨rfl, rfl⟩, _, _, _, hv, hfp⟩
  exact ⟨by rw [show v = _ from hv], Iy (hfp.mono fun k _ ⟨ℓ, hl, _⟩ => absurd hl (Ut _ ℓ))⟩
 have hH : HoldsK WK 2 w (g.γ (.ob 0)) 0 L.toArray := by
  unfold HoldsK Holds
  rw [N4]
  intro j hj
  simp only [List.size_toArray, hfl] at hj
  constructor
  rotate_left
  ·simp [World.frozen?, ha]
  rw [Nat.zero_add, cell_of_row w _ j arr _ (0, 0) ha, hget j hj, getElem!_pos _ j (by simpa [hfl] using hj)]
  simp [hfl, hj]
 have eg : ∀ args w, (callFunc f args).run Tryz.prog w = .ok (.enter f args) w := fun args w => BT hf args w
 have hcon := AnyQ.slices_SortFunc_total Tryz.sortArrows 2 Tryz.isAgg83 Tryz.sizeOf83 WK (fun _ => rfl) (fun x v hv => by simp [WK] at hv; rcases hv with rfl | rfl <;> rfl) Gb Vc f #[] (g.γ (.ob 0)) 0 (g.κ 0) L.toArray w eg hlays hH hblk (by simp; omega)
  (fun x y h1 h2 => by
   rw [show ltOf Gb x y = Wu x y from CG x y] at h1
   rw [show ltOf Gb y x = Wu y x from CG y x] at h2
   rcases Hq x y with h | h | h
   ·rw [h] at h1; cases h1
   ·exact h
   ·rw [h] at h2; cases h2)
 change Calls Tryz.prog 81 _ _ _ at hcon
 have hsz2 : L.toArray.size = L.length := by simp
 rw [hsz2] at hcon
 refine hcon.mono ?_
 rintro e' w' ⟨rfl, m, os, rfl⟩
 have hSl : (FA L).length = L.length := List.length_mergeSort _
 have hfl' := Dc WK 2 (fun _ => rfl) (FA L)
 have hself : (sortWorldK WK 2 w (g.γ (.ob 0)) 0 m (FA L).toArray os).heap[g.γ (.ob 0)]? = some (.cells (putCells id 0 ((FA L).flatMap WK).toArray arr) 83 (0, 0)) := by
  unfold sortWorldK putRowK putRow mapBlock Sort.grow Sort.ahead
  rw [N4]
  simp only
  rw [Array.getElem?_append_left (by simpa using hblk), Array.getElem?_modify, if_pos rfl, ha]
  rfl
 have hsize : w.heap.size <= (sortWorldK WK 2 w (g.γ (.ob 0)) 0 m (FA L).toArray os).heap.size := by simp [sortWorldK, putRowK, putRow, mapBlock, Sort.grow, Sort.ahead]
 have hother : ∀ k, k < w.heap.size -> k ≠ g.γ (.ob 0) -> (sortWorldK WK 2 w (g.γ (.ob 0)) 0 m (FA L).toArray os).heap[k]? = w.heap[k]? := by
  intro k hk hn
  unfold sortWorldK putRowK putRow mapBlock Sort.grow Sort.ahead
  simp only
  rw [Array.getElem?_append_left (by simpa using hk), Array.getElem?_modify, if_neg (Ne.symm hn)]
 have hfp : Fp (FV [.r ⟨83, 2, true, As L⟩] g) w (sortWorldK WK 2 w (g.γ (.ob 0)) 0 m (FA L).toArray os) :=
  ⟨rfl, rfl, rfl, hsize, fun k hk hm => hother k hk fun e => hm ⟨.ob 0, WL.2 ⟨rfl, h0⟩, e.symm⟩, by simp [sortWorldK, putRowK, putRow, mapBlock, Sort.grow, Sort.ahead]⟩
 refine ⟨.tuple #[], .u, _, g, rfl, ⟨rfl, FA L, LJ L, Pf L, rfl⟩, ?_, ⟨by simp, Ext.refl _ _⟩, fun ℓ hl => .inl ⟨ℓ, WL.2 (WL.1 hl), rfl⟩, trivial, hfp⟩
 refine ⟨fun b hb => Nat.lt_of_lt_of_le (hr.ml b hb) hsize, fun ℓ hl => hr.md ℓ (WL.2 (WL.1 hl)), fun ℓ ℓ' hl hl' => hr.inj ℓ ℓ' (WL.2 (WL.1 hl)) (WL.2 (WL.1 hl')), fun id r hid => ?_, fun id r hid => ?_, hr.gl.keep hsize (fun k hk hn => hother k hk (fun e => hn (.inr ⟨.ob 0, WL.2 ⟨rfl, h0⟩, e.symm⟩))) (fun k _ hk => hk.imp (fun h => h) (fun ⟨ℓ, hl, e⟩ => ⟨ℓ, WL.2 (WL.1 hl), e⟩))⟩
 rotate_left
 ·cases id with
  | zero => simp at hid
  | succ i => simp at hid
 cases id with
 | succ i => simp at hid
 | zero =>
  simp at hid
  subst hid
  refine .inr ⟨h0, fun _ hn => ?_, _, hself, ?_, ?_, hmx, fun j c hj => ?_⟩
  ·have : (As (FA L)).length = 0 := by simp only at hn; rw [hn]; rfl
   rw [Ah, hSl] at this; omega
  ·simp only [Ah, hSl, putCells, Array.size_mapIdx]; exact hle'
  ·simpa [putCells] using hs
  rw [Gi, List.getElem?_map, Option.map_eq_some_iff] at hj
  obtain ⟨v, hv, rfl⟩ := hj
  have hjl : j < L.length * 2 := by have := (List.getElem?_eq_some_iff.1 hv).1; rw [hfl', hSl] at this; exact this
  refine ⟨v, ?_, rfl⟩
  have hj2 : j < ((FA L).flatMap WK).length := by rw [hfl', hSl]; exact hjl
  have hjc : j < arr.size := by omega
  simp only [putCells, Array.getElem?_mapIdx, Nat.zero_le, true_and, Nat.zero_add, List.size_toArray, hj2, if_true, Nat.sub_zero]
  rw [gEd hjc]
  rw [gE1 hj2] at hv
  have hv2 := Option.some.inj hv
  rw [<- hv2]
  simp
  rw [gE1 hj2]; rfl
theorem Zi : UU Tryz.prog 83 2 := UA Tryz.underlying83 (by kernel_rfl) (by kernel_rfl) (by decide) (by decide) rfl rfl (by kernel_rfl) (by kernel_rfl)
theorem Z9 (x y : Operand) (a b : Ar) : GH Tryz.prog .eql 83 x y [.int .i64 a.1, .int .i64 a.2] [.int .i64 b.1, .int .i64 b.2] (decide (a = b)) = True := by
 rw [<- Ef]
 refine eq_true ?_
 have := (Zi x y [.v (.int .i64 a.1), .v (.int .i64 a.2)] [.v (.int .i64 b.1), .v (.int .i64 b.2)] _ _ rfl rfl rfl rfl).1
 simpa [Vn] using this
theorem Za (x y : Operand) (a b : Ar) : GH Tryz.prog .neq 83 x y [.int .i64 a.1, .int .i64 a.2] [.int .i64 b.1, .int .i64 b.2] (!decide (a = b)) = True := by
 rw [<- Ef]
 refine eq_true ?_
 have := (Zi x y [.v (.int .i64 a.1), .v (.int .i64 a.2)] [.v (.int .i64 b.1), .v (.int .i64 b.2)] _ _ rfl rfl rfl rfl).2
 simpa [Vn] using this
attribute [local go_sem] List.map_cons List.map_nil List.take_succ_cons List.take_zero List.drop_zero List.drop_succ_cons C.pl C.one List.all_cons List.all_nil Bool.and_true
set_option maxHeartbeats 1000000 in
theorem R3 (L : List Ar) (hn : L.length <= 100000000) : FC Tryz.prog 83 [.a (.c (.s 0 L.length))] [.r ⟨83, 2, true, As L⟩]
  (fun r o => r = .a (.c (.s 0 (LI L).length)) /\ ∃ rest us, Fz rest us /\ (L = [] -> rest = []) /\ o = [.r ⟨83, 2, true, As (LI L) ++ rest⟩]) := by
 refine A9 Tryz.func83 rfl (by rw [Tryz.ntmps83]; simp) ?_
 rw [Tryz.ntmps83]
 simp only [Bz]
 (refine We ?_;(repeat clear hK K);repeat refine kq fun K hK=>?_)
 (refine AA ?_; intro X Y hX hY; simp only [go_sem])
 refine ⟨fun h => hX ?_, fun h => hY ?_⟩
 ·clear hX hY X Y
  (refine We ?_;(repeat clear hK K);repeat refine kq fun K hK=>?_)
  refine Wr Tryz.results83 ?_
  have hc : LI L = L := by
   match L, h with
   | [], _ => rfl
   | [x], _ => rfl
   | _ :: _ :: _, h => simp at h; omega
  rw [hc]
  exact ⟨rfl, [], [], trivial, fun _ => rfl, by simp⟩
 clear hX hY X Y
 have h2 : 2 <= L.length := by simp at h; omega
 clear h
 (refine We ?_;(repeat clear hK K);repeat refine kq fun K hK=>?_)
 refine A6 (fun k : Nat => { tm := [(0, .a (.c (.s 0 L.length))), (3, .i (k + 1 : Nat))], hp := [.r ⟨83, 2, true, As L⟩], n := 61, pin := 1 }) (fun k => k + 1 <= L.length /\ LI L = L.take (k + 1) ++ Eh (L.getD k (0, 0)) (L.drop (k + 1))) (fun k => L.length - k) 0 ?_ ?_ ?_
 ·refine ⟨by omega, ?_⟩
  match L, h2 with
  | x :: r, _ => simp [LI]
 ·exact Wo
 rintro k ⟨hk, he⟩ K hK
 (refine We ?_;(repeat clear hK K);repeat refine kq fun K hK=>?_)
 (refine AA ?_; intro X Y hX hY; simp only [go_sem])
 refine ⟨fun h => hX ?_, fun h => hY ?_⟩
 rotate_left
 ·have hge : k + 1 = L.length := by simp at h; omega
  clear hX hY X Y
  (refine Wi ?_;repeat clear hK K)
  (refine We ?_;(repeat clear hK K);repeat refine kq fun K hK=>?_)
  refine Wr Tryz.results83 ?_
  have hc : LI L = L := by rw [he, hge]; simp [Eh]
  rw [hc]
  exact ⟨rfl, [], [], trivial, fun _ => rfl, by simp⟩
 have hlt : k + 1 < L.length := by simp at h; omega
 have hlt0 : k < L.length := by omega
 clear hX hY X Y h
 have e1 : ((k + 1 : Nat) : Int) - 1 = (k : Int) := by omega
 have g0 : L.getD k (0, 0) = L[k] := by simp [List.getD, hlt0]
 rw [g0] at he
 have hst := H2 he (Nat.le_refl _) (gE1 hlt)
 (refine We ?_;(repeat clear hK K);repeat refine kq fun K hK=>?_)
 (refine Ao 9 [(0, 0), (1, 0), (2, 0), (3, 1), (4, 0), (5, 0), (6, 0), (7, 0), (8, 1), (9, 2)] (by kernel_rfl) (by kernel_rfl) (by intro c st h; simp [Ae, AJ, VD] at h) ?_)
 (refine Wb (an @e1 (an (DT hlt) (an (DT hlt0) (an @Ah (an @Z9 (an @Ef @true_and)))))) ?_; repeat clear hK K)
 (refine AA ?_; intro X Y hX hY; simp only [go_sem])
 refine ⟨fun h => hX ?_, fun h => hY ?_⟩
 rotate_left
 ·clear hX hY X Y
  have hne : L[k + 1] ≠ L[k] := by simpa using h
  clear h
  (refine We ?_;(repeat clear hK K);repeat refine kq fun K hK=>?_)
  refine Wn ?_
  refine hK _ (k + 1) ⟨hlt, ?_⟩ (by omega) ?_
  rotate_left
  ·exact Wo
  have h1 := hst.2.1 hne
  rw [hst.2.2 hne rfl] at h1
  have : L.getD (k + 1) (0, 0) = L[k + 1] := by simp [List.getD, hlt]
  rw [this]
  exact h1
 clear hX hY X Y
 have heq : L[k + 1] = L[k] := by simpa using h
 clear h
 have hI := hst.1 heq
 clear hst he
 (refine We ?_;(repeat clear hK K);repeat refine kq fun K hK=>?_)
 refine A6 (fun q : Nat × Nat × List Ar => { tm := [(0, .a (.c (.s 0 L.length))), (3, .i q.1), (4, .a (.c (.w 0 (k + 1) (L.length - (k + 1)) 2))), (5, .i (q.2.1 + 1 : Nat))], hp := [.r ⟨83, 2, true, As q.2.2⟩], n := 61, pin := 1 })
  (fun q => q.2.2.length = L.length /\ (∀ x ∈ q.2.2, x ∈ L) /\ q.1 <= k + 1 + q.2.1 /\ k + 2 + q.2.1 <= L.length /\ LI L = q.2.2.take q.1 ++ Eh (q.2.2.getD (k + 1 + q.2.1) (0, 0)) (q.2.2.drop (k + 2 + q.2.1))) (fun q => L.length - q.2.1) (k + 1, 0, L) ?_ ?_ ?_
 ·refine ⟨rfl, fun x h => h, by simp, by simp only; omega, ?_⟩
  have : L.getD (k + 1) (0, 0) = L[k + 1] := by simp [List.getD, hlt]
  simp only [Nat.add_zero, this]
  exact hI
 ·exact Wo
 clear hI
 rintro ⟨m, j, ys⟩ ⟨hyl, hys, hm, hj, he⟩ K hK
 simp only at hyl hys hm hj he
 (refine We ?_;(repeat clear hK K);repeat refine kq fun K hK=>?_)
 (refine AA ?_; intro X Y hX hY; simp only [go_sem])
 refine ⟨fun h => hX ?_, fun h => hY ?_⟩
 rotate_left
 ·clear hX hY X Y
  (refine Wi ?_;repeat clear hK K)
  have hend : ys.length <= k + 2 + j := by simp at h; omega
  have hfin := MZ he hend
  have hm2 : m < L.length := by omega
  (refine We ?_;(repeat clear hK K);repeat refine kq fun K hK=>?_)
  refine Ad rfl ?_; intro K1 hK1
  refine Mt (n := L.length - m) (off := m) (k := 2) (id := 0) rfl rfl Tryz.underlying81 ty83 (by simp only [go_sem]) rfl (by omega) rfl rfl (by simp only [Ah]; omega) ?_
  intro zs hz1 hz2
  have hset : Dr (As ys) (m * 2) zs = As (ys.take m) ++ zs := by
   rw [Kv _ _ _ (by rw [Ah]; omega), D3]
  simp only [hset, List.set_cons_zero, go_sem]
  refine hK1 _ ?_; clear hK1 K1
  (refine We ?_;(repeat clear hK K);repeat refine kq fun K hK=>?_)
  refine Wr Tryz.results83 ?_
  have hc : LI L = ys.take m := hfin
  rw [hc]
  refine ⟨by rw [List.length_take, Nat.min_eq_left (by omega)], zs, zs.map fun _ => Tr.v (.int .i64 0), ?_, fun h0 => by rw [h0] at h2; simp at h2, rfl⟩
  have : zs = zs.map id := by simp
  rw [this, List.map_map]
  exact Fz.map fun c hc => by
   have := hz2 c hc
   simp at this
   subst this
   exact .inl rfl
 have hlt : k + 1 + (j + 1) < ys.length := by simp at h; omega
 have hlt0 : k + 1 + j < ys.length := by omega
 have hw : ((j + 1 : Nat) : Int) < ((L.length - (k + 1) : Nat) : Int) := by omega
 have hw0 : (j : Int) < ((L.length - (k + 1) : Nat) : Int) := by omega
 clear hX hY X Y h
 have e1 : ((j + 1 : Nat) : Int) - 1 = (j : Int) := by omega
 have g0 : ys.getD (k + 1 + j) (0, 0) = ys[k + 1 + j] := by simp [List.getD, hlt0]
 rw [g0, show k + 2 + j = k + 1 + (j + 1) from by omega] at he
 have hst := H2 he (by omega) (gE1 hlt)
 (refine We ?_;(repeat clear hK K);repeat refine kq fun K hK=>?_)
 have hk1 : k + 1 + (j + 1) = k + 1 + (j + 1) := rfl
 (refine Ao 9 [(0, 0), (1, 0), (2, 0), (3, 1), (4, 0), (5, 0), (6, 0), (7, 0), (8, 1), (9, 2)] (by kernel_rfl) (by kernel_rfl) (by intro c st h; simp [Ae, AJ, VD] at h) ?_)
 (refine Wb (an @e1 (an (DT hlt) (an (DT hlt0) (an @Ah (an @Za (an @Ef @true_and)))))) ?_; repeat clear hK K)
 (refine AA ?_; intro X Y hX hY; simp only [go_sem])
 refine ⟨fun h => hX ?_, fun h => hY ?_⟩
 rotate_left
 ·clear hX hY X Y
  have heq : ys[k + 1 + (j + 1)] = ys[k + 1 + j] := by simpa using h
  clear h
  (refine We ?_;(repeat clear hK K);repeat refine kq fun K hK=>?_)
  refine Wn ?_
  refine hK _ (m, j + 1, ys) ⟨hyl, hys, by simp only; omega, by simp only; omega, ?_⟩ (by simp only; omega) ?_
  rotate_left
  ·exact Wo
  have h1 := hst.1 heq
  have : ys.getD (k + 1 + (j + 1)) (0, 0) = ys[k + 1 + (j + 1)] := by simp [List.getD, hlt]
  simp only
  rw [this, show k + 2 + (j + 1) = k + 1 + (j + 1) + 1 from by omega]
  exact h1
 clear hX hY X Y
 have hne : ys[k + 1 + (j + 1)] ≠ ys[k + 1 + j] := by simpa using h
 clear h
 have hm1 : m < ys.length := by omega
 (repeat (first | (refine AG ?_; intro K hK) | refine Am ?_ | refine Ag ?_ | (refine Bg rfl rfl ?_; intro K1 hK1; simp only [go_sem, DT hlt, Ah, Dr, N1 hm1]; (first | refine hK1 _ ?_ | refine AE (hK1 _ ?_)); clear hK1 K1) | ((first | refine Ab ?_ | refine Ap ?_); refine hK _ ?_; clear hK K)))
 refine Wn ?_
 have hst2 := hst.2.1 hne
 have hpp : (ys.set m ys[k + 1 + (j + 1)]).getD (k + 1 + (j + 1)) (0, 0) = ys[k + 1 + (j + 1)] := by
  rw [List.getD, gE5 (by omega), gE1 hlt]; rfl
 refine hK _ (m + 1, j + 1, ys.set m ys[k + 1 + (j + 1)]) ⟨by simp [hyl], ?_, by simp only; omega, by simp only; omega, ?_⟩ (by simp only; omega) ?_
 rotate_left
 ·simp only
  rw [hpp, show k + 2 + (j + 1) = k + 1 + (j + 1) + 1 from by omega]
  exact hst2
 ·exact Wo
 intro x hx
 rcases List.mem_or_eq_of_mem_set hx with hx | rfl
 ·exact hys x hx
 exact hys _ (gE6 hlt)

open Go.RowKit
theorem YW {s : ST} (i j n : Nat) {ri : Row} {k : Nat × Nat} {cs : List Tr} (hi : s.hp[i]? = some (.r ri)) (hj : ri.cells[j]? = some (.o k cs)) (hn : cs.length = n * k.1) (hk : 0 < k.1) :
  Le s { s with hp := s.hp.set i (Ob.r { ri with cells := ri.cells.set j (.s s.hp.length n) }) ++ [Ob.r ⟨k.2, k.1, true, cs.map C.ofTr⟩] } := by
 rintro M0 w0 a w ⟨g, hpp, hR⟩
 have hr := hR.hr
 have hlt : i < s.hp.length := (List.getElem?_eq_some_iff.1 hi).1
 have hjl : j < ri.cells.length := (List.getElem?_eq_some_iff.1 hj).1
 have self : (s.hp.set i (Ob.r { ri with cells := ri.cells.set j (.s s.hp.length n) }) ++ [Ob.r ⟨k.2, k.1, true, cs.map C.ofTr⟩])[i]? = some (.r { ri with cells := ri.cells.set j (.s s.hp.length n) }) := by
  rw [gEa (by simpa using hlt)]; simp [hlt]
 have newr : (s.hp.set i (Ob.r { ri with cells := ri.cells.set j (.s s.hp.length n) }) ++ [Ob.r ⟨k.2, k.1, true, cs.map C.ofTr⟩])[s.hp.length]? = some (.r ⟨k.2, k.1, true, cs.map C.ofTr⟩) := by
  rw [gEb (by simp)]; simp
 have other : ∀ q, q ≠ i -> q ≠ s.hp.length -> (s.hp.set i (Ob.r { ri with cells := ri.cells.set j (.s s.hp.length n) }) ++ [Ob.r ⟨k.2, k.1, true, cs.map C.ofTr⟩])[q]? = s.hp[q]? := fun q h1 h2 => by
  rcases Nat.lt_or_ge q s.hp.length with h | h
  ·rw [gEa (by simpa using h), gE5 (Ne.symm h1)]
  rw [List.getElem?_eq_none (by simp; omega), List.getElem?_eq_none h]
 have hlen : (s.hp.set i (Ob.r { ri with cells := ri.cells.set j (.s s.hp.length n) }) ++ [Ob.r ⟨k.2, k.1, true, cs.map C.ofTr⟩]).length = s.hp.length + 1 := by simp
 have hid : i ≠ s.hp.length := by omega
 have cel : ∀ q c, (ri.cells.set j (.s s.hp.length n))[q]? = some c -> (q = j /\ c = .s s.hp.length n) \/ (q ≠ j /\ ri.cells[q]? = some c) := by
  intro q c hq
  by_cases e : q = j
  ·subst e; rw [gEc hjl] at hq; cases hq; exact .inl ⟨rfl, rfl⟩
  rw [gE5 (Ne.symm e)] at hq; exact .inr ⟨e, hq⟩
 have noo : ∀ (t : Tr) (k : Nat × Nat) (cs : List Tr), C.ofTr t ≠ .o k cs := fun t k cs => by cases t <;> simp [C.ofTr]
 obtain ⟨cap, hcap⟩ : ∃ cap, (cs = [] /\ cap = 0 \/ cs ≠ [] /\ cap ≠ 0) /\ ∃ u, (∀ arr : Array Value, w.heap[g.γ (.ob i)]? = some (.cells arr ri.e (0, 0)) -> arr[j]? = some u) /\ n <= cap /\ (∃ A, u = .slice A n cap /\ (cap ≠ 0 -> A = some ⟨g.γ (.cl i j), 0, none⟩) /\ ∀ a, A = some a -> a.block < w.heap.size) /\
   (cap ≠ 0 -> cap <= 9223372036854775807 /\ ∃ arr2 : Array Value, w.heap[g.γ (.cl i j)]? = some (.cells arr2 k.2 (0, 0)) /\ arr2.size = cap * k.1 /\ ∀ (q : Nat) (t : Tr), cs[q]? = some t -> ∃ v, arr2[q]? = some v /\ Rd (Ow s.hp g) w t v) := by
  rcases hr.row i ri hi with ⟨_, k2⟩ | ⟨k1, k2, arr, k3, k4, k5, k6, k7⟩
  ·rw [k2] at hj; simp at hj
  obtain ⟨u, u1, u2⟩ := k7 j _ hj
  have hu : ∀ arr2 : Array Value, w.heap[g.γ (.ob i)]? = some (.cells arr2 ri.e (0, 0)) -> arr2[j]? = some u := fun arr2 h2 => by
   rw [k3] at h2; cases h2; exact u1
  rcases u2 with ⟨h1, A, h2, h3⟩ | ⟨h1, n2, c, arr2, h2, h3, h4, h5, h6, h7, h8⟩
  ·have hn0 : n = 0 := by
    rw [h1] at hn
    rcases Nat.eq_zero_or_pos n with h | h
    ·exact h
    ·have := Nat.mul_pos h hk; simp at hn; omega
   exact ⟨0, .inl ⟨h1, rfl⟩, u, hu, by omega, ⟨A, by rw [h2, hn0], fun h => absurd rfl h, h3⟩, fun h => absurd rfl h⟩
  ·have hn2 : n2 = n := Nat.eq_of_mul_eq_mul_right hk (h3.symm.trans hn)
   subst hn2
   have hb : g.γ (.cl i j) < w.heap.size := (Array.getElem?_eq_some_iff.1 h6).1
   have hc0 : c ≠ 0 := by
    intro h0
    have : n2 = 0 := by omega
    rw [this] at h3
    exact h1 (List.length_eq_zero_iff.1 (by simpa using h3))
   exact ⟨c, .inr ⟨h1, hc0⟩, u, hu, h4, ⟨_, h2, fun _ => rfl, fun a ha => by cases ha; exact hb⟩, fun _ => ⟨h5, arr2, h6, h7, h8⟩⟩
 obtain ⟨hcc, u, hu, hnc, ⟨A, hA1, hA2, hA3⟩, hown⟩ := hcap
 generalize hh : s.hp.set i (Ob.r { ri with cells := ri.cells.set j (.s s.hp.length n) }) ++ [Ob.r ⟨k.2, k.1, true, cs.map C.ofTr⟩] = hp' at *
 let g' : Gh := ⟨fun ℓ => if ℓ = .ob s.hp.length then g.γ (.cl i j) else g.γ ℓ, fun q => if q = s.hp.length then cap else g.κ q, g.M⟩
 have gs : g'.γ (.ob s.hp.length) = g.γ (.cl i j) := if_pos rfl
 have gn : ∀ ℓ, ℓ ≠ .ob s.hp.length -> g'.γ ℓ = g.γ ℓ := fun ℓ h => if_neg h
 have ks : g'.κ s.hp.length = cap := if_pos rfl
 have kn : ∀ q, q ≠ s.hp.length -> g'.κ q = g.κ q := fun q h => if_neg h
 have src : ∀ ℓ, Lv hp' g' ℓ -> (ℓ = .ob s.hp.length /\ Lv s.hp g (.cl i j)) \/ (ℓ ≠ .ob s.hp.length /\ ℓ ≠ .cl i j /\ Lv s.hp g ℓ) := by
  intro ℓ hl
  cases ℓ with
  | ob q =>
   by_cases hq : q = s.hp.length
   ·subst hq
    refine .inl ⟨rfl, ri, k, cs, hi, hj, ?_⟩
    rcases hl with ⟨r2, _, e2⟩ | ⟨kv, e1⟩
    rotate_left
    ·rw [newr] at e1; cases e1
    rw [ks] at e2
    rcases hcc with ⟨_, h0⟩ | ⟨h0, _⟩
    ·exact absurd h0 e2
    exact h0
   refine .inr ⟨by simpa using hq, by simp, ?_⟩
   by_cases hqi : q = i
   ·subst hqi
    rcases hl with ⟨r2, _, e2⟩ | ⟨kv, e1⟩
    ·exact .inl ⟨ri, hi, by rw [kn _ hq] at e2; exact e2⟩
    rw [self] at e1; cases e1
   rcases hl with ⟨r2, e1, e2⟩ | ⟨kv, e1⟩
   ·exact .inl ⟨r2, by rw [<- other q hqi hq]; exact e1, by rw [kn _ hq] at e2; exact e2⟩
   exact .inr ⟨kv, by rw [<- other q hqi hq]; exact e1⟩
  | cl q j2 =>
   obtain ⟨r2, k2, cs2, e1, e2, e3⟩ := hl
   by_cases hq : q = s.hp.length
   ·subst hq
    rw [newr] at e1
    cases e1
    simp only [List.getElem?_map, Option.map_eq_some_iff] at e2
    obtain ⟨t, _, ht⟩ := e2
    exact absurd ht (noo _ _ _)
   by_cases hqi : q = i
   rotate_left
   ·exact .inr ⟨by simp, by simp [hqi], r2, k2, cs2, by rw [<- other q hqi hq]; exact e1, e2, e3⟩
   subst hqi
   rw [self] at e1
   cases e1
   rcases cel j2 _ e2 with ⟨_, h⟩ | ⟨h0, h⟩
   ·cases h
   exact .inr ⟨by simp, by simp [h0], ri, k2, cs2, hi, h, e3⟩
 have ow : ∀ b, Ow hp' g' b -> Ow s.hp g b := by
  rintro b (ho | ⟨ℓ, hl, e⟩)
  ·exact .inl ho
  rcases src ℓ hl with ⟨rfl, h1⟩ | ⟨h0, _, h1⟩
  ·rw [gs] at e; exact .inr ⟨_, h1, e⟩
  rw [gn _ h0] at e; exact .inr ⟨_, h1, e⟩
 have nbn : ∀ q, Bn s.hp q -> q ≠ s.hp.length := fun q ⟨o, h, _⟩ e => by subst e; simp at h
 have hm : Mo g s.hp w g' hp' w (fun _ => True) := by
  refine ⟨fun q hq => ⟨?_, gn _ (by simpa using nbn q hq), kn _ (nbn q hq)⟩, fun b _ ho => ow b ho, Nat.le_refl _, fun _ _ _ => rfl, fun q _ hq r2 j2 k2 cs2 e1 e2 => ?_⟩
  ·by_cases e : q = i
   ·subst e; exact ⟨_, self, rfl⟩
   have hn := nbn q hq
   obtain ⟨o, h1, h2⟩ := hq
   exact ⟨o, by rw [other q e hn]; exact h1, h2⟩
  have hn := nbn q hq
  by_cases e : q = i
  rotate_left
  ·exact ⟨r2, by rw [<- other q e hn]; exact e1, e2, fun _ => rfl⟩
  subst e
  rw [self] at e1
  cases e1
  rcases cel j2 _ e2 with ⟨_, h⟩ | ⟨_, h⟩
  ·cases h
  exact ⟨ri, hi, h, fun _ => rfl⟩
 refine ⟨g', ⟨by show s.pin <= hp'.length; have := hpp.1; omega, hpp.2.trans ⟨rfl, fun q hq => ?_⟩⟩, hR.mo hm ?_ (fun ℓ hl => ?_) hR.fp⟩
 rotate_left 2
 ·rcases src ℓ hl with ⟨rfl, h1⟩ | ⟨h0, _, h1⟩
  ·rw [gs]; exact hR.new _ h1
  rw [gn _ h0]; exact hR.new _ h1
 ·have : q ≠ s.hp.length := by have := hpp.1; omega
  exact ⟨gn _ (by simpa using this), kn _ this⟩
 refine ⟨hr.ml, fun ℓ hl => ?_, fun ℓ ℓ' h1 h2 he => ?_, fun q r2 e1 => ?_, fun q kv e1 => ?_, hm.gl hr.gl⟩
 rotate_left 3
 ·by_cases hq : q = s.hp.length
  ·subst hq; rw [newr] at e1; cases e1
  by_cases e : q = i
  ·subst e; rw [self] at e1; cases e1
  rw [other q e hq] at e1
  exact MpR.mo hm e1 (hr.mp q kv e1) rfl
 ·rcases src ℓ hl with ⟨rfl, h1⟩ | ⟨h0, _, h1⟩
  ·rw [gs]; exact hr.md _ h1
  rw [gn _ h0]; exact hr.md _ h1
 ·rcases src ℓ h1 with ⟨rfl, a1⟩ | ⟨a0, a2, a1⟩ <;> rcases src ℓ' h2 with ⟨rfl, b1⟩ | ⟨b0, b2, b1⟩
  rotate_left 2
  ·rw [gs, gn _ a0] at he
   exact absurd (hr.inj _ _ a1 b1 he) a2
  ·rw [gn _ a0, gn _ b0] at he
   exact hr.inj _ _ a1 b1 he
  ·rfl
  rw [gs, gn _ b0] at he
  exact absurd (hr.inj _ _ a1 b1 he).symm b2
 by_cases hq : q = s.hp.length
 ·subst hq
  rw [newr] at e1
  cases e1
  rcases hcc with ⟨h0, h1⟩ | ⟨h0, h1⟩
  ·exact .inl ⟨by rw [ks, h1], by rw [h0]; rfl⟩
  obtain ⟨m1, arr2, m2, m3, m4⟩ := hown h1
  refine .inr ⟨by rw [ks]; exact h1, fun _ h => h0 (by simpa using h), arr2, by rw [gs]; exact m2, ?_, by rw [ks]; exact m3, by rw [ks]; exact m1, fun q c hq => ?_⟩
  ·simp only [List.length_map]; rw [hn, m3]; exact Nat.mul_le_mul_right _ hnc
  simp only [List.getElem?_map, Option.map_eq_some_iff] at hq
  obtain ⟨t, ht, rfl⟩ := hq
  obtain ⟨v, v1, v2⟩ := m4 q t ht
  refine ⟨v, v1, ?_⟩
  have h3 : CR g' hp' w (C.ofTr t) v := EQ (hm.rd v2)
  cases t with
  | v x => exact h3
  | l k2 cs2 => exact h3
 by_cases e : q = i
 rotate_left
 ·rw [other q e hq] at e1
  exact RowR.mo hm e1 (hr.row q r2 e1) (fun _ => rfl) (fun _ _ _ _ _ => ⟨gn _ (by simp), rfl⟩)
 subst e
 rw [self] at e1
 cases e1
 rcases hr.row q ri hi with ⟨k1, k2⟩ | ⟨k1, k2, arr, k3, k4, k5, k6, k7⟩
 ·rw [k2] at hj; simp at hj
 refine .inr ⟨by rw [kn _ hq]; exact k1, fun h1 h2 => k2 h1 (List.length_eq_zero_iff.1 (by rw [<- List.length_set (i := j) (a := C.s s.hp.length n)]; exact List.length_eq_zero_iff.2 h2)), arr, by rw [gn _ (by simpa using hq)]; exact k3, by simpa using k4, by rw [kn _ hq]; exact k5, by rw [kn _ hq]; exact k6, fun j2 c hj2 => ?_⟩
 rcases cel j2 c hj2 with ⟨rfl, rfl⟩ | ⟨hne, h⟩
 rotate_left
 ·obtain ⟨v, v1, v2⟩ := k7 j2 c h
  exact ⟨v, v1, CellR.mo hm v2 (fun k3 cs3 hc _ => ⟨gn _ (by simp), rfl⟩)⟩
 refine ⟨u, hu arr k3, ?_⟩
 exact ⟨⟨_, newr, rfl⟩, by rw [ks]; exact hnc, A, by rw [ks]; exact hA1, fun h => by rw [gs]; exact hA2 (by rw [ks] at h; exact h), hA3⟩
end Go.Proofs.YthnkailnoobdoaaGreatDoor
