/- slices.Sort at numbers, from the shelf's contract. flow: New, Stable, Walker.Reach. -/
import Derived.Test.YthlckclbjknldaaMD
import Derived.Shelf.SlSortCmp.Kit1
import Derived.Test.YthlckclbjknldaaMF
import Derived.Test.YthlckclbjknldaaShlfS
import Derived.Shelf.Sort.Plain
import Derived.Shelf.Slices.In.SortNone
import Derived.Test.YthlckclbjknldaaG42
import Derived.Test.YthlckclbjknldaaG43
namespace Go.Proofs.Ythlckclbjknldaa
set_option linter.unusedVariables false
set_option linter.unusedSimpArgs false
open Go.RowKit Go.Shelf Go.Sort
set_option maxRecDepth 100000

section
variable {α : Type} [Inhabited α] {enc : α → Value} {w : World} {blk off m : Nat} {dk : Array α} {os : Array Obj}
theorem sx_size : w.heap.size ≤ (sortWorld enc w blk off m dk os).heap.size := by
 simp [sortWorld, grow, putRow, mapBlock, Sort.ahead]
theorem sx_block {k : Nat} (hk : k < w.heap.size) (hne : k ≠ blk) : (sortWorld enc w blk off m dk os).heap[k]? = w.heap[k]? := by
 simp only [sortWorld, grow, putRow, mapBlock, Sort.ahead]
 rw [Array.getElem?_append_left (by simpa using hk), Array.getElem?_modify, if_neg (Ne.symm hne)]
theorem sx_self {arr : Array Value} {e : TypeId} {fz : Nat × Nat} (h : w.heap[blk]? = some (.cells arr e fz)) : (sortWorld enc w blk off m dk os).heap[blk]? = some (.cells (putCells enc off dk arr) e fz) := by
 have hk := (Array.getElem?_eq_some_iff.1 h).1
 simp only [sortWorld, grow, putRow, mapBlock, Sort.ahead]
 rw [Array.getElem?_append_left (by simpa using hk), Array.getElem?_modify, if_pos rfl, h]
 rfl
theorem sx_fp {M : Nat → Prop} (hM : M blk) : Fp M w (sortWorld enc w blk off m dk os) :=
 ⟨rfl, rfl, rfl, sx_size, fun k hk hm => sx_block hk (fun e => hm (e ▸ hM)), by simp [sortWorld, grow, putRow, mapBlock, Sort.ahead]⟩
end
theorem ofTr_nx {t : Tr} {k : Nat × Nat} {cs : List Tr} : C.ofTr t ≠ .o k cs := by cases t <;> simp [C.ofTr]
theorem lvx {g : Gh} {α0 : Type} {tr : α0 → Tr} {e : TypeId} {L : List α0} {ℓ : Loc} : Lv [.r ⟨e, 1, true, L.map fun x => C.ofTr (tr x)⟩] g ℓ ↔ ℓ = .ob 0 ∧ g.κ 0 ≠ 0 := by
 cases ℓ with
 | ob id =>
  constructor
  ·rintro (⟨r, h1, h2⟩ | ⟨kv, h1⟩)
   ·cases id with
    | zero => exact ⟨rfl, h2⟩
    | succ i => simp at h1
   ·cases id with
    | zero => simp at h1
    | succ i => simp at h1
  ·rintro ⟨h1, h2⟩
   cases h1
   exact .inl ⟨_, rfl, h2⟩
 | cl id j =>
  constructor
  ·rintro ⟨r, k, cs, h1, h2, h3⟩
   cases id with
   | zero =>
    simp at h1; subst h1
    rw [List.getElem?_map, Option.map_eq_some_iff] at h2
    obtain ⟨x, _, h2⟩ := h2
    exact absurd h2 ofTr_nx
   | succ i => simp at h1
  ·rintro ⟨h1, h2⟩; cases h1
def trI (x : Int) : Tr := .v (.int .i64 x)
theorem sortI_fc (L : List Int) (hsz : L.length ≤ 100000000) : FC Try.prog 28 [.a (.c (.s 0 L.length))] [.r ⟨3, 1, true, cInts L⟩] (fun r o => r = .u ∧ ∃ L' : List Int, L'.Perm L ∧ L'.Pairwise (fun a b => a ≤ b) ∧ o = [.r ⟨3, 1, true, cInts L'⟩]) := by
 intro g w vals hr hargs
 obtain ⟨hlen, hargs⟩ := hargs
 obtain ⟨v1, e1, b1, b2, A, rfl, b4, b5⟩ := hargs 0 _ rfl
 have hvals : vals = [.slice A L.length (g.κ 0)] := by
  match vals, hlen with
  | [a], _ => simp at e1; simp [e1]
 subst hvals
 have lvI : ∀ {L : List Int} {ℓ : Loc}, Lv [.r ⟨3, 1, true, cInts L⟩] g ℓ ↔ ℓ = .ob 0 ∧ g.κ 0 ≠ 0 := fun {L ℓ} => lvx (tr := trI) (L := L)
 rcases hr.row 0 _ rfl with ⟨h0, hnil⟩ | ⟨h0, hne, arr, ha, hle, hs, hmx, hcells⟩
 ·have hL0 : L = [] := by
   have h : cInts L = [] := hnil
   simpa [cInts] using h
  subst hL0
  refine (Any.slices_Sort_int_none Try.sortInts A (g.κ 0) w).mono ?_
  rintro e' w' ⟨rfl, rfl⟩
  exact ⟨.tuple #[], .u, _, g, rfl, ⟨rfl, [], List.Perm.refl _, List.Pairwise.nil, rfl⟩, hr, ⟨Nat.le_refl _, Ext.refl _ _⟩, fun ℓ hl => .inl ⟨ℓ, hl, rfl⟩, trivial, Fp.refl _ _⟩
 ·rw [b4 h0] at *
  have hblk : g.γ (.ob 0) < w.heap.size := (Array.getElem?_eq_some_iff.1 ha).1
  have hOw : Ow [.r ⟨3, 1, true, cInts L⟩] g (g.γ (.ob 0)) := .inr ⟨.ob 0, lvI.2 ⟨rfl, h0⟩, rfl⟩
  have hle' : L.length ≤ arr.size := by simpa [cInts_len] using hle
  have hget : ∀ j (hj : j < L.length), arr[j]? = some (.int .i64 L[j]) := by
   intro j hj
   obtain ⟨u, u1, u2⟩ := hcells j (.v (.int .i64 L[j])) (cInts_get (List.getElem?_eq_getElem hj))
   rw [u1, show u = .int .i64 L[j] from u2]
  have hH : Holds (Value.int .i64) w (g.γ (.ob 0)) 0 L.toArray := by
   intro j hj
   simp only [List.size_toArray] at hj
   constructor
   ·rw [Nat.zero_add, cell_of_row w _ j arr _ (0, 0) ha, hget j hj, getElem!_pos _ j (by simpa using hj)]
    simp
   ·simp [World.frozen?, ha]
  refine (Any.slices_Sort_int Try.sortInts (g.γ (.ob 0)) 0 (g.κ 0) L w hH hblk (by omega)).mono ?_
  rintro e' w' ⟨rfl, m, os, rfl⟩
  obtain ⟨L', hL'⟩ : ∃ L', L' = L.mergeSort fun x y => decide (x ≤ y) := ⟨_, rfl⟩
  have hperm : L'.Perm L := by rw [hL']; exact List.mergeSort_perm _ _
  have hsort : L'.Pairwise (fun a b => a ≤ b) := by
   rw [hL']
   have := List.pairwise_mergeSort (le := fun x y : Int => decide (x ≤ y)) (fun a b c h1 h2 => by simp at *; omega) (fun a b => by simp; omega) L
   exact this.imp fun h => by simpa using h
  rw [← hL']
  have hll := hperm.length_eq
  show FPost _ _ _ _ _ (sortWorld (Value.int .i64) w (g.γ (.ob 0)) 0 m L'.toArray os)
  refine ⟨.tuple #[], .u, _, g, rfl, ⟨rfl, L', hperm, hsort, rfl⟩, ?_, ⟨Nat.le_refl _, Ext.refl _ _⟩, fun ℓ hl => .inl ⟨ℓ, lvI.2 (lvI.1 hl), rfl⟩, trivial, sx_fp ⟨.ob 0, lvI.2 ⟨rfl, h0⟩, rfl⟩⟩
  refine ⟨fun b hb => Nat.lt_of_lt_of_le (hr.ml b hb) sx_size, fun ℓ hl => hr.md ℓ (lvI.2 (lvI.1 hl)), fun ℓ ℓ' hl hl' => hr.inj ℓ ℓ' (lvI.2 (lvI.1 hl)) (lvI.2 (lvI.1 hl')), fun id r hid => ?_, fun id r hid => ?_, hr.gl.keep sx_size (fun k hk hn => sx_block hk (fun e => hn (e ▸ hOw))) (fun k _ hk => hk.imp (fun h => h) (fun ⟨ℓ, hl, e⟩ => ⟨ℓ, lvI.2 (lvI.1 hl), e⟩))⟩
  ·cases id with
   | succ i => simp at hid
   | zero =>
    simp at hid
    subst hid
    refine .inr ⟨h0, fun _ hn => ?_, _, sx_self ha, ?_, ?_, hmx, fun j c hj => ?_⟩
    ·have h1 : L' = [] := by simpa [cInts] using hn
     rw [h1] at hll
     have h2 : L = [] := List.length_eq_zero_iff.1 hll.symm
     exact hne rfl (by simp [h2, cInts])
    ·simp only [cInts_len, putCells, Array.size_mapIdx]; omega
    ·simpa [putCells] using hs
    ·have hjl : j < L'.length := by have := (List.getElem?_eq_some_iff.1 hj).1; rw [cInts_len] at this; exact this
     have hc : c = .v (.int .i64 L'[j]) := by
      rw [cInts_get (List.getElem?_eq_getElem hjl)] at hj
      exact (Option.some.inj hj).symm
     subst hc
     refine ⟨.int .i64 L'[j], ?_, rfl⟩
     unfold putCells
     rw [Array.getElem?_mapIdx, Array.getElem?_eq_getElem (by omega)]
     simp [hjl]
  ·cases id with
   | zero => simp at hid
   | succ i => simp at hid
end Go.Proofs.Ythlckclbjknldaa
namespace Go.Proofs.Ythlckclbjknldaa
set_option linter.unusedVariables false
set_option linter.unusedSimpArgs false
open Go.RowKit
set_option maxRecDepth 100000
attribute [local go_sem] List.set_cons_zero List.set_cons_succ List.map_cons List.map_nil List.take_succ_cons List.take_zero List.drop_zero List.drop_succ_cons C.pl C.one List.all_cons List.all_nil Bool.and_true Nat.mul_one Int.toNat_natCast

/-- a Walker over R, its marks in object id -/
def wkO (R : List (List Ar)) (id : Nat) (rd : Int) : Ob := .r ⟨57, 3, false, [.t 1 (tRows R), .s id R.length, .v (.int .i64 rd)]⟩
theorem fnew_fc (R : List (List Ar)) (hn : R.length ≤ 1000000) : FC Try.prog 14 [aLts R] [] (fun r o => o = [wkO R 1 0, .r ⟨3, 1, true, cInts (List.replicate R.length 0)⟩] ∧ r = .a (.c (.p 0 0))) := by
 refine fc_intro Try.func14 rfl (by rw [Try.ntmps14]; simp) ?_
 rw [Try.ntmps14]
 simp only [enum, aLts]
 (repeat (first | (refine aw_seq ?_; intro K hK) | refine aw_block ?_ | refine aw_region ?_ | (refine lst_x rfl rfl ?_; intro K1 hK1; simp only [go_sem]; (first | refine hK1 _ ?_ | refine andk (hK1 _ ?_)); clear hK1 K1) | ((first | refine lst_nil ?_ | refine aw_skip ?_); refine hK _ ?_; clear hK K)))
 (refine aw_regionZ [] (.m 1 0 0 (.m 0 1 6 (.m 2 1 4 (.m 3 0 0 (.a 4 (.m 5 0 0 (.a 6 (.a 7 .e)))))))) (by kernel_rfl) (by kernel_rfl) (by intro c st h; simp [ThenA, InBl, Ret] at h) ?_)
 (repeat (first | ((first | refine z_0 rfl rfl rfl ?_ | refine z_1 rfl rfl rfl rfl rfl rfl rfl ?_ | refine z_1b rfl rfl rfl ?_); intro K1 hK1; simp only [go_sem, tRows_len]; (first | refine hK1 _ ?_ | refine andk (hK1 _ ?_)); clear hK1 K1) | (refine z_nil ⟨by simp, by simp, ?_⟩; refine hK _ ?_; clear hK K)))
 (refine z_2 rfl rfl ?_; intro K1 hK1; refine stpF_a rfl ?_; simp only [go_sem, tRows_len]; (first | refine hK1 _ ?_ | refine andk (hK1 _ ?_)); clear hK1 K1)
 (repeat (first | ((first | refine z_0 rfl rfl rfl ?_ | refine z_1 rfl rfl rfl rfl rfl rfl rfl ?_ | refine z_1b rfl rfl rfl ?_); intro K1 hK1; simp only [go_sem]; (first | refine hK1 _ ?_ | refine andk (hK1 _ ?_)); clear hK1 K1) | (refine z_nil ⟨by simp, by simp, ?_⟩; refine hK _ ?_; clear hK K)))
 (refine z_2 rfl rfl ?_; intro K1 hK1; refine stpF_a rfl ?_; simp only [go_sem]; (first | refine hK1 _ ?_ | refine andk (hK1 _ ?_)); clear hK1 K1)
 (repeat (first | ((first | refine z_0 rfl rfl rfl ?_ | refine z_1 rfl rfl rfl rfl rfl rfl rfl ?_ | refine z_1b rfl rfl rfl ?_); intro K1 hK1; simp only [go_sem]; (first | refine hK1 _ ?_ | refine andk (hK1 _ ?_)); clear hK1 K1) | (refine z_nil ⟨by simp, by simp, ?_⟩; refine hK _ ?_; clear hK K)))
 (refine z_3 rfl rfl rfl rfl ?_; intro K1 hK1; refine stp_ev rfl ?_; simp only [go_sem]; (first | refine hK1 _ ?_ | refine andk (hK1 _ ?_)); clear hK1 K1)
 refine z_nil ⟨by simp, by simp, ?_⟩
 (try simp only [ThenA, InBl])
 refine hK _ ?_
 clear hK K
 have e0 : List.replicate R.length (C.v (.int .i64 0)) = cInts (List.replicate R.length 0) := by simp [cInts]
 rw [e0]
 (repeat (first | (refine aw_seq ?_; intro K hK) | refine aw_block ?_ | refine aw_region ?_ | (refine lst_x rfl rfl ?_; intro K1 hK1; simp only [go_sem]; (first | refine hK1 _ ?_ | refine andk (hK1 _ ?_)); clear hK1 K1) | ((first | refine lst_nil ?_ | refine aw_skip ?_); refine hK _ ?_; clear hK K)))
 ((try refine aw_ret ?_); (try simp only [ThenA, InBl]); refine ret_le (le_pick [2, 1] rfl rfl) ?_; (try simp only [List.set_nil, List.take_nil, List.take_zero, List.map_append, go_sem]); ((try refine aw_ret ?_); (try refine lst_nil ?_); (try simp only [ThenA, InBl]); refine ret_mk (by first | exact .inl rfl | exact .inr rfl) rfl ?_; simp only [rtn, resA, resL, resV, Try.results14, go_sem, true_and, and_true, cInts_ren, wkO]))
def stB : List Ar → Bool
 | [] => true
 | a :: _ => a.1 != 0
theorem stable_fc (R : List (List Ar)) (s : Nat) (h : s < R.length) (hn : R.length ≤ 1000000) (hr : ∀ r ∈ R, r.length ≤ 1000000) : FC Try.prog 15 [aLts R, .i s] [] (fun r o => o = [] ∧ r = .b (stB R[s])) := by
 refine fc_intro Try.func15 rfl (by rw [Try.ntmps15]; simp) ?_
 rw [Try.ntmps15]
 simp only [enum, aLts]
 have hg := List.getElem?_eq_getElem h
 have hrl := hr _ (List.getElem_mem h)
 generalize R[s] = row at *
 by_cases h0 : row.length = 0
 ·have d0 : ((row.length : Int) == 0) = true := by simp [h0]
  (repeat (first | (refine aw_seq ?_; intro K hK) | refine aw_block ?_ | refine aw_region ?_ | (refine lst_x rfl rfl ?_; intro K1 hK1; simp only [go_sem, tRows_len, tRows_get hg, tArcs_len, half2, d0]; (first | refine hK1 _ ?_ | refine andk (hK1 _ ?_)); clear hK1 K1) | ((first | refine lst_nil ?_ | refine aw_skip ?_); refine hK _ ?_; clear hK K)))
  ((try refine aw_ret ?_); (try simp only [ThenA, InBl]); refine ret_le (le_pick [] rfl rfl) ?_; (try simp only [List.set_nil, List.take_nil, List.take_zero, List.map_append, go_sem]); ((try refine aw_ret ?_); (try refine lst_nil ?_); (try simp only [ThenA, InBl]); refine ret_mk (by first | exact .inl rfl | exact .inr rfl) rfl ?_; simp only [rtn, resA, resL, resV, Try.results15, go_sem, true_and, and_true]))
  have : row = [] := List.length_eq_zero_iff.1 h0
  subst this; rfl
 ·have d0 : ((row.length : Int) == 0) = false := by simp; intro e; simp [e] at h0
  have h1 : 0 < row.length := by omega
  have hc : (tArcs row)[Int.toNat 0 * 2]? = some (.v (.int .i64 row[0].1)) := tArcs_c0 h1
  (repeat (first | (refine aw_seq ?_; intro K hK) | refine aw_block ?_ | refine aw_region ?_ | (refine lst_x rfl rfl ?_; intro K1 hK1; simp only [go_sem, tRows_len, tRows_get hg, tArcs_len, half2, d0, hc]; (first | refine hK1 _ ?_ | refine andk (hK1 _ ?_)); clear hK1 K1) | ((first | refine lst_nil ?_ | refine aw_skip ?_); refine hK _ ?_; clear hK K)))
  ((try refine aw_ret ?_); (try simp only [ThenA, InBl]); refine ret_le (le_pick [] rfl rfl) ?_; (try simp only [List.set_nil, List.take_nil, List.take_zero, List.map_append, go_sem]); ((try refine aw_ret ?_); (try refine lst_nil ?_); (try simp only [ThenA, InBl]); refine ret_mk (by first | exact .inl rfl | exact .inr rfl) rfl ?_; simp only [rtn, resA, resL, resV, Try.results15, go_sem, true_and, and_true]))
  cases row with
  | nil => exact absurd rfl h0
  | cons a q => rfl
set_option maxHeartbeats 8000000 in
theorem wreach_fc (R : List (List Ar)) (t : Bool) (F : List Nat) (hlo : looB R = true) (hn : R.length ≤ 1000000) (hr : ∀ r ∈ R, r.length ≤ 1000000) (hF : ∀ v ∈ F, v < R.length) (hFl : F.length ≤ 1000000) (seen : List Int) (rd : Int) (hs : seen.length = R.length) (hb : ∀ x ∈ seen, x ≤ rd) (h0 : 0 ≤ rd) (h1 : rd ≤ 1000000000) :
  FC Try.prog 17 [.a (.c (.p 0 0)), .a (.c (.t 1 (tInts (F.map Int.ofNat)))), .b t] [wkO R 1 rd, .r ⟨3, 1, true, cInts seen⟩] (fun r o => ∃ seen' : List Int, seen'.length = R.length ∧ (∀ x ∈ seen', x ≤ rd + 1) ∧ ∃ p : Nat → Bool, (∀ u, u < R.length → (p u = true ↔ ∃ v ∈ F, Rc (Adj t R) v u)) ∧ o = [wkO R 1 (rd + 1), .r ⟨3, 1, true, cInts seen'⟩, .r ⟨3, 1, true, cInts ((ordN R.length p).map Int.ofNat)⟩] ∧ r = .a (.c (.s 2 (ordN R.length p).length))) := by
 refine fc_intro Try.func17 rfl (by rw [Try.ntmps17]; simp) ?_
 rw [Try.ntmps17]
 simp only [enum, wkO]
 have hbd := (of_decide_eq_true hlo).2.2.2
 have hFl2 : (F.map Int.ofNat).length = F.length := by simp
 (repeat (first | (refine aw_seq ?_; intro K hK) | refine aw_block ?_ | refine aw_region ?_ | (refine lst_x rfl rfl ?_; intro K1 hK1; simp only [go_sem, ST.put, setC, A0.cells, tInts_len, hFl2]; (first | refine hK1 _ ?_ | refine andk (hK1 _ ?_)); clear hK1 K1) | ((first | refine lst_nil ?_ | refine aw_skip ?_); refine hK _ ?_; clear hK K)))
 refine aw_le (le_nil 7 3 1 ?_) ?_
 ·simp only [go_sem]
 refine aw_loop (fun x : Nat × List Int × List Nat => { tm := [(0, .a (.c (.p 0 0))), (2, .b t), (7, .a (.c (.s 2 x.2.2.length))), (20, .a (.c (.t 1 (tInts (F.map Int.ofNat))))), (21, .i F.length), (22, .i x.1)], hp := [.r ⟨57, 3, false, [.t 1 (tRows R), .s 1 R.length, .v (.int .i64 (rd + 1))]⟩, .r ⟨3, 1, true, cInts x.2.1⟩, .r ⟨3, 1, true, cInts (x.2.2.map Int.ofNat)⟩], n := 114, pin := 2 }) (fun x => x.1 ≤ F.length ∧ Fw (Adj t R) R.length F (rd + 1) x.2.1 x.2.2 ∧ ∀ v ∈ F.take x.1, v ∈ x.2.2) (fun x => F.length - x.1) (0, seen, []) ?_ ?_ ?_
 ·exact ⟨by simp, Fw.start hs (fun x hx => by have := hb x hx; omega), by simp⟩
 ·(refine le_tm ?_; simp only [LeTm, go_sem]; try simp)
 ·rintro ⟨k, sn, out⟩ ⟨hk, hW, hT⟩ K hK
  simp only at hk hW hT
  have hsl := hW.len
  have hol := hW.le
  by_cases hlt : k < F.length
  ·have d1 : decide ((k : Int) < (F.length : Int)) = true := by simpa using hlt
   have gF : (tInts (F.map Int.ofNat))[k]? = some (.v (.int .i64 (F[k] : Int))) := tInts_get (by rw [List.getElem?_map, List.getElem?_eq_getElem hlt]; rfl)
   have hul := hF _ (List.getElem_mem hlt)
   have hFk := List.getElem_mem hlt
   have hTk : F.take (k + 1) = F.take k ++ [F[k]] := List.take_succ_eq_append_getElem hlt
   generalize F[k] = u at *
   have gs : (cInts sn)[u]? = some (.v (.int .i64 sn[u])) := cInts_get (List.getElem?_eq_getElem (by omega))
   have gd : sn.getD u 0 = sn[u] := by rw [List.getD_eq_getElem?_getD, List.getElem?_eq_getElem (by omega)]; rfl
   (repeat (first | (refine aw_seq ?_; intro K hK) | refine aw_block ?_ | refine aw_region ?_ | (refine lst_x rfl rfl ?_; intro K1 hK1; simp only [go_sem, d1]; (first | refine hK1 _ ?_ | refine andk (hK1 _ ?_)); clear hK1 K1) | ((first | refine lst_nil ?_ | refine aw_skip ?_); refine hK _ ?_; clear hK K)))
   (refine aw_cnd ?_; intro X Y hX hY; simp only [go_sem])
   refine hX ?_
   clear hX hY X Y
   by_cases hq : sn[u] = rd + 1
   ·have d2 : (sn[u] != rd + 1) = false := by rw [hq]; simp
    have hmem := hW.mem hul (by rw [gd, hq])
    (repeat (first | (refine aw_seq ?_; intro K hK) | refine aw_block ?_ | refine aw_region ?_ | (refine lst_x rfl rfl ?_; intro K1 hK1; simp only [go_sem, gF, tInts_len, hFl2]; (first | refine hK1 _ ?_ | refine andk (hK1 _ ?_)); clear hK1 K1) | ((first | refine lst_nil ?_ | refine aw_skip ?_); refine hK _ ?_; clear hK K)))
    (refine aw_regionU 11 [(0, 0), (1, 0), (2, 0), (3, 1), (4, 0), (5, 0), (6, 1), (7, 0), (8, 0), (9, 0), (10, 1), (11, 2)] (by kernel_rfl) (by kernel_rfl) (by intro c st h; simp [ThenA, InBl, Ret] at h) ?_)
    (repeat (first | ((first | refine u_0x rfl rfl rfl ?_ | refine u_1x rfl rfl rfl ?_); intro K1 hK1; simp only [go_sem, gs, cInts_len, hsl, d2]; (first | refine hK1 _ ?_ | refine andk (hK1 _ ?_)); clear hK1 K1) | (refine u_2x rfl rfl rfl rfl ?_; intro K1 hK1; simp only [go_sem, gs, cInts_len, hsl, d2]; (first | refine hK1 _ ?_ | refine andk (hK1 _ ?_)); clear hK1 K1) | (refine u_nil ?_; refine hK _ ?_; clear hK K)))
    (refine aw_cnd ?_; intro X Y hX hY; simp only [go_sem])
    refine hY ?_
    clear hX hY X Y
    (repeat (first | (refine aw_seq ?_; intro K hK) | refine aw_block ?_ | refine aw_region ?_ | (refine lst_x rfl rfl ?_; intro K1 hK1; simp only [go_sem]; (first | refine hK1 _ ?_ | refine andk (hK1 _ ?_)); clear hK1 K1) | ((first | refine lst_nil ?_ | refine aw_skip ?_); refine hK _ ?_; clear hK K)))
    ((try refine lst_nil ?_); (try refine aw_skip ?_); try simp only [ThenA])
    refine hK _ (k + 1, sn, out) ⟨by simp only; omega, hW, fun v hv => ?_⟩ (by simp only; omega) ?_
    ·simp only at hv
     rw [hTk] at hv
     rcases List.mem_append.1 hv with h | h
     ·exact hT v h
     ·simp at h; subst h; exact hmem
    ·(refine le_tm ?_; simp only [LeTm, go_sem]; try simp)
   ·have d2 : (sn[u] != rd + 1) = true := by simpa using hq
    have hW2 := hW.push hul (by rw [gd]; exact hq) ⟨u, hFk, .refl _⟩
    have op1 := op_push out u []
    simp only [List.append_nil] at op1
    (repeat (first | (refine aw_seq ?_; intro K hK) | refine aw_block ?_ | refine aw_region ?_ | (refine lst_x rfl rfl ?_; intro K1 hK1; simp only [go_sem, gF, tInts_len, hFl2]; (first | refine hK1 _ ?_ | refine andk (hK1 _ ?_)); clear hK1 K1) | ((first | refine lst_nil ?_ | refine aw_skip ?_); refine hK _ ?_; clear hK K)))
    (refine aw_regionU 11 [(0, 0), (1, 0), (2, 0), (3, 1), (4, 0), (5, 0), (6, 1), (7, 0), (8, 0), (9, 0), (10, 1), (11, 2)] (by kernel_rfl) (by kernel_rfl) (by intro c st h; simp [ThenA, InBl, Ret] at h) ?_)
    (repeat (first | ((first | refine u_0x rfl rfl rfl ?_ | refine u_1x rfl rfl rfl ?_); intro K1 hK1; simp only [go_sem, gs, cInts_len, hsl, d2]; (first | refine hK1 _ ?_ | refine andk (hK1 _ ?_)); clear hK1 K1) | (refine u_2x rfl rfl rfl rfl ?_; intro K1 hK1; simp only [go_sem, gs, cInts_len, hsl, d2]; (first | refine hK1 _ ?_ | refine andk (hK1 _ ?_)); clear hK1 K1) | (refine u_nil ?_; refine hK _ ?_; clear hK K)))
    (refine aw_cnd ?_; intro X Y hX hY; simp only [go_sem])
    refine hX ?_
    clear hX hY X Y
    (repeat (first | (refine aw_seq ?_; intro K hK) | refine aw_block ?_ | refine aw_region ?_ | (refine lst_x rfl rfl ?_; intro K1 hK1; simp only [go_sem]; (first | refine hK1 _ ?_ | refine andk (hK1 _ ?_)); clear hK1 K1) | ((first | refine lst_nil ?_ | refine aw_skip ?_); refine hK _ ?_; clear hK K)))
    (refine aw_regionU 10 [(0, 0), (1, 0), (2, 0), (3, 1), (4, 0), (5, 0), (6, 0), (7, 0), (8, 1), (9, 0), (10, 2)] (by kernel_rfl) (by kernel_rfl) (by intro c st h; simp [ThenA, InBl, Ret] at h) ?_)
    (repeat (first | ((first | refine u_0x rfl rfl rfl ?_ | refine u_1x rfl rfl rfl ?_); intro K1 hK1; simp only [go_sem, cInts_len, hsl, cInts_set, ST.put, setC, A0.cells]; (first | refine hK1 _ ?_ | refine andk (hK1 _ ?_)); clear hK1 K1) | (refine u_2x rfl rfl rfl rfl ?_; intro K1 hK1; simp only [go_sem, cInts_len, hsl, cInts_set, ST.put, setC, A0.cells]; (first | refine hK1 _ ?_ | refine andk (hK1 _ ?_)); clear hK1 K1) | (refine u_nil ?_; refine hK _ ?_; clear hK K)))
    (repeat (first | (refine aw_seq ?_; intro K hK) | refine aw_block ?_ | refine aw_region ?_ | (refine lst_x rfl rfl ?_; intro K1 hK1; simp only [go_sem, cInts_len, List.length_map, op1, Nat.le_refl]; (first | refine hK1 _ ?_ | refine andk (hK1 _ ?_)); clear hK1 K1) | ((first | refine lst_nil ?_ | refine aw_skip ?_); refine hK _ ?_; clear hK K)))
    ((try refine lst_nil ?_); (try refine aw_skip ?_); try simp only [ThenA])
    refine hK _ (k + 1, sn.set u (rd + 1), out ++ [u]) ⟨by simp only; omega, hW2, fun v hv => ?_⟩ (by simp only; omega) ?_
    ·simp only at hv
     rw [hTk] at hv
     rcases List.mem_append.1 hv with h | h
     ·exact List.mem_append_left _ (hT v h)
     ·simp at h; subst h; simp
    ·refine Le.trans (le_pick [0, 1, 4] rfl rfl) ?_
     (try simp only [List.set_nil, List.take_nil, List.take_zero, List.map_append, go_sem])
     (try simp only [cInts_ren])
     simp only [List.length_append, List.length_cons, List.length_nil]
     (refine le_tm ?_; simp only [LeTm, go_sem]; try simp)
  ·have d1 : decide ((k : Int) < (F.length : Int)) = false := by simpa using hlt
   have hT2 : ∀ v ∈ F, v ∈ out := fun v hv => hT v (by rw [List.take_of_length_le (by omega)]; exact hv)
   clear hT
   (repeat (first | (refine aw_seq ?_; intro K hK) | refine aw_block ?_ | refine aw_region ?_ | (refine lst_x rfl rfl ?_; intro K1 hK1; simp only [go_sem, d1]; (first | refine hK1 _ ?_ | refine andk (hK1 _ ?_)); clear hK1 K1) | ((first | refine lst_nil ?_ | refine aw_skip ?_); refine hK _ ?_; clear hK K)))
   (refine aw_cnd ?_; intro X Y hX hY; simp only [go_sem])
   refine hY ?_
   clear hX hY X Y
   (refine aw_exit ?_; simp only [ThenA, InBl, reduceIte, Nat.reduceEqDiff]; (first | refine hK _ ?_ | (clear hK K; refine hK _ ?_) | (clear hK K; clear hK K; refine hK _ ?_) | (clear hK K; clear hK K; clear hK K; refine hK _ ?_) | (clear hK K; clear hK K; clear hK K; clear hK K; refine hK _ ?_) | (clear hK K; clear hK K; clear hK K; clear hK K; clear hK K; refine hK _ ?_)); clear hK K)
   (repeat (first | (refine aw_seq ?_; intro K hK) | refine aw_block ?_ | refine aw_region ?_ | (refine lst_x rfl rfl ?_; intro K1 hK1; simp only [go_sem]; (first | refine hK1 _ ?_ | refine andk (hK1 _ ?_)); clear hK1 K1) | ((first | refine lst_nil ?_ | refine aw_skip ?_); refine hK _ ?_; clear hK K)))
   refine aw_loop (fun x : Nat × List Int × List Nat => { tm := [(0, .a (.c (.p 0 0))), (2, .b t), (7, .a (.c (.s 2 x.2.2.length))), (10, .i x.1)], hp := [.r ⟨57, 3, false, [.t 1 (tRows R), .s 1 R.length, .v (.int .i64 (rd + 1))]⟩, .r ⟨3, 1, true, cInts x.2.1⟩, .r ⟨3, 1, true, cInts (x.2.2.map Int.ofNat)⟩], n := 114, pin := 2 }) (fun x => x.1 ≤ x.2.2.length ∧ Fw (Adj t R) R.length F (rd + 1) x.2.1 x.2.2 ∧ (∀ v ∈ F, v ∈ x.2.2) ∧ ∀ (j u : Nat), j < x.1 → x.2.2[j]? = some u → ∀ w ∈ Adj t R u, w ∈ x.2.2) (fun x => R.length - x.1) (0, sn, out) ?_ ?_ ?_
   ·exact ⟨by simp, hW, hT2, by simp⟩
   ·(refine le_tm ?_; simp only [LeTm, go_sem]; try simp)
   ·clear hW hT2 hsl hol hk hlt d1
    clear out sn
    rintro ⟨i, sn, out⟩ ⟨hi, hW, hT, hC⟩ K hK
    simp only at hi hW hT hC
    have hsl := hW.len
    have hol := hW.le
    by_cases hlt : i < out.length
    ·have d1 : decide ((i : Int) < (out.length : Int)) = true := by simpa using hlt
     have go : (cInts (out.map Int.ofNat))[i]? = some (.v (.int .i64 (out[i] : Int))) := cInts_get (by rw [List.getElem?_map, List.getElem?_eq_getElem hlt]; rfl)
     have hul := hW.lt _ (List.getElem_mem hlt)
     have hsu := hW.snd _ (List.getElem_mem hlt)
     have hoi : out[i]? = some out[i] := List.getElem?_eq_getElem hlt
     generalize out[i] = u at *
     have hgR := List.getElem?_eq_getElem hul
     have hrl := hr _ (List.getElem_mem hul)
     have hbr := hbd _ (List.getElem_mem hul)
     have hAu : Adj t R u = (tauOf t R[u]).map fun a => a.2.toNat := by
      unfold Adj; rw [List.getD_eq_getElem?_getD, hgR]; rfl
     generalize hrr : R[u] = row at *
     have hKo := hK
     (repeat (first | (refine aw_seq ?_; intro K hK) | refine aw_block ?_ | refine aw_region ?_ | (refine lst_x rfl rfl ?_; intro K1 hK1; simp only [go_sem, d1, cInts_len, List.length_map]; (first | refine hK1 _ ?_ | refine andk (hK1 _ ?_)); clear hK1 K1) | ((first | refine lst_nil ?_ | refine aw_skip ?_); refine hK _ ?_; clear hK K)))
     (refine aw_cnd ?_; intro X Y hX hY; simp only [go_sem])
     refine hX ?_
     clear hX hY X Y
     (repeat (first | (refine aw_seq ?_; intro K hK) | refine aw_block ?_ | refine aw_region ?_ | (refine lst_x rfl rfl ?_; intro K1 hK1; simp only [go_sem]; (first | refine hK1 _ ?_ | refine andk (hK1 _ ?_)); clear hK1 K1) | ((first | refine lst_nil ?_ | refine aw_skip ?_); refine hK _ ?_; clear hK K)))
     (refine aw_regionU 11 [(0, 0), (1, 0), (2, 0), (3, 0), (4, 1), (5, 0), (6, 0), (7, 0), (8, 1), (9, 0), (10, 1), (12, 0), (11, 2)] (by kernel_rfl) (by kernel_rfl) (by intro c st h; simp [ThenA, InBl, Ret] at h) ?_)
     (repeat (first | ((first | refine u_0x rfl rfl rfl ?_ | refine u_1x rfl rfl rfl ?_); intro K1 hK1; simp only [go_sem, tRows_len, tRows_get hgR, cInts_len, List.length_map, go, tArcs_len, half2]; (first | refine hK1 _ ?_ | refine andk (hK1 _ ?_)); clear hK1 K1) | (refine u_2x rfl rfl rfl rfl ?_; intro K1 hK1; simp only [go_sem, tRows_len, tRows_get hgR, cInts_len, List.length_map, go, tArcs_len, half2]; (first | refine hK1 _ ?_ | refine andk (hK1 _ ?_)); clear hK1 K1) | (refine u_nil ?_; refine hK _ ?_; clear hK K)))
     (repeat (first | (refine aw_seq ?_; intro K hK) | refine aw_block ?_ | refine aw_region ?_ | (refine lst_x rfl rfl ?_; intro K1 hK1; simp only [go_sem]; (first | refine hK1 _ ?_ | refine andk (hK1 _ ?_)); clear hK1 K1) | ((first | refine lst_nil ?_ | refine aw_skip ?_); refine hK _ ?_; clear hK K)))
     refine aw_loop (fun x : Nat × List Int × List Nat => { tm := [(0, .a (.c (.p 0 0))), (2, .b t), (7, .a (.c (.s 2 x.2.2.length))), (10, .i i), (69, .a (.c (.t 2 (tArcs row)))), (70, .i row.length), (71, .i x.1)], hp := [.r ⟨57, 3, false, [.t 1 (tRows R), .s 1 R.length, .v (.int .i64 (rd + 1))]⟩, .r ⟨3, 1, true, cInts x.2.1⟩, .r ⟨3, 1, true, cInts (x.2.2.map Int.ofNat)⟩], n := 114, pin := 2 }) (fun x => x.1 ≤ row.length ∧ Fw (Adj t R) R.length F (rd + 1) x.2.1 x.2.2 ∧ (∃ l, x.2.2 = out ++ l) ∧ (t = true → ∀ j a, j < x.1 → row[j]? = some a → a.1 = 0) ∧ ∀ a ∈ row.take x.1, a.2.toNat ∈ x.2.2) (fun x => row.length - x.1) (0, sn, out) ?_ ?_ ?_
     ·exact ⟨by simp, hW, ⟨[], by simp⟩, by simp, by simp⟩
     ·(refine le_tm ?_; simp only [LeTm, go_sem]; try simp)
     ·have fin : ∀ (sn1 : List Int) (out1 : List Nat), Fw (Adj t R) R.length F (rd + 1) sn1 out1 → (∃ l, out1 = out ++ l) → (∀ a ∈ tauOf t row, a.2.toNat ∈ out1) → (i + 1 ≤ out1.length ∧ Fw (Adj t R) R.length F (rd + 1) sn1 out1 ∧ (∀ v ∈ F, v ∈ out1) ∧ ∀ (j u : Nat), j < i + 1 → out1[j]? = some u → ∀ w ∈ Adj t R u, w ∈ out1) := by
       rintro sn1 out1 q1 ⟨l, rfl⟩ q3
       refine ⟨by simp; omega, q1, fun v hv => List.mem_append_left _ (hT v hv), fun j x hj hx w hw => ?_⟩
       rw [List.getElem?_append_left (by omega)] at hx
       by_cases e : j = i
       ·subst e
        rw [hoi] at hx; cases hx
        rw [hAu] at hw
        obtain ⟨a, ha, rfl⟩ := List.mem_map.1 hw
        exact q3 a ha
       ·exact List.mem_append_left _ (hC j x (by omega) hx w hw)
      rintro ⟨k, sn1, out1⟩ ⟨hk, hW1, hl1, hz, hT1⟩ K hK
      simp only at hk hW1 hl1 hz hT1
      have hsl1 := hW1.len
      have hol1 := hW1.le
      by_cases hlt2 : k < row.length
      ·have d2 : decide ((k : Int) < (row.length : Int)) = true := by simpa using hlt2
       have hat := tArcs_at hlt2
       have hb2 := hbr _ (List.getElem_mem hlt2)
       have hrk : row[k]? = some row[k] := List.getElem?_eq_getElem hlt2
       have hTk : row.take (k + 1) = row.take k ++ [row[k]] := List.take_succ_eq_append_getElem hlt2
       generalize row[k] = a at *
       obtain ⟨e, tn, rfl⟩ : ∃ (e : Int) (tn : Nat), a = (e, (tn : Int)) := ⟨a.1, a.2.toNat, by
        have : (a.2.toNat : Int) = a.2 := by omega
        rw [this]⟩
       simp only at hb2
       have htn : tn < R.length := by omega
       by_cases hst : t = true ∧ e ≠ 0
       ·obtain ⟨ht, he⟩ := hst
        subst ht
        have d3 : (e != 0) = true := by simpa using he
        (repeat (first | (refine aw_seq ?_; intro K hK) | refine aw_block ?_ | refine aw_region ?_ | (refine lst_x rfl rfl ?_; intro K1 hK1; simp only [go_sem, d2]; (first | refine hK1 _ ?_ | refine andk (hK1 _ ?_)); clear hK1 K1) | ((first | refine lst_nil ?_ | refine aw_skip ?_); refine hK _ ?_; clear hK K)))
        (refine aw_cnd ?_; intro X Y hX hY; simp only [go_sem])
        refine hX ?_
        clear hX hY X Y
        (repeat (first | (refine aw_seq ?_; intro K hK) | refine aw_block ?_ | refine aw_region ?_ | (refine lst_x rfl rfl ?_; intro K1 hK1; simp only [go_sem, hat, tArcs_len, half2, ST.put, setC, A0.cells, d3]; (first | refine hK1 _ ?_ | refine andk (hK1 _ ?_)); clear hK1 K1) | ((first | refine lst_nil ?_ | refine aw_skip ?_); refine hK _ ?_; clear hK K)))
        (refine aw_cnd ?_; intro X Y hX hY; simp only [go_sem])
        refine hX ?_
        clear hX hY X Y
        (refine aw_exit ?_; simp only [ThenA, InBl, reduceIte, Nat.reduceEqDiff]; (first | refine hK _ ?_ | (clear hK K; refine hK _ ?_) | (clear hK K; clear hK K; refine hK _ ?_) | (clear hK K; clear hK K; clear hK K; refine hK _ ?_) | (clear hK K; clear hK K; clear hK K; clear hK K; refine hK _ ?_) | (clear hK K; clear hK K; clear hK K; clear hK K; clear hK K; refine hK _ ?_)); clear hK K)
        (repeat (first | (refine aw_seq ?_; intro K hK) | refine aw_block ?_ | refine aw_region ?_ | (refine lst_x rfl rfl ?_; intro K1 hK1; simp only [go_sem]; (first | refine hK1 _ ?_ | refine andk (hK1 _ ?_)); clear hK1 K1) | ((first | refine lst_nil ?_ | refine aw_skip ?_); refine hK _ ?_; clear hK K)))
        ((try refine lst_nil ?_); (try refine aw_skip ?_); try simp only [ThenA])
        refine hKo _ (i + 1, sn1, out1) (fin sn1 out1 hW1 hl1 (fun a ha => ?_)) (by simp only; omega) ?_
        ·rw [tauOf_stop (hz rfl) (fun b hb => by rw [hrk] at hb; cases hb; exact he)] at ha
         exact hT1 a ha
        ·refine Le.trans (le_pick [0, 1, 2] rfl rfl) ?_
         (try simp only [List.set_nil, List.take_nil, List.take_zero, List.map_append, go_sem])
         (try simp only [cInts_ren])
         (refine le_tm ?_; simp only [LeTm, go_sem]; try simp)
       ·have hz2 : t = true → ∀ j a, j < k + 1 → row[j]? = some a → a.1 = 0 := fun ht j a hj ha => by
         by_cases e2 : j = k
         ·subst e2
          rw [hrk] at ha; cases ha
          exact Decidable.byContradiction fun h => hst ⟨ht, h⟩
         ·exact hz ht j a (by omega) ha
        have gs : (cInts sn1)[tn]? = some (.v (.int .i64 sn1[tn])) := cInts_get (List.getElem?_eq_getElem (by omega))
        have gd : sn1.getD tn 0 = sn1[tn] := by rw [List.getD_eq_getElem?_getD, List.getElem?_eq_getElem (by omega)]; rfl
        cases t with
        | false =>
         (repeat (first | (refine aw_seq ?_; intro K hK) | refine aw_block ?_ | refine aw_region ?_ | (refine lst_x rfl rfl ?_; intro K1 hK1; simp only [go_sem, d2]; (first | refine hK1 _ ?_ | refine andk (hK1 _ ?_)); clear hK1 K1) | ((first | refine lst_nil ?_ | refine aw_skip ?_); refine hK _ ?_; clear hK K)))
         (refine aw_cnd ?_; intro X Y hX hY; simp only [go_sem])
         refine hX ?_
         clear hX hY X Y
         (repeat (first | (refine aw_seq ?_; intro K hK) | refine aw_block ?_ | refine aw_region ?_ | (refine lst_x rfl rfl ?_; intro K1 hK1; simp only [go_sem, hat, tArcs_len, half2, ST.put, setC, A0.cells]; (first | refine hK1 _ ?_ | refine andk (hK1 _ ?_)); clear hK1 K1) | ((first | refine lst_nil ?_ | refine aw_skip ?_); refine hK _ ?_; clear hK K)))
         (refine aw_cnd ?_; intro X Y hX hY; simp only [go_sem])
         refine hY ?_
         clear hX hY X Y
         by_cases hq : sn1[tn] = rd + 1
         ·have d4 : (sn1[tn] != rd + 1) = false := by rw [hq]; simp
          have hmem := hW1.mem htn (by rw [gd, hq])
          (repeat (first | (refine aw_seq ?_; intro K hK) | refine aw_block ?_ | refine aw_region ?_ | (refine lst_x rfl rfl ?_; intro K1 hK1; simp only [go_sem]; (first | refine hK1 _ ?_ | refine andk (hK1 _ ?_)); clear hK1 K1) | ((first | refine lst_nil ?_ | refine aw_skip ?_); refine hK _ ?_; clear hK K)))
          (refine aw_regionU 12 [(0, 0), (1, 0), (2, 0), (3, 1), (4, 0), (5, 1), (6, 0), (7, 1), (8, 0), (9, 0), (10, 0), (11, 1), (12, 2)] (by kernel_rfl) (by kernel_rfl) (by intro c st h; simp [ThenA, InBl, Ret] at h) ?_)
          (repeat (first | ((first | refine u_0x rfl rfl rfl ?_ | refine u_1x rfl rfl rfl ?_); intro K1 hK1; simp only [go_sem, gs, cInts_len, hsl1, d4]; (first | refine hK1 _ ?_ | refine andk (hK1 _ ?_)); clear hK1 K1) | (refine u_2x rfl rfl rfl rfl ?_; intro K1 hK1; simp only [go_sem, gs, cInts_len, hsl1, d4]; (first | refine hK1 _ ?_ | refine andk (hK1 _ ?_)); clear hK1 K1) | (refine u_nil ?_; refine hK _ ?_; clear hK K)))
          (refine aw_cnd ?_; intro X Y hX hY; simp only [go_sem])
          refine hY ?_
          clear hX hY X Y
          (repeat (first | (refine aw_seq ?_; intro K hK) | refine aw_block ?_ | refine aw_region ?_ | (refine lst_x rfl rfl ?_; intro K1 hK1; simp only [go_sem]; (first | refine hK1 _ ?_ | refine andk (hK1 _ ?_)); clear hK1 K1) | ((first | refine lst_nil ?_ | refine aw_skip ?_); refine hK _ ?_; clear hK K)))
          ((try refine lst_nil ?_); (try refine aw_skip ?_); try simp only [ThenA])
          refine hK _ (k + 1, sn1, out1) ⟨by simp only; omega, hW1, hl1, hz2, fun a ha => ?_⟩ (by simp only; omega) ?_
          ·simp only at ha
           rw [hTk] at ha
           rcases List.mem_append.1 ha with h | h
           ·exact hT1 a h
           ·simp at h; subst h; simpa using hmem
          ·refine Le.trans (le_pick [0, 1, 2] rfl rfl) ?_
           (try simp only [List.set_nil, List.take_nil, List.take_zero, List.map_append, go_sem])
           (try simp only [cInts_ren])
           (refine le_tm ?_; simp only [LeTm, go_sem]; try simp)
         ·have d4 : (sn1[tn] != rd + 1) = true := by simpa using hq
          obtain ⟨v, hv, hvu⟩ := hsu
          have hW2 := hW1.push htn (by rw [gd]; exact hq) ⟨v, hv, hvu.tail (by rw [hAu]; exact List.mem_map.2 ⟨(e, (tn : Int)), tauOf_at hz2 hrk, by simp⟩)⟩
          have op1 := op_push out1 tn []
          simp only [List.append_nil] at op1
          (repeat (first | (refine aw_seq ?_; intro K hK) | refine aw_block ?_ | refine aw_region ?_ | (refine lst_x rfl rfl ?_; intro K1 hK1; simp only [go_sem]; (first | refine hK1 _ ?_ | refine andk (hK1 _ ?_)); clear hK1 K1) | ((first | refine lst_nil ?_ | refine aw_skip ?_); refine hK _ ?_; clear hK K)))
          (refine aw_regionU 12 [(0, 0), (1, 0), (2, 0), (3, 1), (4, 0), (5, 1), (6, 0), (7, 1), (8, 0), (9, 0), (10, 0), (11, 1), (12, 2)] (by kernel_rfl) (by kernel_rfl) (by intro c st h; simp [ThenA, InBl, Ret] at h) ?_)
          (repeat (first | ((first | refine u_0x rfl rfl rfl ?_ | refine u_1x rfl rfl rfl ?_); intro K1 hK1; simp only [go_sem, gs, cInts_len, hsl1, d4]; (first | refine hK1 _ ?_ | refine andk (hK1 _ ?_)); clear hK1 K1) | (refine u_2x rfl rfl rfl rfl ?_; intro K1 hK1; simp only [go_sem, gs, cInts_len, hsl1, d4]; (first | refine hK1 _ ?_ | refine andk (hK1 _ ?_)); clear hK1 K1) | (refine u_nil ?_; refine hK _ ?_; clear hK K)))
          (refine aw_cnd ?_; intro X Y hX hY; simp only [go_sem])
          refine hX ?_
          clear hX hY X Y
          (repeat (first | (refine aw_seq ?_; intro K hK) | refine aw_block ?_ | refine aw_region ?_ | (refine lst_x rfl rfl ?_; intro K1 hK1; simp only [go_sem]; (first | refine hK1 _ ?_ | refine andk (hK1 _ ?_)); clear hK1 K1) | ((first | refine lst_nil ?_ | refine aw_skip ?_); refine hK _ ?_; clear hK K)))
          (refine aw_regionU 11 [(0, 0), (1, 0), (2, 0), (3, 1), (4, 0), (5, 1), (6, 0), (7, 0), (8, 0), (9, 1), (10, 0), (11, 2)] (by kernel_rfl) (by kernel_rfl) (by intro c st h; simp [ThenA, InBl, Ret] at h) ?_)
          (repeat (first | ((first | refine u_0x rfl rfl rfl ?_ | refine u_1x rfl rfl rfl ?_); intro K1 hK1; simp only [go_sem, cInts_len, hsl1, cInts_set, ST.put, setC, A0.cells]; (first | refine hK1 _ ?_ | refine andk (hK1 _ ?_)); clear hK1 K1) | (refine u_2x rfl rfl rfl rfl ?_; intro K1 hK1; simp only [go_sem, cInts_len, hsl1, cInts_set, ST.put, setC, A0.cells]; (first | refine hK1 _ ?_ | refine andk (hK1 _ ?_)); clear hK1 K1) | (refine u_nil ?_; refine hK _ ?_; clear hK K)))
          (repeat (first | (refine aw_seq ?_; intro K hK) | refine aw_block ?_ | refine aw_region ?_ | (refine lst_x rfl rfl ?_; intro K1 hK1; simp only [go_sem, cInts_len, List.length_map, op1, Nat.le_refl]; (first | refine hK1 _ ?_ | refine andk (hK1 _ ?_)); clear hK1 K1) | ((first | refine lst_nil ?_ | refine aw_skip ?_); refine hK _ ?_; clear hK K)))
          ((try refine lst_nil ?_); (try refine aw_skip ?_); try simp only [ThenA])
          obtain ⟨l, hl⟩ := hl1
          refine hK _ (k + 1, sn1.set tn (rd + 1), out1 ++ [tn]) ⟨by simp only; omega, hW2, ⟨l ++ [tn], by simp only; rw [hl, List.append_assoc]⟩, hz2, fun a ha => ?_⟩ (by simp only; omega) ?_
          ·simp only at ha
           rw [hTk] at ha
           rcases List.mem_append.1 ha with h | h
           ·exact List.mem_append_left _ (hT1 a h)
           ·simp at h; subst h; simp
          ·refine Le.trans (le_pick [0, 1, 5] rfl rfl) ?_
           (try simp only [List.set_nil, List.take_nil, List.take_zero, List.map_append, go_sem])
           (try simp only [cInts_ren])
           simp only [List.length_append, List.length_cons, List.length_nil]
           (refine le_tm ?_; simp only [LeTm, go_sem]; try simp)
        | true =>
         have d3 : (e != 0) = false := by
          have : e = 0 := Decidable.byContradiction fun h => hst ⟨rfl, h⟩
          simp [this]
         (repeat (first | (refine aw_seq ?_; intro K hK) | refine aw_block ?_ | refine aw_region ?_ | (refine lst_x rfl rfl ?_; intro K1 hK1; simp only [go_sem, d2]; (first | refine hK1 _ ?_ | refine andk (hK1 _ ?_)); clear hK1 K1) | ((first | refine lst_nil ?_ | refine aw_skip ?_); refine hK _ ?_; clear hK K)))
         (refine aw_cnd ?_; intro X Y hX hY; simp only [go_sem])
         refine hX ?_
         clear hX hY X Y
         (repeat (first | (refine aw_seq ?_; intro K hK) | refine aw_block ?_ | refine aw_region ?_ | (refine lst_x rfl rfl ?_; intro K1 hK1; simp only [go_sem, hat, tArcs_len, half2, ST.put, setC, A0.cells, d3]; (first | refine hK1 _ ?_ | refine andk (hK1 _ ?_)); clear hK1 K1) | ((first | refine lst_nil ?_ | refine aw_skip ?_); refine hK _ ?_; clear hK K)))
         (refine aw_cnd ?_; intro X Y hX hY; simp only [go_sem])
         refine hY ?_
         clear hX hY X Y
         by_cases hq : sn1[tn] = rd + 1
         ·have d4 : (sn1[tn] != rd + 1) = false := by rw [hq]; simp
          have hmem := hW1.mem htn (by rw [gd, hq])
          (repeat (first | (refine aw_seq ?_; intro K hK) | refine aw_block ?_ | refine aw_region ?_ | (refine lst_x rfl rfl ?_; intro K1 hK1; simp only [go_sem]; (first | refine hK1 _ ?_ | refine andk (hK1 _ ?_)); clear hK1 K1) | ((first | refine lst_nil ?_ | refine aw_skip ?_); refine hK _ ?_; clear hK K)))
          (refine aw_regionU 12 [(0, 0), (1, 0), (2, 0), (3, 1), (4, 0), (5, 1), (6, 0), (7, 1), (8, 0), (9, 0), (10, 0), (11, 1), (12, 2)] (by kernel_rfl) (by kernel_rfl) (by intro c st h; simp [ThenA, InBl, Ret] at h) ?_)
          (repeat (first | ((first | refine u_0x rfl rfl rfl ?_ | refine u_1x rfl rfl rfl ?_); intro K1 hK1; simp only [go_sem, gs, cInts_len, hsl1, d4]; (first | refine hK1 _ ?_ | refine andk (hK1 _ ?_)); clear hK1 K1) | (refine u_2x rfl rfl rfl rfl ?_; intro K1 hK1; simp only [go_sem, gs, cInts_len, hsl1, d4]; (first | refine hK1 _ ?_ | refine andk (hK1 _ ?_)); clear hK1 K1) | (refine u_nil ?_; refine hK _ ?_; clear hK K)))
          (refine aw_cnd ?_; intro X Y hX hY; simp only [go_sem])
          refine hY ?_
          clear hX hY X Y
          (repeat (first | (refine aw_seq ?_; intro K hK) | refine aw_block ?_ | refine aw_region ?_ | (refine lst_x rfl rfl ?_; intro K1 hK1; simp only [go_sem]; (first | refine hK1 _ ?_ | refine andk (hK1 _ ?_)); clear hK1 K1) | ((first | refine lst_nil ?_ | refine aw_skip ?_); refine hK _ ?_; clear hK K)))
          ((try refine lst_nil ?_); (try refine aw_skip ?_); try simp only [ThenA])
          refine hK _ (k + 1, sn1, out1) ⟨by simp only; omega, hW1, hl1, hz2, fun a ha => ?_⟩ (by simp only; omega) ?_
          ·simp only at ha
           rw [hTk] at ha
           rcases List.mem_append.1 ha with h | h
           ·exact hT1 a h
           ·simp at h; subst h; simpa using hmem
          ·refine Le.trans (le_pick [0, 1, 2] rfl rfl) ?_
           (try simp only [List.set_nil, List.take_nil, List.take_zero, List.map_append, go_sem])
           (try simp only [cInts_ren])
           (refine le_tm ?_; simp only [LeTm, go_sem]; try simp)
         ·have d4 : (sn1[tn] != rd + 1) = true := by simpa using hq
          obtain ⟨v, hv, hvu⟩ := hsu
          have hW2 := hW1.push htn (by rw [gd]; exact hq) ⟨v, hv, hvu.tail (by rw [hAu]; exact List.mem_map.2 ⟨(e, (tn : Int)), tauOf_at hz2 hrk, by simp⟩)⟩
          have op1 := op_push out1 tn []
          simp only [List.append_nil] at op1
          (repeat (first | (refine aw_seq ?_; intro K hK) | refine aw_block ?_ | refine aw_region ?_ | (refine lst_x rfl rfl ?_; intro K1 hK1; simp only [go_sem]; (first | refine hK1 _ ?_ | refine andk (hK1 _ ?_)); clear hK1 K1) | ((first | refine lst_nil ?_ | refine aw_skip ?_); refine hK _ ?_; clear hK K)))
          (refine aw_regionU 12 [(0, 0), (1, 0), (2, 0), (3, 1), (4, 0), (5, 1), (6, 0), (7, 1), (8, 0), (9, 0), (10, 0), (11, 1), (12, 2)] (by kernel_rfl) (by kernel_rfl) (by intro c st h; simp [ThenA, InBl, Ret] at h) ?_)
          (repeat (first | ((first | refine u_0x rfl rfl rfl ?_ | refine u_1x rfl rfl rfl ?_); intro K1 hK1; simp only [go_sem, gs, cInts_len, hsl1, d4]; (first | refine hK1 _ ?_ | refine andk (hK1 _ ?_)); clear hK1 K1) | (refine u_2x rfl rfl rfl rfl ?_; intro K1 hK1; simp only [go_sem, gs, cInts_len, hsl1, d4]; (first | refine hK1 _ ?_ | refine andk (hK1 _ ?_)); clear hK1 K1) | (refine u_nil ?_; refine hK _ ?_; clear hK K)))
          (refine aw_cnd ?_; intro X Y hX hY; simp only [go_sem])
          refine hX ?_
          clear hX hY X Y
          (repeat (first | (refine aw_seq ?_; intro K hK) | refine aw_block ?_ | refine aw_region ?_ | (refine lst_x rfl rfl ?_; intro K1 hK1; simp only [go_sem]; (first | refine hK1 _ ?_ | refine andk (hK1 _ ?_)); clear hK1 K1) | ((first | refine lst_nil ?_ | refine aw_skip ?_); refine hK _ ?_; clear hK K)))
          (refine aw_regionU 11 [(0, 0), (1, 0), (2, 0), (3, 1), (4, 0), (5, 1), (6, 0), (7, 0), (8, 0), (9, 1), (10, 0), (11, 2)] (by kernel_rfl) (by kernel_rfl) (by intro c st h; simp [ThenA, InBl, Ret] at h) ?_)
          (repeat (first | ((first | refine u_0x rfl rfl rfl ?_ | refine u_1x rfl rfl rfl ?_); intro K1 hK1; simp only [go_sem, cInts_len, hsl1, cInts_set, ST.put, setC, A0.cells]; (first | refine hK1 _ ?_ | refine andk (hK1 _ ?_)); clear hK1 K1) | (refine u_2x rfl rfl rfl rfl ?_; intro K1 hK1; simp only [go_sem, cInts_len, hsl1, cInts_set, ST.put, setC, A0.cells]; (first | refine hK1 _ ?_ | refine andk (hK1 _ ?_)); clear hK1 K1) | (refine u_nil ?_; refine hK _ ?_; clear hK K)))
          (repeat (first | (refine aw_seq ?_; intro K hK) | refine aw_block ?_ | refine aw_region ?_ | (refine lst_x rfl rfl ?_; intro K1 hK1; simp only [go_sem, cInts_len, List.length_map, op1, Nat.le_refl]; (first | refine hK1 _ ?_ | refine andk (hK1 _ ?_)); clear hK1 K1) | ((first | refine lst_nil ?_ | refine aw_skip ?_); refine hK _ ?_; clear hK K)))
          ((try refine lst_nil ?_); (try refine aw_skip ?_); try simp only [ThenA])
          obtain ⟨l, hl⟩ := hl1
          refine hK _ (k + 1, sn1.set tn (rd + 1), out1 ++ [tn]) ⟨by simp only; omega, hW2, ⟨l ++ [tn], by simp only; rw [hl, List.append_assoc]⟩, hz2, fun a ha => ?_⟩ (by simp only; omega) ?_
          ·simp only at ha
           rw [hTk] at ha
           rcases List.mem_append.1 ha with h | h
           ·exact List.mem_append_left _ (hT1 a h)
           ·simp at h; subst h; simp
          ·refine Le.trans (le_pick [0, 1, 5] rfl rfl) ?_
           (try simp only [List.set_nil, List.take_nil, List.take_zero, List.map_append, go_sem])
           (try simp only [cInts_ren])
           simp only [List.length_append, List.length_cons, List.length_nil]
           (refine le_tm ?_; simp only [LeTm, go_sem]; try simp)
      ·have d2 : decide ((k : Int) < (row.length : Int)) = false := by simpa using hlt2
       (repeat (first | (refine aw_seq ?_; intro K hK) | refine aw_block ?_ | refine aw_region ?_ | (refine lst_x rfl rfl ?_; intro K1 hK1; simp only [go_sem, d2]; (first | refine hK1 _ ?_ | refine andk (hK1 _ ?_)); clear hK1 K1) | ((first | refine lst_nil ?_ | refine aw_skip ?_); refine hK _ ?_; clear hK K)))
       (refine aw_cnd ?_; intro X Y hX hY; simp only [go_sem])
       refine hY ?_
       clear hX hY X Y
       (refine aw_exit ?_; simp only [ThenA, InBl, reduceIte, Nat.reduceEqDiff]; (first | refine hK _ ?_ | (clear hK K; refine hK _ ?_) | (clear hK K; clear hK K; refine hK _ ?_) | (clear hK K; clear hK K; clear hK K; refine hK _ ?_) | (clear hK K; clear hK K; clear hK K; clear hK K; refine hK _ ?_) | (clear hK K; clear hK K; clear hK K; clear hK K; clear hK K; refine hK _ ?_)); clear hK K)
       (repeat (first | (refine aw_seq ?_; intro K hK) | refine aw_block ?_ | refine aw_region ?_ | (refine lst_x rfl rfl ?_; intro K1 hK1; simp only [go_sem]; (first | refine hK1 _ ?_ | refine andk (hK1 _ ?_)); clear hK1 K1) | ((first | refine lst_nil ?_ | refine aw_skip ?_); refine hK _ ?_; clear hK K)))
       ((try refine lst_nil ?_); (try refine aw_skip ?_); try simp only [ThenA])
       refine hKo _ (i + 1, sn1, out1) (fin sn1 out1 hW1 hl1 (fun a ha => ?_)) (by simp only; omega) ?_
       ·refine hT1 a ?_
        rw [List.take_of_length_le (by omega)]
        unfold tauOf at ha
        split at ha
        ·exact (List.takeWhile_sublist _).subset ha
        ·exact ha
       ·(refine le_tm ?_; simp only [LeTm, go_sem]; try simp)
    ·have d1 : decide ((i : Int) < (out.length : Int)) = false := by simpa using hlt
     obtain ⟨p, hp⟩ : ∃ p : Nat → Bool, p = fun u => decide (u ∈ out) := ⟨_, rfl⟩
     have hdone := hW.done hT (fun u hu w hw => by
      obtain ⟨j, hj⟩ := List.getElem?_of_mem hu
      exact hC j u (by have := (List.getElem?_eq_some_iff.1 hj).1; omega) hj w hw)
     have hlm : (out.map Int.ofNat).length = out.length := by simp
     (repeat (first | (refine aw_seq ?_; intro K hK) | refine aw_block ?_ | refine aw_region ?_ | (refine lst_x rfl rfl ?_; intro K1 hK1; simp only [go_sem, d1, cInts_len, List.length_map]; (first | refine hK1 _ ?_ | refine andk (hK1 _ ?_)); clear hK1 K1) | ((first | refine lst_nil ?_ | refine aw_skip ?_); refine hK _ ?_; clear hK K)))
     (refine aw_cnd ?_; intro X Y hX hY; simp only [go_sem])
     refine hY ?_
     clear hX hY X Y
     (refine aw_exit ?_; simp only [ThenA, InBl, reduceIte, Nat.reduceEqDiff]; (first | refine hK _ ?_ | (clear hK K; refine hK _ ?_) | (clear hK K; clear hK K; refine hK _ ?_) | (clear hK K; clear hK K; clear hK K; refine hK _ ?_) | (clear hK K; clear hK K; clear hK K; clear hK K; refine hK _ ?_) | (clear hK K; clear hK K; clear hK K; clear hK K; clear hK K; refine hK _ ?_)); clear hK K)
     rw [← hlm]
     (repeat (first | (refine aw_seq ?_; intro K hK) | refine aw_block ?_ | refine aw_region ?_ | (refine lst_x rfl rfl ?_; intro K1 hK1; simp only [go_sem]; (first | refine hK1 _ ?_ | refine andk (hK1 _ ?_)); clear hK1 K1) | ((first | refine lst_nil ?_ | refine aw_skip ?_); refine hK _ ?_; clear hK K)))
     (refine lst_cons rfl ?_; intro K1 hK1; refine stp_callσ (ids := []) [2] (sortI_fc (out.map Int.ofNat) (by rw [hlm]; omega)) rfl rfl (by simp only [go_sem]) (by first | assumption | kernel_rfl) rfl rfl (by (simp only [List.map_append, List.append_nil, go_sem]) <;> rfl) (by (simp only [pkh, cInts_ren, go_sem]) <;> rfl) ?_ ?_)
     ·rintro _ _ ⟨rfl, L', _, _, rfl⟩; rfl
     rintro _ _ ⟨rfl, L', hperm, hsort, rfl⟩
     (simp only [aInts, aSets, cInts_up, List.append_nil, List.nil_append, List.length_map, go_sem]; refine hK1 _ ?_; clear hK1 K1)
     have hLo : L' = (ordN R.length p).map Int.ofNat := by
      obtain ⟨m, hm⟩ : ∃ m : List Nat, L' = m.map Int.ofNat := by
       refine ⟨L'.map Int.toNat, ?_⟩
       rw [List.map_map]
       refine (List.map_id L').symm.trans (List.map_congr_left fun x hx => ?_)
       have h := (hperm.mem_iff).1 hx
       obtain ⟨y, _, rfl⟩ := List.mem_map.1 h
       rfl
      subst hm
      have hp2 : m.Perm out := by
       have := hperm.map Int.toNat
       simpa [List.map_map, Function.comp_def] using this
      have hs2 : m.Pairwise (· ≤ ·) := by
       rw [List.pairwise_map] at hsort
       exact hsort.imp fun h => by simpa using h
      rw [sort_ord (p := p) hp2 hs2 hW.nd (fun u => ⟨fun h => ⟨hW.lt u h, by rw [hp]; simpa using h⟩, fun h => by have := h.2; rw [hp] at this; simpa using this⟩)]
     have hll : out.length = (ordN R.length p).length := by have h := hperm.length_eq; rw [hLo] at h; simpa using h.symm
     rw [hll, hLo]
     (repeat (first | (refine aw_seq ?_; intro K hK) | refine aw_block ?_ | refine aw_region ?_ | (refine lst_x rfl rfl ?_; intro K1 hK1; simp only [go_sem]; (first | refine hK1 _ ?_ | refine andk (hK1 _ ?_)); clear hK1 K1) | ((first | refine lst_nil ?_ | refine aw_skip ?_); refine hK _ ?_; clear hK K)))
     ((try refine aw_ret ?_); (try simp only [ThenA, InBl]); refine ret_le (le_pick [0, 1, 2] rfl rfl) ?_; (try simp only [List.set_nil, List.take_nil, List.take_zero, List.map_append, go_sem]); ((try refine aw_ret ?_); (try refine lst_nil ?_); (try simp only [ThenA, InBl]); refine ret_mk (by first | exact .inl rfl | exact .inr rfl) rfl ?_; simp only [rtn, resA, resL, resV, Try.results17, go_sem, true_and, and_true, cInts_ren, wkO]))
     exact ⟨sn, hsl, hW.bd, p, fun u hu => by rw [← hdone u, hp]; simp, rfl, rfl⟩
end Go.Proofs.Ythlckclbjknldaa
