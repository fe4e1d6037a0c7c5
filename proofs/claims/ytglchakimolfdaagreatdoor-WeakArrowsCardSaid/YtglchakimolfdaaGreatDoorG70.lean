/- ref23.OnCycle, ref23.Divergent. flow.Walker.Reach as a plain search: marks and queue. slices.Sort at numbers, from the shelf's contract. flow: New, Stable, Walker.Reach. flow.Walker.Targets. Add, by the machine. delay.Arrows, ref25.DelayArrows, law27.arrows. ref23.After, ref25.WeakArrows, Events. graph.state, graph.states, flow.Walker.After, graph.After, weak.Arrows, ref25.WeakArrows at any arguments. -/
import Derived.Test.YtglchakimolfdaaGreatDoorG67
import Derived.Test.YtglchakimolfdaaGreatDoorG45
import Derived.Test.YtglchakimolfdaaGreatDoorTj1
import Derived.Test.YtglchakimolfdaaGreatDoorMD
import Derived.Shelf.SlSortCmp.Kit1
import Derived.Test.YtglchakimolfdaaGreatDoorMF
import Derived.Test.YtglchakimolfdaaGreatDoorShlfS
import Derived.Shelf.Sort.Plain
import Derived.Shelf.Slices.In.SortNone
import Derived.Test.YtglchakimolfdaaGreatDoorZk
import Derived.Test.YtglchakimolfdaaGreatDoorG42
import Derived.Test.YtglchakimolfdaaGreatDoorMG
namespace Go.Proofs.YtglchakimolfdaaGreatDoor
set_option linter.unusedVariables false
set_option linter.unusedSimpArgs false
open Go.RowKit
set_option maxRecDepth 100000
attribute [local go_sem] List.set_cons_zero List.set_cons_succ List.map_cons List.map_nil List.take_succ_cons List.take_zero List.drop_zero List.drop_succ_cons C.pl C.one List.all_cons List.all_nil Bool.and_true Nat.mul_one Int.toNat_natCast

def rL (n : Nat) (B : List Bool) : List Int := ((List.range n).filter (seenB B)).map Int.ofNat
theorem rL_len (n : Nat) (B : List Bool) : (rL n B).length ≤ n := by
 unfold rL
 rw [List.length_map]
 have := List.length_filter_le (seenB B) (List.range n)
 rwa [List.length_range] at this
def ReB (R : List (List Ar)) (F : List Nat) (B : List Bool) : Prop := B.length = R.length ∧ ∀ u, seenB B u = true ↔ ∃ v ∈ F, Rc (Adj true R) v u
theorem reT_fc (R : List (List Ar)) (F : List Nat) (hv : valB R = true) (hF : ∀ v ∈ F, v < R.length) (hFl : F.length ≤ 1000000) (hn : R.length ≤ 1000000) (hr : ∀ r ∈ R, r.length ≤ 1000000) : FC Tryz.prog 86 [aLts R, .a (.c (.t 1 (tInts (F.map Int.ofNat)))), .b true] [] (fun r o => ∃ B, ReB R F B ∧ o = [] ∧ r = .a (.c (.t 1 (tInts (rL R.length B))))) := by
 have h := (reachF_fc R F true hv hF hFl hn hr).mono (R' := fun r o => ∃ B, ReB R F B ∧ r = .a (.c (.s 0 (rL R.length B).length)) ∧ o = [.r ⟨3, 1, true, cInts (rL R.length B)⟩]) fun r o ⟨B, h1, h2, L, hL, h3, h4⟩ => ⟨B, ⟨h1, fun u => by rw [h2 u, adj_eq true hv]⟩, by rw [h4, hL]; rfl, by rw [h3, hL]; rfl⟩
 exact h.frzP (fun B => fz_c _) (by omega) (fun B _ => by rw [tInts_len, Nat.mul_one])
structure Fw (E : Nat → List Nat) (n : Nat) (F : List Nat) (rd : Int) (seen : List Int) (out : List Nat) : Prop where
 len : seen.length = n
 st : ∀ u, u < n → (seen.getD u 0 = rd ↔ u ∈ out)
 nd : out.Nodup
 lt : ∀ u ∈ out, u < n
 snd : ∀ u ∈ out, ∃ v ∈ F, Rc E v u
 bd : ∀ x ∈ seen, x ≤ rd
variable {E : Nat → List Nat} {n : Nat} {F : List Nat} {rd : Int} {seen : List Int} {out : List Nat}
theorem Fw.start (h : seen.length = n) (hb : ∀ x ∈ seen, x < rd) : Fw E n F rd seen [] :=
 ⟨h, fun u hu => ⟨fun e => by
  rw [List.getD_eq_getElem?_getD, List.getElem?_eq_getElem (by omega), Option.getD_some] at e
  have := hb _ (List.getElem_mem (show u < seen.length by omega)); omega, fun h => by simp at h⟩, List.nodup_nil, fun u h => by simp at h, fun u h => by simp at h, fun x h => by have := hb x h; omega⟩
theorem Fw.push (h : Fw E n F rd seen out) {u : Nat} (hu : u < n) (hn : seen.getD u 0 ≠ rd) (hs : ∃ v ∈ F, Rc E v u) : Fw E n F rd (seen.set u rd) (out ++ [u]) := by
 have hno : u ∉ out := fun hm => hn ((h.st u hu).2 hm)
 refine ⟨by rw [List.length_set]; exact h.len, fun w hw => ?_, ?_, fun w hw => ?_, fun w hw => ?_, fun x hx => ?_⟩
 ·rw [List.getD_eq_getElem?_getD, List.getElem?_set]
  by_cases e : u = w
  ·subst e
   rw [if_pos rfl, if_pos (by rw [h.len]; exact hw)]
   simp
  ·rw [if_neg e, ← List.getD_eq_getElem?_getD, h.st w hw]
   simp [Ne.symm e]
 ·exact List.nodup_append.2 ⟨h.nd, by simp, fun a ha b hb => by simp at hb; subst hb; exact fun e => hno (e ▸ ha)⟩
 ·rcases List.mem_append.1 hw with h1 | h1
  ·exact h.lt w h1
  ·simp at h1; omega
 ·rcases List.mem_append.1 hw with h1 | h1
  ·exact h.snd w h1
  ·simp at h1; subst h1; exact hs
 ·rcases List.mem_or_eq_of_mem_set hx with h1 | h1
  ·exact h.bd x h1
  ·omega
theorem Fw.mem (h : Fw E n F rd seen out) {u : Nat} (hu : u < n) (hs : seen.getD u 0 = rd) : u ∈ out := (h.st u hu).1 hs
theorem nodup_le : ∀ (n : Nat) (l : List Nat), l.Nodup → (∀ u ∈ l, u < n) → l.length ≤ n := by
 intro n
 induction n with
 | zero => intro l _ h; cases l with
  | nil => simp
  | cons a r => have := h a (by simp); omega
 | succ n ih =>
  intro l hn hl
  have h1 : (l.erase n).length ≤ n := ih _ (hn.erase n) fun u hu => by
   have h2 := (List.Nodup.mem_erase_iff hn).1 hu
   have := hl u h2.2
   omega
  have := List.length_erase (a := n) (l := l)
  split at this <;> omega
theorem Fw.le (h : Fw E n F rd seen out) : out.length ≤ n := nodup_le n out h.nd h.lt
theorem Fw.done (h : Fw E n F rd seen out) (hF : ∀ v ∈ F, v ∈ out) (hc : ∀ u ∈ out, ∀ w ∈ E u, w ∈ out) (u : Nat) : u ∈ out ↔ ∃ v ∈ F, Rc E v u := by
 refine ⟨h.snd u, fun ⟨v, hv, hr⟩ => ?_⟩
 induction hr with
 | refl => exact hF v hv
 | tail _ he ih => exact hc _ (ih ⟨v, hv, ‹_›⟩) _ he
def ordN (n : Nat) (p : Nat → Bool) : List Nat := (List.range n).filter p
theorem ordN_sorted (n : Nat) (p : Nat → Bool) : (ordN n p).Pairwise (· < ·) := List.Pairwise.filter _ List.pairwise_lt_range
theorem mem_ordN {n : Nat} {p : Nat → Bool} {u : Nat} : u ∈ ordN n p ↔ u < n ∧ p u = true := by simp [ordN]
theorem lt_ext : ∀ {l m : List Nat}, l.Pairwise (· < ·) → m.Pairwise (· < ·) → (∀ a, a ∈ l ↔ a ∈ m) → l = m
 | [], [], _, _, _ => rfl
 | [], b :: m, _, _, h => by have := (h b).2 (by simp); simp at this
 | a :: l, [], _, _, h => by have := (h a).1 (by simp); simp at this
 | a :: l, b :: m, hl, hm, h => by
  have hl' := List.pairwise_cons.1 hl
  have hm' := List.pairwise_cons.1 hm
  have hab : a = b := by
   rcases List.mem_cons.1 ((h a).1 (by simp)) with e | e
   ·exact e
   ·rcases List.mem_cons.1 ((h b).2 (by simp)) with e' | e'
    ·exact e'.symm
    ·have h1 := hm'.1 a e
     have h2 := hl'.1 b e'
     omega
  subst hab
  congr 1
  refine lt_ext hl'.2 hm'.2 fun c => ⟨fun hc => ?_, fun hc => ?_⟩
  ·rcases List.mem_cons.1 ((h c).1 (List.mem_cons_of_mem _ hc)) with e | e
   ·subst e; have := hl'.1 c hc; omega
   ·exact e
  ·rcases List.mem_cons.1 ((h c).2 (List.mem_cons_of_mem _ hc)) with e | e
   ·subst e; have := hm'.1 c hc; omega
   ·exact e
theorem sort_ord {l m : List Nat} {p : Nat → Bool} (hp : m.Perm l) (hs : m.Pairwise (· ≤ ·)) (hn : l.Nodup) (hl : ∀ u, u ∈ l ↔ u < n ∧ p u = true) : m = ordN n p := by
 have hm : m.Nodup := hp.symm.nodup hn
 refine lt_ext ?_ (ordN_sorted n p) fun a => by rw [hp.mem_iff, hl, mem_ordN]
 refine List.Pairwise.imp (fun h => by omega) (List.Pairwise.and hs hm)
theorem takeW_at {r : List (Int × Int)} {k : Nat} {a : Int × Int} (h0 : ∀ j b, j < k + 1 → r[j]? = some b → b.1 = 0) (hk : r[k]? = some a) : a ∈ r.takeWhile fun a => a.1 == 0 := by
 induction r generalizing k with
 | nil => simp at hk
 | cons b r ih =>
  have hb := h0 0 b (by omega) rfl
  rw [List.takeWhile_cons, if_pos (by simp [hb])]
  cases k with
  | zero => simp at hk; subst hk; simp
  | succ k => exact List.mem_cons_of_mem _ (ih (k := k) (fun j c hj hc => h0 (j + 1) c (by omega) (by simpa using hc)) (by simpa using hk))
theorem tauOf_at {r : List (Int × Int)} {k : Nat} {t : Bool} {a : Int × Int} (h0 : t = true → ∀ j b, j < k + 1 → r[j]? = some b → b.1 = 0) (hk : r[k]? = some a) : a ∈ tauOf t r := by
 unfold tauOf
 split
 ·rename_i ht
  exact takeW_at (h0 ht) hk
 ·exact List.mem_of_getElem? hk
theorem tauOf_stop {r : List (Int × Int)} {k : Nat} (h0 : ∀ j a, j < k → r[j]? = some a → a.1 = 0) (h1 : ∀ a, r[k]? = some a → a.1 ≠ 0) : tauOf true r = r.take k := by
 unfold tauOf
 rw [if_pos rfl]
 induction r generalizing k with
 | nil => simp
 | cons a r ih =>
  cases k with
  | zero =>
   have := h1 a rfl
   simp [List.takeWhile_cons, this]
  | succ k =>
   have := h0 0 a (by omega) rfl
   rw [List.takeWhile_cons, if_pos (by simp [this]), List.take_succ_cons, ih (k := k) (fun j b hj hb => h0 (j + 1) b (by omega) (by simpa using hb)) (fun b hb => h1 b (by simpa using hb))]
end Go.Proofs.YtglchakimolfdaaGreatDoor
namespace Go.Proofs.YtglchakimolfdaaGreatDoor
set_option linter.unusedVariables false
set_option linter.unusedSimpArgs false
open Go.RowKit Go.Shelf Go.Sort
set_option maxRecDepth 100000

section
variable {α : Type} [Inhabited α] {enc : α → Value} {w : World} {blk off m : Nat} {dk : Array α} {os : Array Obj}
theorem sx_size : w.heap.size ≤ (sortWorld enc w blk off m dk os).heap.size := by
 simp [sortWorld, grow, putRow, mapBlock, Sort.ahead]
theorem sx_block {k : Nat} (hk : k < w.heap.size) (hne : k ≠ blk) : (sortWorld enc w blk off m dk os).heap[k]? = w.heap[k]? := by
 simp only [sortWorld, grow, putRow, mapBlock, Sort.ahead]
 rw [Array.getElem?_append_left (by simpa using hk), Array.getElem?_modify, if_neg (Ne.symm hne)]
theorem sx_self {arr : Array Value} {e : TypeId} {fz : Nat × Nat} (h : w.heap[blk]? = some (.cells arr e fz)) : (sortWorld enc w blk off m dk os).heap[blk]? = some (.cells (putCells enc off dk arr) e fz) := by
 have hk := (Array.getElem?_eq_some_iff.1 h).1
 simp only [sortWorld, grow, putRow, mapBlock, Sort.ahead]
 rw [Array.getElem?_append_left (by simpa using hk), Array.getElem?_modify, if_pos rfl, h]
 rfl
theorem sx_fp {M : Nat → Prop} (hM : M blk) : Fp M w (sortWorld enc w blk off m dk os) :=
 ⟨rfl, rfl, rfl, sx_size, fun k hk hm => sx_block hk (fun e => hm (e ▸ hM)), by simp [sortWorld, grow, putRow, mapBlock, Sort.ahead]⟩
end
theorem ofTr_nx {t : Tr} {k : Nat × Nat} {cs : List Tr} : C.ofTr t ≠ .o k cs := by cases t <;> simp [C.ofTr]
theorem lvx {g : Gh} {α0 : Type} {tr : α0 → Tr} {e : TypeId} {L : List α0} {ℓ : Loc} : Lv [.r ⟨e, 1, true, L.map fun x => C.ofTr (tr x)⟩] g ℓ ↔ ℓ = .ob 0 ∧ g.κ 0 ≠ 0 := by
 cases ℓ with
 | ob id =>
  constructor
  ·rintro (⟨r, h1, h2⟩ | ⟨kv, h1⟩)
   ·cases id with
    | zero => exact ⟨rfl, h2⟩
    | succ i => simp at h1
   ·cases id with
    | zero => simp at h1
    | succ i => simp at h1
  ·rintro ⟨h1, h2⟩
   cases h1
   exact .inl ⟨_, rfl, h2⟩
 | cl id j =>
  constructor
  ·rintro ⟨r, k, cs, h1, h2, h3⟩
   cases id with
   | zero =>
    simp at h1; subst h1
    rw [List.getElem?_map, Option.map_eq_some_iff] at h2
    obtain ⟨x, _, h2⟩ := h2
    exact absurd h2 ofTr_nx
   | succ i => simp at h1
  ·rintro ⟨h1, h2⟩; cases h1
def trI (x : Int) : Tr := .v (.int .i64 x)
theorem sortI_fc (L : List Int) (hsz : L.length ≤ 100000000) : FC Tryz.prog 84 [.a (.c (.s 0 L.length))] [.r ⟨3, 1, true, cInts L⟩] (fun r o => r = .u ∧ ∃ L' : List Int, L'.Perm L ∧ L'.Pairwise (fun a b => a ≤ b) ∧ o = [.r ⟨3, 1, true, cInts L'⟩]) := by
 intro g w vals hr hargs
 obtain ⟨hlen, hargs⟩ := hargs
 obtain ⟨v1, e1, b1, b2, A, rfl, b4, b5⟩ := hargs 0 _ rfl
 have hvals : vals = [.slice A L.length (g.κ 0)] := by
  match vals, hlen with
  | [a], _ => simp at e1; simp [e1]
 subst hvals
 have lvI : ∀ {L : List Int} {ℓ : Loc}, Lv [.r ⟨3, 1, true, cInts L⟩] g ℓ ↔ ℓ = .ob 0 ∧ g.κ 0 ≠ 0 := fun {L ℓ} => lvx (tr := trI) (L := L)
 rcases hr.row 0 _ rfl with ⟨h0, hnil⟩ | ⟨h0, hne, arr, ha, hle, hs, hmx, hcells⟩
 ·have hL0 : L = [] := by
   have h : cInts L = [] := hnil
   simpa [cInts] using h
  subst hL0
  refine (Any.slices_Sort_int_none Tryz.sortInts A (g.κ 0) w).mono ?_
  rintro e' w' ⟨rfl, rfl⟩
  exact ⟨.tuple #[], .u, _, g, rfl, ⟨rfl, [], List.Perm.refl _, List.Pairwise.nil, rfl⟩, hr, ⟨Nat.le_refl _, Ext.refl _ _⟩, fun ℓ hl => .inl ⟨ℓ, hl, rfl⟩, trivial, Fp.refl _ _⟩
 ·rw [b4 h0] at *
  have hblk : g.γ (.ob 0) < w.heap.size := (Array.getElem?_eq_some_iff.1 ha).1
  have hOw : Ow [.r ⟨3, 1, true, cInts L⟩] g (g.γ (.ob 0)) := .inr ⟨.ob 0, lvI.2 ⟨rfl, h0⟩, rfl⟩
  have hle' : L.length ≤ arr.size := by simpa [cInts_len] using hle
  have hget : ∀ j (hj : j < L.length), arr[j]? = some (.int .i64 L[j]) := by
   intro j hj
   obtain ⟨u, u1, u2⟩ := hcells j (.v (.int .i64 L[j])) (cInts_get (List.getElem?_eq_getElem hj))
   rw [u1, show u = .int .i64 L[j] from u2]
  have hH : Holds (Value.int .i64) w (g.γ (.ob 0)) 0 L.toArray := by
   intro j hj
   simp only [List.size_toArray] at hj
   constructor
   ·rw [Nat.zero_add, cell_of_row w _ j arr _ (0, 0) ha, hget j hj, getElem!_pos _ j (by simpa using hj)]
    simp
   ·simp [World.frozen?, ha]
  refine (Any.slices_Sort_int Tryz.sortInts (g.γ (.ob 0)) 0 (g.κ 0) L w hH hblk (by omega)).mono ?_
  rintro e' w' ⟨rfl, m, os, rfl⟩
  obtain ⟨L', hL'⟩ : ∃ L', L' = L.mergeSort fun x y => decide (x ≤ y) := ⟨_, rfl⟩
  have hperm : L'.Perm L := by rw [hL']; exact List.mergeSort_perm _ _
  have hsort : L'.Pairwise (fun a b => a ≤ b) := by
   rw [hL']
   have := List.pairwise_mergeSort (le := fun x y : Int => decide (x ≤ y)) (fun a b c h1 h2 => by simp at *; omega) (fun a b => by simp; omega) L
   exact this.imp fun h => by simpa using h
  rw [← hL']
  have hll := hperm.length_eq
  show FPost _ _ _ _ _ (sortWorld (Value.int .i64) w (g.γ (.ob 0)) 0 m L'.toArray os)
  refine ⟨.tuple #[], .u, _, g, rfl, ⟨rfl, L', hperm, hsort, rfl⟩, ?_, ⟨Nat.le_refl _, Ext.refl _ _⟩, fun ℓ hl => .inl ⟨ℓ, lvI.2 (lvI.1 hl), rfl⟩, trivial, sx_fp ⟨.ob 0, lvI.2 ⟨rfl, h0⟩, rfl⟩⟩
  refine ⟨fun b hb => Nat.lt_of_lt_of_le (hr.ml b hb) sx_size, fun ℓ hl => hr.md ℓ (lvI.2 (lvI.1 hl)), fun ℓ ℓ' hl hl' => hr.inj ℓ ℓ' (lvI.2 (lvI.1 hl)) (lvI.2 (lvI.1 hl')), fun id r hid => ?_, fun id r hid => ?_, hr.gl.keep sx_size (fun k hk hn => sx_block hk (fun e => hn (e ▸ hOw))) (fun k _ hk => hk.imp (fun h => h) (fun ⟨ℓ, hl, e⟩ => ⟨ℓ, lvI.2 (lvI.1 hl), e⟩))⟩
  ·cases id with
   | succ i => simp at hid
   | zero =>
    simp at hid
    subst hid
    refine .inr ⟨h0, fun _ hn => ?_, _, sx_self ha, ?_, ?_, hmx, fun j c hj => ?_⟩
    ·have h1 : L' = [] := by simpa [cInts] using hn
     rw [h1] at hll
     have h2 : L = [] := List.length_eq_zero_iff.1 hll.symm
     exact hne rfl (by simp [h2, cInts])
    ·simp only [cInts_len, putCells, Array.size_mapIdx]; omega
    ·simpa [putCells] using hs
    ·have hjl : j < L'.length := by have := (List.getElem?_eq_some_iff.1 hj).1; rw [cInts_len] at this; exact this
     have hc : c = .v (.int .i64 L'[j]) := by
      rw [cInts_get (List.getElem?_eq_getElem hjl)] at hj
      exact (Option.some.inj hj).symm
     subst hc
     refine ⟨.int .i64 L'[j], ?_, rfl⟩
     unfold putCells
     rw [Array.getElem?_mapIdx, Array.getElem?_eq_getElem (by omega)]
     simp [hjl]
  ·cases id with
   | zero => simp at hid
   | succ i => simp at hid
open Go.RowKit
attribute [local go_sem] List.set_cons_zero List.set_cons_succ List.map_cons List.map_nil List.take_succ_cons List.take_zero List.drop_zero List.drop_succ_cons C.pl C.one List.all_cons List.all_nil Bool.and_true Nat.mul_one Int.toNat_natCast
def wkO (R : List (List Ar)) (id : Nat) (rd : Int) : Ob := .r ⟨143, 3, false, [.t 1 (tRows R), .s id R.length, .v (.int .i64 rd)]⟩
theorem fnew_fc (R : List (List Ar)) (hn : R.length ≤ 1000000) : FC Tryz.prog 95 [aLts R] [] (fun r o => o = [wkO R 1 0, .r ⟨3, 1, true, cInts (List.replicate R.length 0)⟩] ∧ r = .a (.c (.p 0 0))) := by
 refine fc_intro Tryz.func95 rfl (by rw [Tryz.ntmps95]; simp) ?_
 rw [Tryz.ntmps95]
 simp only [enum, aLts]
 (refine wk0 ?_;(repeat clear hK K);repeat refine kq fun K hK=>?_)
 (refine aw_regionZ [] (.m 1 0 0 (.m 0 1 6 (.m 2 1 4 (.m 3 0 0 (.a 4 (.m 5 0 0 (.a 6 (.a 7 .e)))))))) (by kernel_rfl) (by kernel_rfl) (by intro c st h; simp [ThenA, InBl, Ret] at h) ?_)
 (refine zk1 @tRows_len ?_; repeat clear hK K)
 (refine z_2 rfl rfl ?_; intro K1 hK1; refine stpF_a rfl ?_; simp only [go_sem, tRows_len]; (first | refine hK1 _ ?_ | refine andk (hK1 _ ?_)); clear hK1 K1)
 (refine zk0 ?_; repeat clear hK K)
 (refine z_2 rfl rfl ?_; intro K1 hK1; refine stpF_a rfl ?_; simp only [go_sem]; (first | refine hK1 _ ?_ | refine andk (hK1 _ ?_)); clear hK1 K1)
 (refine zk0 ?_; repeat clear hK K)
 (refine z_3 rfl rfl rfl rfl ?_; intro K1 hK1; refine stp_ev rfl ?_; simp only [go_sem]; (first | refine hK1 _ ?_ | refine andk (hK1 _ ?_)); clear hK1 K1)
 refine z_nil ⟨by simp, by simp, ?_⟩
 (try simp only [ThenA, InBl])
 refine hK _ ?_
 clear hK K
 have e0 : List.replicate R.length (C.v (.int .i64 0)) = cInts (List.replicate R.length 0) := by simp [cInts]
 rw [e0]
 (refine wk0 ?_;(repeat clear hK K);repeat refine kq fun K hK=>?_)
 ((try refine aw_ret ?_); (try simp only [ThenA, InBl]); refine ret_le (le_pick [2, 1] rfl rfl) ?_; (try simp only [List.set_nil, List.take_nil, List.take_zero, List.map_append, go_sem]); ((try refine aw_ret ?_); (try refine lst_nil ?_); (try simp only [ThenA, InBl]); refine ret_mk (by first | exact .inl rfl | exact .inr rfl) rfl ?_; simp only [rtn, resA, resL, resV, Tryz.results95, go_sem, true_and, and_true, cInts_ren, wkO]))
set_option maxHeartbeats 8000000 in
theorem wreach_fc (R : List (List Ar)) (t : Bool) (F : List Nat) (hlo : looB R = true) (hn : R.length ≤ 1000000) (hr : ∀ r ∈ R, r.length ≤ 1000000) (hF : ∀ v ∈ F, v < R.length) (hFl : F.length ≤ 1000000) (seen : List Int) (rd : Int) (hs : seen.length = R.length) (hb : ∀ x ∈ seen, x ≤ rd) (h0 : 0 ≤ rd) (h1 : rd ≤ 1000000000) :
  FC Tryz.prog 96 [.a (.c (.p 0 0)), .a (.c (.t 1 (tInts (F.map Int.ofNat)))), .b t] [wkO R 1 rd, .r ⟨3, 1, true, cInts seen⟩] (fun r o => ∃ seen' : List Int, seen'.length = R.length ∧ (∀ x ∈ seen', x ≤ rd + 1) ∧ ∃ p : Nat → Bool, (∀ u, u < R.length → (p u = true ↔ ∃ v ∈ F, Rc (Adj t R) v u)) ∧ o = [wkO R 1 (rd + 1), .r ⟨3, 1, true, cInts seen'⟩, .r ⟨3, 1, true, cInts ((ordN R.length p).map Int.ofNat)⟩] ∧ r = .a (.c (.s 2 (ordN R.length p).length))) := by
 refine fc_intro Tryz.func96 rfl (by rw [Tryz.ntmps96]; simp) ?_
 rw [Tryz.ntmps96]
 simp only [enum, wkO]
 have hbd := (of_decide_eq_true hlo).2.2.2
 have hFl2 : (F.map Int.ofNat).length = F.length := by simp
 (refine wks1 (an @tInts_len @hFl2) ?_;(repeat clear hK K);repeat refine kq fun K hK=>?_)
 refine aw_le (le_nil 7 3 1 ?_) ?_
 ·simp only [go_sem]
 refine aw_loop (fun x : Nat × List Int × List Nat => { tm := [(0, .a (.c (.p 0 0))), (2, .b t), (7, .a (.c (.s 2 x.2.2.length))), (20, .a (.c (.t 1 (tInts (F.map Int.ofNat))))), (21, .i F.length), (22, .i x.1)], hp := [.r ⟨143, 3, false, [.t 1 (tRows R), .s 1 R.length, .v (.int .i64 (rd + 1))]⟩, .r ⟨3, 1, true, cInts x.2.1⟩, .r ⟨3, 1, true, cInts (x.2.2.map Int.ofNat)⟩], n := 114, pin := 2 }) (fun x => x.1 ≤ F.length ∧ Fw (Adj t R) R.length F (rd + 1) x.2.1 x.2.2 ∧ ∀ v ∈ F.take x.1, v ∈ x.2.2) (fun x => F.length - x.1) (0, seen, []) ?_ ?_ ?_
 ·exact ⟨by simp, Fw.start hs (fun x hx => by have := hb x hx; omega), by simp⟩
 ·exact lmz
 ·rintro ⟨k, sn, out⟩ ⟨hk, hW, hT⟩ K hK
  simp only at hk hW hT
  have hsl := hW.len
  have hol := hW.le
  by_cases hlt : k < F.length
  ·have d1 : decide ((k : Int) < (F.length : Int)) = true := by simpa using hlt
   have gF : (tInts (F.map Int.ofNat))[k]? = some (.v (.int .i64 (F[k] : Int))) := tInts_get (by rw [List.getElem?_map, List.getElem?_eq_getElem hlt]; rfl)
   have hul := hF _ (List.getElem_mem hlt)
   have hFk := List.getElem_mem hlt
   have hTk : F.take (k + 1) = F.take k ++ [F[k]] := List.take_succ_eq_append_getElem hlt
   generalize F[k] = u at *
   have gs : (cInts sn)[u]? = some (.v (.int .i64 sn[u])) := cInts_get (List.getElem?_eq_getElem (by omega))
   have gd : sn.getD u 0 = sn[u] := by rw [List.getD_eq_getElem?_getD, List.getElem?_eq_getElem (by omega)]; rfl
   (refine wk1 @d1 ?_;(repeat clear hK K);repeat refine kq fun K hK=>?_)
   refine cxz ?_
   by_cases hq : sn[u] = rd + 1
   ·have d2 : (sn[u] != rd + 1) = false := by rw [hq]; simp
    have hmem := hW.mem hul (by rw [gd, hq])
    (refine wk1 (an @gF (an @tInts_len @hFl2)) ?_;(repeat clear hK K);repeat refine kq fun K hK=>?_)
    (refine aw_regionU 11 [(0, 0), (1, 0), (2, 0), (3, 1), (4, 0), (5, 0), (6, 1), (7, 0), (8, 0), (9, 0), (10, 1), (11, 2)] (by kernel_rfl) (by kernel_rfl) (by intro c st h; simp [ThenA, InBl, Ret] at h) ?_)
    (refine uk1 (an @gs (an @cInts_len (an @hsl @d2))) ?_; repeat clear hK K)
    refine cyz ?_
    (refine wk0 ?_;(repeat clear hK K);repeat refine kq fun K hK=>?_)
    refine rnz ?_
    refine hK _ (k + 1, sn, out) ⟨by simp only; omega, hW, fun v hv => ?_⟩ (by simp only; omega) ?_
    ·simp only at hv
     rw [hTk] at hv
     rcases List.mem_append.1 hv with h | h
     ·exact hT v h
     ·simp at h; subst h; exact hmem
    ·exact lmz
   ·have d2 : (sn[u] != rd + 1) = true := by simpa using hq
    have hW2 := hW.push hul (by rw [gd]; exact hq) ⟨u, hFk, .refl _⟩
    have op1 := op_push out u []
    simp only [List.append_nil] at op1
    (refine wk1 (an @gF (an @tInts_len @hFl2)) ?_;(repeat clear hK K);repeat refine kq fun K hK=>?_)
    (refine aw_regionU 11 [(0, 0), (1, 0), (2, 0), (3, 1), (4, 0), (5, 0), (6, 1), (7, 0), (8, 0), (9, 0), (10, 1), (11, 2)] (by kernel_rfl) (by kernel_rfl) (by intro c st h; simp [ThenA, InBl, Ret] at h) ?_)
    (refine uk1 (an @gs (an @cInts_len (an @hsl @d2))) ?_; repeat clear hK K)
    refine cxz ?_
    (refine wk0 ?_;(repeat clear hK K);repeat refine kq fun K hK=>?_)
    (refine aw_regionU 10 [(0, 0), (1, 0), (2, 0), (3, 1), (4, 0), (5, 0), (6, 0), (7, 0), (8, 1), (9, 0), (10, 2)] (by kernel_rfl) (by kernel_rfl) (by intro c st h; simp [ThenA, InBl, Ret] at h) ?_)
    (refine uks1 (an @cInts_len (an @hsl @cInts_set)) ?_; repeat clear hK K)
    (refine wk1 (an @cInts_len (an @List.length_map.{0, 0} (an @op1 @Nat.le_refl))) ?_;(repeat clear hK K);repeat refine kq fun K hK=>?_)
    refine rnz ?_
    refine hK _ (k + 1, sn.set u (rd + 1), out ++ [u]) ⟨by simp only; omega, hW2, fun v hv => ?_⟩ (by simp only; omega) ?_
    ·simp only at hv
     rw [hTk] at hv
     rcases List.mem_append.1 hv with h | h
     ·exact List.mem_append_left _ (hT v h)
     ·simp at h; subst h; simp
    ·refine Le.trans (le_pick [0, 1, 4] rfl rfl) ?_
     (try simp only [List.set_nil, List.take_nil, List.take_zero, List.map_append, go_sem])
     (try simp only [cInts_ren])
     simp only [List.length_append, List.length_cons, List.length_nil]
     exact lmz
  ·have d1 : decide ((k : Int) < (F.length : Int)) = false := by simpa using hlt
   have hT2 : ∀ v ∈ F, v ∈ out := fun v hv => hT v (by rw [List.take_of_length_le (by omega)]; exact hv)
   clear hT
   (refine wk1 @d1 ?_;(repeat clear hK K);repeat refine kq fun K hK=>?_)
   refine cyz ?_
   (refine ekz ?_;repeat clear hK K)
   (refine wk0 ?_;(repeat clear hK K);repeat refine kq fun K hK=>?_)
   refine aw_loop (fun x : Nat × List Int × List Nat => { tm := [(0, .a (.c (.p 0 0))), (2, .b t), (7, .a (.c (.s 2 x.2.2.length))), (10, .i x.1)], hp := [.r ⟨143, 3, false, [.t 1 (tRows R), .s 1 R.length, .v (.int .i64 (rd + 1))]⟩, .r ⟨3, 1, true, cInts x.2.1⟩, .r ⟨3, 1, true, cInts (x.2.2.map Int.ofNat)⟩], n := 114, pin := 2 }) (fun x => x.1 ≤ x.2.2.length ∧ Fw (Adj t R) R.length F (rd + 1) x.2.1 x.2.2 ∧ (∀ v ∈ F, v ∈ x.2.2) ∧ ∀ (j u : Nat), j < x.1 → x.2.2[j]? = some u → ∀ w ∈ Adj t R u, w ∈ x.2.2) (fun x => R.length - x.1) (0, sn, out) ?_ ?_ ?_
   ·exact ⟨by simp, hW, hT2, by simp⟩
   ·exact lmz
   ·clear hW hT2 hsl hol hk hlt d1
    clear out sn
    rintro ⟨i, sn, out⟩ ⟨hi, hW, hT, hC⟩ K hK
    simp only at hi hW hT hC
    have hsl := hW.len
    have hol := hW.le
    by_cases hlt : i < out.length
    ·have d1 : decide ((i : Int) < (out.length : Int)) = true := by simpa using hlt
     have go : (cInts (out.map Int.ofNat))[i]? = some (.v (.int .i64 (out[i] : Int))) := cInts_get (by rw [List.getElem?_map, List.getElem?_eq_getElem hlt]; rfl)
     have hul := hW.lt _ (List.getElem_mem hlt)
     have hsu := hW.snd _ (List.getElem_mem hlt)
     have hoi : out[i]? = some out[i] := List.getElem?_eq_getElem hlt
     generalize out[i] = u at *
     have hgR := List.getElem?_eq_getElem hul
     have hrl := hr _ (List.getElem_mem hul)
     have hbr := hbd _ (List.getElem_mem hul)
     have hAu : Adj t R u = (tauOf t R[u]).map fun a => a.2.toNat := by
      unfold Adj; rw [List.getD_eq_getElem?_getD, hgR]; rfl
     generalize hrr : R[u] = row at *
     have hKo := hK
     (refine wk1 (an @d1 (an @cInts_len @List.length_map.{0, 0})) ?_;(repeat clear hK K);repeat refine kq fun K hK=>?_)
     refine cxz ?_
     (refine wk0 ?_;(repeat clear hK K);repeat refine kq fun K hK=>?_)
     (refine aw_regionU 11 [(0, 0), (1, 0), (2, 0), (3, 0), (4, 1), (5, 0), (6, 0), (7, 0), (8, 1), (9, 0), (10, 1), (12, 0), (11, 2)] (by kernel_rfl) (by kernel_rfl) (by intro c st h; simp [ThenA, InBl, Ret] at h) ?_)
     (refine uk1 (an @tRows_len (an (tRows_get hgR) (an @cInts_len (an @List.length_map.{0, 0} (an @go (an @tArcs_len @half2)))))) ?_; repeat clear hK K)
     (refine wk0 ?_;(repeat clear hK K);repeat refine kq fun K hK=>?_)
     refine aw_loop (fun x : Nat × List Int × List Nat => { tm := [(0, .a (.c (.p 0 0))), (2, .b t), (7, .a (.c (.s 2 x.2.2.length))), (10, .i i), (69, .a (.c (.t 2 (tArcs row)))), (70, .i row.length), (71, .i x.1)], hp := [.r ⟨143, 3, false, [.t 1 (tRows R), .s 1 R.length, .v (.int .i64 (rd + 1))]⟩, .r ⟨3, 1, true, cInts x.2.1⟩, .r ⟨3, 1, true, cInts (x.2.2.map Int.ofNat)⟩], n := 114, pin := 2 }) (fun x => x.1 ≤ row.length ∧ Fw (Adj t R) R.length F (rd + 1) x.2.1 x.2.2 ∧ (∃ l, x.2.2 = out ++ l) ∧ (t = true → ∀ j a, j < x.1 → row[j]? = some a → a.1 = 0) ∧ ∀ a ∈ row.take x.1, a.2.toNat ∈ x.2.2) (fun x => row.length - x.1) (0, sn, out) ?_ ?_ ?_
     ·exact ⟨by simp, hW, ⟨[], by simp⟩, by simp, by simp⟩
     ·exact lmz
     ·have fin : ∀ (sn1 : List Int) (out1 : List Nat), Fw (Adj t R) R.length F (rd + 1) sn1 out1 → (∃ l, out1 = out ++ l) → (∀ a ∈ tauOf t row, a.2.toNat ∈ out1) → (i + 1 ≤ out1.length ∧ Fw (Adj t R) R.length F (rd + 1) sn1 out1 ∧ (∀ v ∈ F, v ∈ out1) ∧ ∀ (j u : Nat), j < i + 1 → out1[j]? = some u → ∀ w ∈ Adj t R u, w ∈ out1) := by
       rintro sn1 out1 q1 ⟨l, rfl⟩ q3
       refine ⟨by simp; omega, q1, fun v hv => List.mem_append_left _ (hT v hv), fun j x hj hx w hw => ?_⟩
       rw [List.getElem?_append_left (by omega)] at hx
       by_cases e : j = i
       ·subst e
        rw [hoi] at hx; cases hx
        rw [hAu] at hw
        obtain ⟨a, ha, rfl⟩ := List.mem_map.1 hw
        exact q3 a ha
       ·exact List.mem_append_left _ (hC j x (by omega) hx w hw)
      rintro ⟨k, sn1, out1⟩ ⟨hk, hW1, hl1, hz, hT1⟩ K hK
      simp only at hk hW1 hl1 hz hT1
      have hsl1 := hW1.len
      have hol1 := hW1.le
      by_cases hlt2 : k < row.length
      ·have d2 : decide ((k : Int) < (row.length : Int)) = true := by simpa using hlt2
       have hat := tArcs_at hlt2
       have hb2 := hbr _ (List.getElem_mem hlt2)
       have hrk : row[k]? = some row[k] := List.getElem?_eq_getElem hlt2
       have hTk : row.take (k + 1) = row.take k ++ [row[k]] := List.take_succ_eq_append_getElem hlt2
       generalize row[k] = a at *
       obtain ⟨e, tn, rfl⟩ : ∃ (e : Int) (tn : Nat), a = (e, (tn : Int)) := ⟨a.1, a.2.toNat, by
        have : (a.2.toNat : Int) = a.2 := by omega
        rw [this]⟩
       simp only at hb2
       have htn : tn < R.length := by omega
       by_cases hst : t = true ∧ e ≠ 0
       ·obtain ⟨ht, he⟩ := hst
        subst ht
        have d3 : (e != 0) = true := by simpa using he
        (refine wk1 @d2 ?_;(repeat clear hK K);repeat refine kq fun K hK=>?_)
        refine cxz ?_
        (refine wks1 (an @hat (an @tArcs_len (an @half2 @d3))) ?_;(repeat clear hK K);repeat refine kq fun K hK=>?_)
        refine cxz ?_
        (refine ekz ?_;repeat clear hK K)
        (refine wk0 ?_;(repeat clear hK K);repeat refine kq fun K hK=>?_)
        refine rnz ?_
        refine hKo _ (i + 1, sn1, out1) (fin sn1 out1 hW1 hl1 (fun a ha => ?_)) (by simp only; omega) ?_
        ·rw [tauOf_stop (hz rfl) (fun b hb => by rw [hrk] at hb; cases hb; exact he)] at ha
         exact hT1 a ha
        ·refine Le.trans (le_pick [0, 1, 2] rfl rfl) ?_
         (try simp only [List.set_nil, List.take_nil, List.take_zero, List.map_append, go_sem])
         (try simp only [cInts_ren])
         exact lmz
       ·have hz2 : t = true → ∀ j a, j < k + 1 → row[j]? = some a → a.1 = 0 := fun ht j a hj ha => by
         by_cases e2 : j = k
         ·subst e2
          rw [hrk] at ha; cases ha
          exact Decidable.byContradiction fun h => hst ⟨ht, h⟩
         ·exact hz ht j a (by omega) ha
        have gs : (cInts sn1)[tn]? = some (.v (.int .i64 sn1[tn])) := cInts_get (List.getElem?_eq_getElem (by omega))
        have gd : sn1.getD tn 0 = sn1[tn] := by rw [List.getD_eq_getElem?_getD, List.getElem?_eq_getElem (by omega)]; rfl
        cases t with
        | false =>
         (refine wk1 @d2 ?_;(repeat clear hK K);repeat refine kq fun K hK=>?_)
         refine cxz ?_
         (refine wks1 (an @hat (an @tArcs_len @half2)) ?_;(repeat clear hK K);repeat refine kq fun K hK=>?_)
         refine cyz ?_
         by_cases hq : sn1[tn] = rd + 1
         ·have d4 : (sn1[tn] != rd + 1) = false := by rw [hq]; simp
          have hmem := hW1.mem htn (by rw [gd, hq])
          (refine wk0 ?_;(repeat clear hK K);repeat refine kq fun K hK=>?_)
          (refine aw_regionU 12 [(0, 0), (1, 0), (2, 0), (3, 1), (4, 0), (5, 1), (6, 0), (7, 1), (8, 0), (9, 0), (10, 0), (11, 1), (12, 2)] (by kernel_rfl) (by kernel_rfl) (by intro c st h; simp [ThenA, InBl, Ret] at h) ?_)
          (refine uk1 (an @gs (an @cInts_len (an @hsl1 @d4))) ?_; repeat clear hK K)
          refine cyz ?_
          (refine wk0 ?_;(repeat clear hK K);repeat refine kq fun K hK=>?_)
          refine rnz ?_
          refine hK _ (k + 1, sn1, out1) ⟨by simp only; omega, hW1, hl1, hz2, fun a ha => ?_⟩ (by simp only; omega) ?_
          ·simp only at ha
           rw [hTk] at ha
           rcases List.mem_append.1 ha with h | h
           ·exact hT1 a h
           ·simp at h; subst h; simpa using hmem
          ·refine Le.trans (le_pick [0, 1, 2] rfl rfl) ?_
           (try simp only [List.set_nil, List.take_nil, List.take_zero, List.map_append, go_sem])
           (try simp only [cInts_ren])
           exact lmz
         ·have d4 : (sn1[tn] != rd + 1) = true := by simpa using hq
          obtain ⟨v, hv, hvu⟩ := hsu
          have hW2 := hW1.push htn (by rw [gd]; exact hq) ⟨v, hv, hvu.tail (by rw [hAu]; exact List.mem_map.2 ⟨(e, (tn : Int)), tauOf_at hz2 hrk, by simp⟩)⟩
          have op1 := op_push out1 tn []
          simp only [List.append_nil] at op1
          (refine wk0 ?_;(repeat clear hK K);repeat refine kq fun K hK=>?_)
          (refine aw_regionU 12 [(0, 0), (1, 0), (2, 0), (3, 1), (4, 0), (5, 1), (6, 0), (7, 1), (8, 0), (9, 0), (10, 0), (11, 1), (12, 2)] (by kernel_rfl) (by kernel_rfl) (by intro c st h; simp [ThenA, InBl, Ret] at h) ?_)
          (refine uk1 (an @gs (an @cInts_len (an @hsl1 @d4))) ?_; repeat clear hK K)
          refine cxz ?_
          (refine wk0 ?_;(repeat clear hK K);repeat refine kq fun K hK=>?_)
          (refine aw_regionU 11 [(0, 0), (1, 0), (2, 0), (3, 1), (4, 0), (5, 1), (6, 0), (7, 0), (8, 0), (9, 1), (10, 0), (11, 2)] (by kernel_rfl) (by kernel_rfl) (by intro c st h; simp [ThenA, InBl, Ret] at h) ?_)
          (refine uks1 (an @cInts_len (an @hsl1 @cInts_set)) ?_; repeat clear hK K)
          (refine wk1 (an @cInts_len (an @List.length_map.{0, 0} (an @op1 @Nat.le_refl))) ?_;(repeat clear hK K);repeat refine kq fun K hK=>?_)
          refine rnz ?_
          obtain ⟨l, hl⟩ := hl1
          refine hK _ (k + 1, sn1.set tn (rd + 1), out1 ++ [tn]) ⟨by simp only; omega, hW2, ⟨l ++ [tn], by simp only; rw [hl, List.append_assoc]⟩, hz2, fun a ha => ?_⟩ (by simp only; omega) ?_
          ·simp only at ha
           rw [hTk] at ha
           rcases List.mem_append.1 ha with h | h
           ·exact List.mem_append_left _ (hT1 a h)
           ·simp at h; subst h; simp
          ·refine Le.trans (le_pick [0, 1, 5] rfl rfl) ?_
           (try simp only [List.set_nil, List.take_nil, List.take_zero, List.map_append, go_sem])
           (try simp only [cInts_ren])
           simp only [List.length_append, List.length_cons, List.length_nil]
           exact lmz
        | true =>
         have d3 : (e != 0) = false := by
          have : e = 0 := Decidable.byContradiction fun h => hst ⟨rfl, h⟩
          simp [this]
         (refine wk1 @d2 ?_;(repeat clear hK K);repeat refine kq fun K hK=>?_)
         refine cxz ?_
         (refine wks1 (an @hat (an @tArcs_len (an @half2 @d3))) ?_;(repeat clear hK K);repeat refine kq fun K hK=>?_)
         refine cyz ?_
         by_cases hq : sn1[tn] = rd + 1
         ·have d4 : (sn1[tn] != rd + 1) = false := by rw [hq]; simp
          have hmem := hW1.mem htn (by rw [gd, hq])
          (refine wk0 ?_;(repeat clear hK K);repeat refine kq fun K hK=>?_)
          (refine aw_regionU 12 [(0, 0), (1, 0), (2, 0), (3, 1), (4, 0), (5, 1), (6, 0), (7, 1), (8, 0), (9, 0), (10, 0), (11, 1), (12, 2)] (by kernel_rfl) (by kernel_rfl) (by intro c st h; simp [ThenA, InBl, Ret] at h) ?_)
          (refine uk1 (an @gs (an @cInts_len (an @hsl1 @d4))) ?_; repeat clear hK K)
          refine cyz ?_
          (refine wk0 ?_;(repeat clear hK K);repeat refine kq fun K hK=>?_)
          refine rnz ?_
          refine hK _ (k + 1, sn1, out1) ⟨by simp only; omega, hW1, hl1, hz2, fun a ha => ?_⟩ (by simp only; omega) ?_
          ·simp only at ha
           rw [hTk] at ha
           rcases List.mem_append.1 ha with h | h
           ·exact hT1 a h
           ·simp at h; subst h; simpa using hmem
          ·refine Le.trans (le_pick [0, 1, 2] rfl rfl) ?_
           (try simp only [List.set_nil, List.take_nil, List.take_zero, List.map_append, go_sem])
           (try simp only [cInts_ren])
           exact lmz
         ·have d4 : (sn1[tn] != rd + 1) = true := by simpa using hq
          obtain ⟨v, hv, hvu⟩ := hsu
          have hW2 := hW1.push htn (by rw [gd]; exact hq) ⟨v, hv, hvu.tail (by rw [hAu]; exact List.mem_map.2 ⟨(e, (tn : Int)), tauOf_at hz2 hrk, by simp⟩)⟩
          have op1 := op_push out1 tn []
          simp only [List.append_nil] at op1
          (refine wk0 ?_;(repeat clear hK K);repeat refine kq fun K hK=>?_)
          (refine aw_regionU 12 [(0, 0), (1, 0), (2, 0), (3, 1), (4, 0), (5, 1), (6, 0), (7, 1), (8, 0), (9, 0), (10, 0), (11, 1), (12, 2)] (by kernel_rfl) (by kernel_rfl) (by intro c st h; simp [ThenA, InBl, Ret] at h) ?_)
          (refine uk1 (an @gs (an @cInts_len (an @hsl1 @d4))) ?_; repeat clear hK K)
          refine cxz ?_
          (refine wk0 ?_;(repeat clear hK K);repeat refine kq fun K hK=>?_)
          (refine aw_regionU 11 [(0, 0), (1, 0), (2, 0), (3, 1), (4, 0), (5, 1), (6, 0), (7, 0), (8, 0), (9, 1), (10, 0), (11, 2)] (by kernel_rfl) (by kernel_rfl) (by intro c st h; simp [ThenA, InBl, Ret] at h) ?_)
          (refine uks1 (an @cInts_len (an @hsl1 @cInts_set)) ?_; repeat clear hK K)
          (refine wk1 (an @cInts_len (an @List.length_map.{0, 0} (an @op1 @Nat.le_refl))) ?_;(repeat clear hK K);repeat refine kq fun K hK=>?_)
          refine rnz ?_
          obtain ⟨l, hl⟩ := hl1
          refine hK _ (k + 1, sn1.set tn (rd + 1), out1 ++ [tn]) ⟨by simp only; omega, hW2, ⟨l ++ [tn], by simp only; rw [hl, List.append_assoc]⟩, hz2, fun a ha => ?_⟩ (by simp only; omega) ?_
          ·simp only at ha
           rw [hTk] at ha
           rcases List.mem_append.1 ha with h | h
           ·exact List.mem_append_left _ (hT1 a h)
           ·simp at h; subst h; simp
          ·refine Le.trans (le_pick [0, 1, 5] rfl rfl) ?_
           (try simp only [List.set_nil, List.take_nil, List.take_zero, List.map_append, go_sem])
           (try simp only [cInts_ren])
           simp only [List.length_append, List.length_cons, List.length_nil]
           exact lmz
      ·have d2 : decide ((k : Int) < (row.length : Int)) = false := by simpa using hlt2
       (refine wk1 @d2 ?_;(repeat clear hK K);repeat refine kq fun K hK=>?_)
       refine cyz ?_
       (refine ekz ?_;repeat clear hK K)
       (refine wk0 ?_;(repeat clear hK K);repeat refine kq fun K hK=>?_)
       refine rnz ?_
       refine hKo _ (i + 1, sn1, out1) (fin sn1 out1 hW1 hl1 (fun a ha => ?_)) (by simp only; omega) ?_
       ·refine hT1 a ?_
        rw [List.take_of_length_le (by omega)]
        unfold tauOf at ha
        split at ha
        ·exact (List.takeWhile_sublist _).subset ha
        ·exact ha
       ·exact lmz
    ·have d1 : decide ((i : Int) < (out.length : Int)) = false := by simpa using hlt
     obtain ⟨p, hp⟩ : ∃ p : Nat → Bool, p = fun u => decide (u ∈ out) := ⟨_, rfl⟩
     have hdone := hW.done hT (fun u hu w hw => by
      obtain ⟨j, hj⟩ := List.getElem?_of_mem hu
      exact hC j u (by have := (List.getElem?_eq_some_iff.1 hj).1; omega) hj w hw)
     have hlm : (out.map Int.ofNat).length = out.length := by simp
     (refine wk1 (an @d1 (an @cInts_len @List.length_map.{0, 0})) ?_;(repeat clear hK K);repeat refine kq fun K hK=>?_)
     refine cyz ?_
     (refine ekz ?_;repeat clear hK K)
     rw [← hlm]
     (refine wk0 ?_;(repeat clear hK K);repeat refine kq fun K hK=>?_)
     (refine lst_cons rfl ?_; intro K1 hK1; refine stp_callσ (ids := []) [2] (sortI_fc (out.map Int.ofNat) (by rw [hlm]; omega)) rfl rfl (by simp only [go_sem]) (by first | assumption | kernel_rfl) rfl rfl (by (simp only [List.map_append, List.append_nil, go_sem]) <;> rfl) (by (simp only [pkh, cInts_ren, go_sem]) <;> rfl) ?_ ?_)
     ·rintro _ _ ⟨rfl, L', _, _, rfl⟩; rfl
     rintro _ _ ⟨rfl, L', hperm, hsort, rfl⟩
     (simp only [aInts, aSets, cInts_up, List.append_nil, List.nil_append, List.length_map, go_sem]; refine hK1 _ ?_; clear hK1 K1)
     have hLo : L' = (ordN R.length p).map Int.ofNat := by
      obtain ⟨m, hm⟩ : ∃ m : List Nat, L' = m.map Int.ofNat := by
       refine ⟨L'.map Int.toNat, ?_⟩
       rw [List.map_map]
       refine (List.map_id L').symm.trans (List.map_congr_left fun x hx => ?_)
       have h := (hperm.mem_iff).1 hx
       obtain ⟨y, _, rfl⟩ := List.mem_map.1 h
       rfl
      subst hm
      have hp2 : m.Perm out := by
       have := hperm.map Int.toNat
       simpa [List.map_map, Function.comp_def] using this
      have hs2 : m.Pairwise (· ≤ ·) := by
       rw [List.pairwise_map] at hsort
       exact hsort.imp fun h => by simpa using h
      rw [sort_ord (p := p) hp2 hs2 hW.nd (fun u => ⟨fun h => ⟨hW.lt u h, by rw [hp]; simpa using h⟩, fun h => by have := h.2; rw [hp] at this; simpa using this⟩)]
     have hll : out.length = (ordN R.length p).length := by have h := hperm.length_eq; rw [hLo] at h; simpa using h.symm
     rw [hll, hLo]
     (refine wk0 ?_;(repeat clear hK K);repeat refine kq fun K hK=>?_)
     ((try refine aw_ret ?_); (try simp only [ThenA, InBl]); refine ret_le (le_pick [0, 1, 2] rfl rfl) ?_; (try simp only [List.set_nil, List.take_nil, List.take_zero, List.map_append, go_sem]); ((try refine aw_ret ?_); (try refine lst_nil ?_); (try simp only [ThenA, InBl]); refine ret_mk (by first | exact .inl rfl | exact .inr rfl) rfl ?_; simp only [rtn, resA, resL, resV, Tryz.results96, go_sem, true_and, and_true, cInts_ren, wkO]))
     exact ⟨sn, hsl, hW.bd, p, fun u hu => by rw [← hdone u, hp]; simp, rfl, rfl⟩
def tgR (r : List Ar) (e : Int) : List Nat := (r.filter fun a => a.1 == e).map fun a => a.2.toNat
def tg (R : List (List Ar)) (F : List Nat) (e : Int) : List Nat := F.flatMap fun s => tgR (R.getD s []) e
theorem mem_tgR {r : List Ar} {e : Int} {u : Nat} : u ∈ tgR r e ↔ ∃ a ∈ r, a.1 = e ∧ a.2.toNat = u := by
 unfold tgR
 rw [List.mem_map]
 constructor
 ·rintro ⟨a, ha, rfl⟩
  have := List.mem_filter.1 ha
  exact ⟨a, this.1, by simpa using this.2, rfl⟩
 ·rintro ⟨a, ha, he, rfl⟩
  exact ⟨a, List.mem_filter.2 ⟨ha, by simpa using he⟩, rfl⟩
theorem mem_tg {R : List (List Ar)} {F : List Nat} {e : Int} {u : Nat} : u ∈ tg R F e ↔ ∃ s ∈ F, u ∈ tgR (R.getD s []) e := by unfold tg; rw [List.mem_flatMap]
def noE (_ : Nat) : List Nat := []
theorem rc_no {u v : Nat} (h : Rc noE u v) : v = u := by
 cases h with
 | refl => rfl
 | tail _ he => simp [noE] at he
set_option maxHeartbeats 8000000 in
theorem wtargets_fc (R : List (List Ar)) (F : List Nat) (e : Int) (hlo : looB R = true) (hn : R.length ≤ 1000000) (hr : ∀ r ∈ R, r.length ≤ 1000000) (hF : ∀ v ∈ F, v < R.length) (hFl : F.length ≤ 1000000) (seen : List Int) (rd : Int) (hs : seen.length = R.length) (hb : ∀ x ∈ seen, x ≤ rd) (h0 : 0 ≤ rd) (h1 : rd ≤ 1000000000) :
  FC Tryz.prog 114 [.a (.c (.p 0 0)), .a (.c (.t 1 (tInts (F.map Int.ofNat)))), .i e] [wkO R 1 rd, .r ⟨3, 1, true, cInts seen⟩] (fun r o => ∃ seen' : List Int, seen'.length = R.length ∧ (∀ x ∈ seen', x ≤ rd + 1) ∧ ∃ p : Nat → Bool, (∀ u, u < R.length → (p u = true ↔ u ∈ tg R F e)) ∧ o = [wkO R 1 (rd + 1), .r ⟨3, 1, true, cInts seen'⟩, .r ⟨3, 1, true, cInts ((ordN R.length p).map Int.ofNat)⟩] ∧ r = .a (.c (.s 2 (ordN R.length p).length))) := by
 refine fc_intro Tryz.func114 rfl (by rw [Tryz.ntmps114]; simp) ?_
 rw [Tryz.ntmps114]
 simp only [enum, wkO]
 have hbd := (of_decide_eq_true hlo).2.2.2
 have hFl2 : (F.map Int.ofNat).length = F.length := by simp
 (refine wks1 (an @tInts_len @hFl2) ?_;(repeat clear hK K);repeat refine kq fun K hK=>?_)
 refine aw_le (le_nil 7 3 1 ?_) ?_
 ·simp only [go_sem]
 refine aw_loop (fun x : Nat × List Int × List Nat => { tm := [(0, .a (.c (.p 0 0))), (2, .i e), (7, .a (.c (.s 2 x.2.2.length))), (19, .a (.c (.t 1 (tInts (F.map Int.ofNat))))), (20, .i F.length), (21, .i x.1)], hp := [.r ⟨143, 3, false, [.t 1 (tRows R), .s 1 R.length, .v (.int .i64 (rd + 1))]⟩, .r ⟨3, 1, true, cInts x.2.1⟩, .r ⟨3, 1, true, cInts (x.2.2.map Int.ofNat)⟩], n := 78, pin := 2 }) (fun x => x.1 ≤ F.length ∧ Fw noE R.length (tg R F e) (rd + 1) x.2.1 x.2.2 ∧ ∀ v ∈ tg R (F.take x.1) e, v ∈ x.2.2) (fun x => F.length - x.1) (0, seen, []) ?_ ?_ ?_
 ·exact ⟨by simp, Fw.start hs (fun x hx => by have := hb x hx; omega), by simp [tg]⟩
 ·exact lmz
 ·rintro ⟨k, sn, out⟩ ⟨hk, hW, hT⟩ K hK
  simp only at hk hW hT
  have hsl := hW.len
  have hol := hW.le
  by_cases hlt : k < F.length
  ·have d1 : decide ((k : Int) < (F.length : Int)) = true := by simpa using hlt
   have gF : (tInts (F.map Int.ofNat))[k]? = some (.v (.int .i64 (F[k] : Int))) := tInts_get (by rw [List.getElem?_map, List.getElem?_eq_getElem hlt]; rfl)
   have hul := hF _ (List.getElem_mem hlt)
   have hFk := List.getElem_mem hlt
   have hTk : F.take (k + 1) = F.take k ++ [F[k]] := List.take_succ_eq_append_getElem hlt
   generalize F[k] = u at *
   have hgR := List.getElem?_eq_getElem hul
   have hrl := hr _ (List.getElem_mem hul)
   have hbr := hbd _ (List.getElem_mem hul)
   have hRu : R.getD u [] = R[u] := by rw [List.getD_eq_getElem?_getD, hgR]; rfl
   generalize hrr : R[u] = row at *
   have hKo := hK
   (refine wk1 @d1 ?_;(repeat clear hK K);repeat refine kq fun K hK=>?_)
   refine cxz ?_
   (refine wk1 (an @gF (an @tInts_len (an @hFl2 (an @tRows_len (an (tRows_get hgR) (an @tArcs_len @half2)))))) ?_;(repeat clear hK K);repeat refine kq fun K hK=>?_)
   refine aw_loop (fun x : Nat × List Int × List Nat => { tm := [(0, .a (.c (.p 0 0))), (2, .i e), (7, .a (.c (.s 2 x.2.2.length))), (19, .a (.c (.t 1 (tInts (F.map Int.ofNat))))), (20, .i F.length), (21, .i k), (32, .a (.c (.t 2 (tArcs row)))), (33, .i row.length), (34, .i x.1)], hp := [.r ⟨143, 3, false, [.t 1 (tRows R), .s 1 R.length, .v (.int .i64 (rd + 1))]⟩, .r ⟨3, 1, true, cInts x.2.1⟩, .r ⟨3, 1, true, cInts (x.2.2.map Int.ofNat)⟩], n := 78, pin := 2 }) (fun x => x.1 ≤ row.length ∧ Fw noE R.length (tg R F e) (rd + 1) x.2.1 x.2.2 ∧ (∀ v ∈ out, v ∈ x.2.2) ∧ ∀ a ∈ row.take x.1, a.1 = e → a.2.toNat ∈ x.2.2) (fun x => row.length - x.1) (0, sn, out) ?_ ?_ ?_
   ·exact ⟨by simp, hW, fun v h => h, by simp⟩
   ·exact lmz
   ·rintro ⟨j, sn1, out1⟩ ⟨hj, hW1, hl1, hT1⟩ K hK
    simp only at hj hW1 hl1 hT1
    have hsl1 := hW1.len
    have hol1 := hW1.le
    by_cases hlt2 : j < row.length
    ·have d2 : decide ((j : Int) < (row.length : Int)) = true := by simpa using hlt2
     have hat := tArcs_at hlt2
     have hb2 := hbr _ (List.getElem_mem hlt2)
     have hmem := List.getElem_mem hlt2
     have hTj : row.take (j + 1) = row.take j ++ [row[j]] := List.take_succ_eq_append_getElem hlt2
     generalize row[j] = a at *
     obtain ⟨ev, tn, rfl⟩ : ∃ (ev : Int) (tn : Nat), a = (ev, (tn : Int)) := ⟨a.1, a.2.toNat, by
      have : (a.2.toNat : Int) = a.2 := by omega
      rw [this]⟩
     simp only at hb2
     have htn : tn < R.length := by omega
     have gs : (cInts sn1)[tn]? = some (.v (.int .i64 sn1[tn])) := cInts_get (List.getElem?_eq_getElem (by omega))
     have gd : sn1.getD tn 0 = sn1[tn] := by rw [List.getD_eq_getElem?_getD, List.getElem?_eq_getElem (by omega)]; rfl
     (refine wk1 @d2 ?_;(repeat clear hK K);repeat refine kq fun K hK=>?_)
     refine cxz ?_
     (refine wks1 (an @hat (an @tArcs_len @half2)) ?_;(repeat clear hK K);repeat refine kq fun K hK=>?_)
     by_cases he : ev = e
     ·have d3 : (ev == e) = true := by simpa using he
      by_cases hq : sn1[tn] = rd + 1
      ·have d4 : (sn1[tn] != rd + 1) = false := by rw [hq]; simp
       have hin := hW1.mem htn (by rw [gd, hq])
       (refine aw_regionU 18 [(0, 0), (1, 1), (2, 0), (3, 0), (4, 0), (5, 0), (6, 0), (7, 0), (8, 1), (9, 0), (10, 1), (11, 0), (12, 1), (13, 0), (14, 0), (15, 0), (16, 1), (17, 0), (18, 2)] (by kernel_rfl) (by kernel_rfl) (by intro c st h; simp [ThenA, InBl, Ret] at h) ?_)
       (refine ug1 (an @d3 (an @gs (an @cInts_len (an @hsl1 @d4)))) ?_; repeat clear hK K)
       refine cyz ?_
       (refine wk0 ?_;(repeat clear hK K);repeat refine kq fun K hK=>?_)
       refine rnz ?_
       refine hK _ (j + 1, sn1, out1) ⟨by simp only; omega, hW1, hl1, fun a ha hae => ?_⟩ (by simp only; omega) ?_
       ·simp only at ha
        rw [hTj] at ha
        rcases List.mem_append.1 ha with h | h
        ·exact hT1 a h hae
        ·simp at h; subst h; simpa using hin
       ·refine Le.trans (le_pick [0, 1, 2] rfl rfl) ?_
        (try simp only [List.set_nil, List.take_nil, List.take_zero, List.map_append, go_sem])
        (try simp only [cInts_ren])
        exact lmz
      ·have d4 : (sn1[tn] != rd + 1) = true := by simpa using hq
       have hW2 := hW1.push htn (by rw [gd]; exact hq) ⟨tn, mem_tg.2 ⟨u, hFk, by rw [hRu]; exact mem_tgR.2 ⟨_, hmem, he, by simp⟩⟩, .refl _⟩
       have op1 := op_push out1 tn []
       simp only [List.append_nil] at op1
       (refine aw_regionU 18 [(0, 0), (1, 1), (2, 0), (3, 0), (4, 0), (5, 0), (6, 0), (7, 0), (8, 1), (9, 0), (10, 1), (11, 0), (12, 1), (13, 0), (14, 0), (15, 0), (16, 1), (17, 0), (18, 2)] (by kernel_rfl) (by kernel_rfl) (by intro c st h; simp [ThenA, InBl, Ret] at h) ?_)
       (refine ug1 (an @d3 (an @gs (an @cInts_len (an @hsl1 @d4)))) ?_; repeat clear hK K)
       refine cxz ?_
       (refine wk0 ?_;(repeat clear hK K);repeat refine kq fun K hK=>?_)
       (refine aw_regionU 11 [(0, 0), (1, 0), (2, 0), (3, 1), (4, 0), (5, 1), (6, 0), (7, 0), (8, 0), (9, 1), (10, 0), (11, 2)] (by kernel_rfl) (by kernel_rfl) (by intro c st h; simp [ThenA, InBl, Ret] at h) ?_)
       (refine uks1 (an @cInts_len (an @hsl1 @cInts_set)) ?_; repeat clear hK K)
       (refine wk1 (an @cInts_len (an @List.length_map.{0, 0} (an @op1 @Nat.le_refl))) ?_;(repeat clear hK K);repeat refine kq fun K hK=>?_)
       refine rnz ?_
       refine hK _ (j + 1, sn1.set tn (rd + 1), out1 ++ [tn]) ⟨by simp only; omega, hW2, fun v hv => List.mem_append_left _ (hl1 v hv), fun a ha hae => ?_⟩ (by simp only; omega) ?_
       ·simp only at ha
        rw [hTj] at ha
        rcases List.mem_append.1 ha with h | h
        ·exact List.mem_append_left _ (hT1 a h hae)
        ·simp at h; subst h; simp
       ·refine Le.trans (le_pick [0, 1, 5] rfl rfl) ?_
        (try simp only [List.set_nil, List.take_nil, List.take_zero, List.map_append, go_sem])
        (try simp only [cInts_ren])
        simp only [List.length_append, List.length_cons, List.length_nil]
        exact lmz
     ·have d3 : (ev == e) = false := by simpa using he
      (refine aw_regionU 18 [(0, 0), (1, 1), (2, 0), (3, 0), (4, 0), (5, 0), (6, 0), (7, 0), (8, 1), (9, 0), (10, 1), (11, 0), (12, 1), (13, 0), (14, 0), (15, 0), (16, 1), (17, 0), (18, 2)] (by kernel_rfl) (by kernel_rfl) (by intro c st h; simp [ThenA, InBl, Ret] at h) ?_)
      (refine ug1 (an @d3 (an @cInts_len @hsl1)) ?_; repeat clear hK K)
      refine cyz ?_
      (refine wk0 ?_;(repeat clear hK K);repeat refine kq fun K hK=>?_)
      refine rnz ?_
      refine hK _ (j + 1, sn1, out1) ⟨by simp only; omega, hW1, hl1, fun a ha hae => ?_⟩ (by simp only; omega) ?_
      ·simp only at ha
       rw [hTj] at ha
       rcases List.mem_append.1 ha with h | h
       ·exact hT1 a h hae
       ·simp at h; subst h; exact absurd hae he
      ·refine Le.trans (le_pick [0, 1, 2] rfl rfl) ?_
       (try simp only [List.set_nil, List.take_nil, List.take_zero, List.map_append, go_sem])
       (try simp only [cInts_ren])
       exact lmz
    ·have d2 : decide ((j : Int) < (row.length : Int)) = false := by simpa using hlt2
     (refine wk1 @d2 ?_;(repeat clear hK K);repeat refine kq fun K hK=>?_)
     refine cyz ?_
     (refine ekz ?_;repeat clear hK K)
     (refine wk0 ?_;(repeat clear hK K);repeat refine kq fun K hK=>?_)
     refine rnz ?_
     refine hKo _ (k + 1, sn1, out1) ⟨by simp only; omega, hW1, fun v hv => ?_⟩ (by simp only; omega) ?_
     ·simp only at hv
      rw [mem_tg] at hv
      obtain ⟨s, hs1, hs2⟩ := hv
      rw [hTk] at hs1
      rcases List.mem_append.1 hs1 with h | h
      ·exact hl1 v (hT v (mem_tg.2 ⟨s, h, hs2⟩))
      ·simp at h; subst h
       rw [hRu] at hs2
       obtain ⟨a, ha, hae, rfl⟩ := mem_tgR.1 hs2
       exact hT1 a (by rw [List.take_of_length_le (by omega)]; exact ha) hae
     ·exact lmz
  ·have d1 : decide ((k : Int) < (F.length : Int)) = false := by simpa using hlt
   obtain ⟨p, hp⟩ : ∃ p : Nat → Bool, p = fun u => decide (u ∈ out) := ⟨_, rfl⟩
   have hdone : ∀ u, u ∈ out ↔ u ∈ tg R F e := fun u => ⟨fun h => by
    obtain ⟨v, hv, hr⟩ := hW.snd u h
    rw [rc_no hr]; exact hv, fun h => hT u (by rw [List.take_of_length_le (by omega)]; exact h)⟩
   have hlm : (out.map Int.ofNat).length = out.length := by simp
   (refine wk1 @d1 ?_;(repeat clear hK K);repeat refine kq fun K hK=>?_)
   refine cyz ?_
   (refine ekz ?_;repeat clear hK K)
   rw [← hlm]
   (refine wk0 ?_;(repeat clear hK K);repeat refine kq fun K hK=>?_)
   (refine lst_cons rfl ?_; intro K1 hK1; refine stp_callσ (ids := []) [2] (sortI_fc (out.map Int.ofNat) (by rw [hlm]; omega)) rfl rfl (by simp only [go_sem]) (by first | assumption | kernel_rfl) rfl rfl (by (simp only [List.map_append, List.append_nil, go_sem]) <;> rfl) (by (simp only [pkh, cInts_ren, go_sem]) <;> rfl) ?_ ?_)
   ·rintro _ _ ⟨rfl, L', _, _, rfl⟩; rfl
   rintro _ _ ⟨rfl, L', hperm, hsort, rfl⟩
   (simp only [aInts, aSets, cInts_up, List.append_nil, List.nil_append, List.length_map, go_sem]; refine hK1 _ ?_; clear hK1 K1)
   have hLo : L' = (ordN R.length p).map Int.ofNat := by
    obtain ⟨m, hm⟩ : ∃ m : List Nat, L' = m.map Int.ofNat := by
     refine ⟨L'.map Int.toNat, ?_⟩
     rw [List.map_map]
     refine (List.map_id L').symm.trans (List.map_congr_left fun x hx => ?_)
     have h := (hperm.mem_iff).1 hx
     obtain ⟨y, _, rfl⟩ := List.mem_map.1 h
     rfl
    subst hm
    have hp2 : m.Perm out := by
     have := hperm.map Int.toNat
     simpa [List.map_map, Function.comp_def] using this
    have hs2 : m.Pairwise (· ≤ ·) := by
     rw [List.pairwise_map] at hsort
     exact hsort.imp fun h => by simpa using h
    rw [sort_ord (p := p) hp2 hs2 hW.nd (fun u => ⟨fun h => ⟨hW.lt u h, by rw [hp]; simpa using h⟩, fun h => by have := h.2; rw [hp] at this; simpa using this⟩)]
   have hll : out.length = (ordN R.length p).length := by have h := hperm.length_eq; rw [hLo] at h; simpa using h.symm
   rw [hll, hLo]
   (refine wk0 ?_;(repeat clear hK K);repeat refine kq fun K hK=>?_)
   ((try refine aw_ret ?_); (try simp only [ThenA, InBl]); refine ret_le (le_pick [0, 1, 2] rfl rfl) ?_; (try simp only [List.set_nil, List.take_nil, List.take_zero, List.map_append, go_sem]); ((try refine aw_ret ?_); (try refine lst_nil ?_); (try simp only [ThenA, InBl]); refine ret_mk (by first | exact .inl rfl | exact .inr rfl) rfl ?_; simp only [rtn, resA, resL, resV, Tryz.results114, go_sem, true_and, and_true, cInts_ren, wkO]))
   exact ⟨sn, hsl, hW.bd, p, fun u hu => by rw [← hdone u, hp]; simp, rfl, rfl⟩
end Go.Proofs.YtglchakimolfdaaGreatDoor
namespace Go.Proofs.YtglchakimolfdaaGreatDoor
set_option linter.unusedVariables false
set_option linter.unusedSimpArgs false
open Go.RowKit
set_option maxRecDepth 100000

theorem addI_at {x : Int} : ∀ {xs : List Int} {k : Nat}, k ≤ xs.length → (∀ i y, i < k → xs[i]? = some y → y < x) → (∀ y, xs[k]? = some y → x < y) → addI x xs = xs.take k ++ x :: xs.drop k
 | [], k, hk, _, _ => by simp at hk; subst hk; rfl
 | y :: ys, 0, _, _, h2 => by
  have := h2 y rfl
  simp only [addI, List.take_zero, List.drop_zero, List.nil_append]
  rw [if_neg (by omega), if_neg (by omega)]
 | y :: ys, k + 1, hk, h1, h2 => by
  have := h1 0 y (by omega) rfl
  simp only [addI, List.take_succ_cons, List.drop_succ_cons, List.cons_append]
  rw [if_pos this, addI_at (by simpa using hk) (fun i z hi hz => h1 (i + 1) z (by omega) hz) (fun z hz => h2 z hz)]
theorem addI_has {x : Int} : ∀ {xs : List Int} {k : Nat}, (∀ i y, i < k → xs[i]? = some y → y < x) → xs[k]? = some x → addI x xs = xs
 | [], k, _, h => by simp at h
 | y :: ys, 0, _, h => by simp at h; simp [addI, h]
 | y :: ys, k + 1, h1, h => by
  have := h1 0 y (by omega) rfl
  simp only [addI]
  rw [if_pos this, addI_has (fun i z hi hz => h1 (i + 1) z (by omega) hz) h]

theorem addT_fc (xs : List Int) (x : Int) (hn : xs.length ≤ 100000000) : FC Tryz.prog 99 [aInts xs, .i x] [] (fun r o => o = [] ∧ r = aInts (addI x xs)) := by
 refine fc_intro Tryz.func99 rfl (by rw [Tryz.ntmps99]; simp) ?_
 rw [Tryz.ntmps99]
 simp only [enum, aInts]
 (refine wk0 ?_;(repeat clear hK K);repeat refine kq fun K hK=>?_)
 refine aw_loop (fun k : Nat => { tm := [(0, .a (.c (.t 1 (tInts xs)))), (1, .i x), (5, .i k)], hp := [], n := 48, pin := 0 }) (fun k => k ≤ xs.length ∧ ∀ i y, i < k → xs[i]? = some y → y < x) (fun k => xs.length - k) 0 ?_ ?_ ?_
 ·exact ⟨by omega, by intro i y hi; omega⟩
 ·exact lmz
 ·rintro k ⟨hk, he⟩ K hK
  have fin : ∀ y, (∀ z, xs[k]? = some z → x < z) → y = tInts (xs.take k ++ [x] ++ xs.drop k) → y = tInts (addI x xs) := by
   intro y h1 h2
   rw [h2, addI_at hk he h1]; simp
  have hlen : (xs.take k ++ [x] ++ xs.drop k).length = k + 1 + (xs.length - k) := by simp; omega
  have hlen2 : (xs.take k).length = k := by simp; omega
  have hlen3 : (xs.take k ++ [x]).length = k + 1 := by simp; omega
  by_cases hlt : k < xs.length
  ·have hl1 : decide ((k : Int) < (xs.length : Int)) = true := by simpa using hlt
   (refine wk1 (an @hl1 (an @tInts_len (tInts_get (List.getElem?_eq_getElem hlt)))) ?_;(repeat clear hK K);repeat refine kq fun K hK=>?_)
   (refine aw_cnd ?_; intro X Y hX hY; simp only [go_sem])
   refine ⟨fun h => hX ?_, fun h => hY ?_⟩
   ·clear hX hY X Y
    (refine wk0 ?_;(repeat clear hK K);repeat refine kq fun K hK=>?_)
    refine rnz ?_
    refine hK _ (k + 1) ⟨by omega, fun i y hi hy => ?_⟩ (by omega) ?_
    ·by_cases e : i = k
     ·subst e; rw [List.getElem?_eq_getElem hlt] at hy; cases hy; simpa using h
     ·exact he i y (by omega) hy
    ·exact lmz
   ·have hle : x ≤ xs[k] := by simpa using h
    clear hX hY X Y
    (refine ekz ?_;repeat clear hK K)
    (refine wk1 (an @hl1 (an @tInts_len (tInts_get (List.getElem?_eq_getElem hlt)))) ?_;(repeat clear hK K);repeat refine kq fun K hK=>?_)
    (refine aw_cnd ?_; intro X Y hX hY; simp only [go_sem])
    refine ⟨fun h => hX ?_, fun h => hY ?_⟩
    ·clear hX hY X Y
     (refine wk0 ?_;(repeat clear hK K);repeat refine kq fun K hK=>?_)
     refine rq0 Tryz.results99 ?_
     rw [addI_has he (by rw [List.getElem?_eq_getElem hlt]; simpa using h)]
    ·have hne : x < xs[k] := by simp at h; omega
     clear hX hY X Y
     (refine wk1 (an @List.set_cons_zero.{0} (an @List.set_cons_succ.{0} (an @List.take_succ_cons.{0} (an @List.take_zero.{0} (an @List.drop_zero.{0} (an @List.length_take.{0} (an @List.length_drop.{0} (an @List.length_append.{0} (an @tInts_len (an @tInts_take (an @tInts_drop (an @tInts_c (an @cInts_len (an @cInts_one (an @cInts_snoc (an @cInts_app (an @cInts_take (an @cInts_drop (an (Nat.min_eq_left hk) (an (List.take_of_length_le (Nat.le_of_eq hlen2)) (List.take_of_length_le (Nat.le_of_eq hlen3)))))))))))))))))))))) ?_;(repeat clear hK K);repeat refine kq fun K hK=>?_)
     ((try refine aw_ret ?_); (try simp only [ThenA, InBl]); refine ret_le (le_frz (r := ⟨3, 1, true, cInts (xs.take k ++ [x] ++ xs.drop k)⟩) 4 (tInts (xs.take k ++ [x] ++ xs.drop k)) rfl (fz_c _) (show 0 < (1 : Nat) by omega)) ?_; refine ret_le (le_pick [] rfl rfl) ?_; simp only [ST.frz, A0.frz, AV.frz, C.frz, Nat.le_refl, List.set_cons_zero, List.set_cons_succ, go_sem, tInts_len, hlen, Nat.le_refl, tInts_take, List.take_of_length_le (Nat.le_of_eq hlen)]; (try simp only [List.set_nil, List.take_nil, List.take_zero, List.map_append, go_sem]); ((try refine aw_ret ?_); (try refine lst_nil ?_); (try simp only [ThenA, InBl]); refine ret_mk (by first | exact .inl rfl | exact .inr rfl) rfl ?_; simp only [rtn, resA, resL, resV, Tryz.results99, go_sem, true_and, and_true, tInts_len, hlen, Nat.le_refl, tInts_take, List.take_of_length_le (Nat.le_of_eq hlen)]))
     rw [fin _ (fun z hz => by rw [List.getElem?_eq_getElem hlt] at hz; cases hz; exact hne) rfl]
  ·have hl1 : decide ((k : Int) < (xs.length : Int)) = false := by simpa using hlt
   (refine wk1 (an @hl1 @tInts_len) ?_;(repeat clear hK K);repeat refine kq fun K hK=>?_)
   refine cyz ?_
   (refine ekz ?_;repeat clear hK K)
   (refine wk1 (an @hl1 @tInts_len) ?_;(repeat clear hK K);repeat refine kq fun K hK=>?_)
   refine cyz ?_
   (refine wk1 (an @List.set_cons_zero.{0} (an @List.set_cons_succ.{0} (an @List.take_succ_cons.{0} (an @List.take_zero.{0} (an @List.drop_zero.{0} (an @List.length_take.{0} (an @List.length_drop.{0} (an @List.length_append.{0} (an @tInts_len (an @tInts_take (an @tInts_drop (an @tInts_c (an @cInts_len (an @cInts_one (an @cInts_snoc (an @cInts_app (an @cInts_take (an @cInts_drop (an (Nat.min_eq_left hk) (an (List.take_of_length_le (Nat.le_of_eq hlen2)) (List.take_of_length_le (Nat.le_of_eq hlen3)))))))))))))))))))))) ?_;(repeat clear hK K);repeat refine kq fun K hK=>?_)
   ((try refine aw_ret ?_); (try simp only [ThenA, InBl]); refine ret_le (le_frz (r := ⟨3, 1, true, cInts (xs.take k ++ [x] ++ xs.drop k)⟩) 4 (tInts (xs.take k ++ [x] ++ xs.drop k)) rfl (fz_c _) (show 0 < (1 : Nat) by omega)) ?_; refine ret_le (le_pick [] rfl rfl) ?_; simp only [ST.frz, A0.frz, AV.frz, C.frz, Nat.le_refl, List.set_cons_zero, List.set_cons_succ, go_sem, tInts_len, hlen, Nat.le_refl, tInts_take, List.take_of_length_le (Nat.le_of_eq hlen)]; (try simp only [List.set_nil, List.take_nil, List.take_zero, List.map_append, go_sem]); ((try refine aw_ret ?_); (try refine lst_nil ?_); (try simp only [ThenA, InBl]); refine ret_mk (by first | exact .inl rfl | exact .inr rfl) rfl ?_; simp only [rtn, resA, resL, resV, Tryz.results99, go_sem, true_and, and_true, tInts_len, hlen, Nat.le_refl, tInts_take, List.take_of_length_le (Nat.le_of_eq hlen)]))
   rw [fin _ (fun z hz => by rw [List.getElem?_eq_none (by omega)] at hz; cases hz) rfl]

attribute [local go_sem] List.set_cons_zero List.set_cons_succ List.map_cons List.map_nil List.take_succ_cons List.take_zero List.drop_zero List.drop_succ_cons C.pl C.one List.all_cons List.all_nil Bool.and_true Nat.mul_one Int.toNat_natCast
theorem intsEq_fc (xs : List Int) (hn : xs.length ≤ 1000000) : FC Tryz.prog 12 [aInts xs, aInts xs] [] (fun x o => o = [] ∧ x = .b true) := by
 refine fc_intro Tryz.func12 rfl (by rw [Tryz.ntmps12]; simp) ?_
 rw [Tryz.ntmps12]
 simp only [enum, aInts]
 have d0 : ((xs.length : Int) != (xs.length : Int)) = false := by simp
 (refine wk1 (an @tInts_len @d0) ?_;(repeat clear hK K);repeat refine kq fun K hK=>?_)
 refine cyz ?_
 (refine wk0 ?_;(repeat clear hK K);repeat refine kq fun K hK=>?_)
 refine aw_loop (fun k : Nat => { tm := [(0, .a (.c (.t 1 (tInts xs)))), (1, .a (.c (.t 1 (tInts xs)))), (5, .i k)], hp := [], n := 26, pin := 0 }) (fun k => k ≤ xs.length) (fun k => xs.length - k) 0 ?_ ?_ ?_
 ·omega
 ·exact lmz
 ·rintro k hk K hK
  by_cases hlt : k < xs.length
  ·have d1 : decide ((k : Int) < (xs.length : Int)) = true := by simpa using hlt
   have hg : (tInts xs)[k]? = some (.v (.int .i64 xs[k])) := tInts_get (List.getElem?_eq_getElem hlt)
   have d2 : (xs[k] != xs[k]) = false := by simp
   (refine wk1 (an @d1 @tInts_len) ?_;(repeat clear hK K);repeat refine kq fun K hK=>?_)
   refine cxz ?_
   (refine wk0 ?_;(repeat clear hK K);repeat refine kq fun K hK=>?_)
   (refine aw_regionU 8 [(0, 0), (1, 0), (2, 0), (3, 1), (4, 0), (5, 0), (6, 0), (7, 1), (8, 2)] (by kernel_rfl) (by kernel_rfl) (by intro c st h; simp [ThenA, InBl, Ret] at h) ?_)
   (refine uk1 (an @hg (an @tInts_len @d2)) ?_; repeat clear hK K)
   refine cyz ?_
   (refine wk0 ?_;(repeat clear hK K);repeat refine kq fun K hK=>?_)
   refine rnz ?_
   refine hK _ (k + 1) (by omega) (by omega) ?_
   exact lmz
  ·have d1 : decide ((k : Int) < (xs.length : Int)) = false := by simpa using hlt
   (refine wk1 (an @d1 @tInts_len) ?_;(repeat clear hK K);repeat refine kq fun K hK=>?_)
   refine cyz ?_
   (refine ekz ?_;repeat clear hK K)
   (refine wk0 ?_;(repeat clear hK K);repeat refine kq fun K hK=>?_)
   exact rpc0 [] Tryz.results12
def arrOk (R : List (List Ar)) (s e : Int) : Bool := valB R && decide (0 ≤ s) && decide (s < (R.length : Int)) && decide (0 ≤ e) && decide (e ≤ 1025)
theorem arrOk_no {R : List (List Ar)} {s e : Int} (h : arrOk R s e = false) (hv : valB R = true) (h1 : 0 ≤ s) (h2 : s < (R.length : Int)) (h3 : 0 ≤ e) : 1025 < e := by
 unfold arrOk at h
 rw [hv, decide_eq_true h1, decide_eq_true h2, decide_eq_true h3] at h
 simp at h; omega
def reS (R : List (List Ar)) (s : Nat) (L : List Nat) : Prop := ∃ p : Nat → Bool, (∀ u, u < R.length → (p u = true ↔ Rc (Adj true R) s u)) ∧ L = ordN R.length p
theorem reS_lt {R : List (List Ar)} {s : Nat} {L : List Nat} (h : reS R s L) : (∀ v ∈ L, v < R.length) ∧ L.length ≤ R.length := by
 obtain ⟨p, hp, rfl⟩ := h
 refine ⟨fun v hv => (mem_ordN.1 hv).1, ?_⟩
 unfold ordN
 refine Nat.le_trans (List.length_filter_le _ _) (by simp)
theorem tInts_nil : tInts ([] : List Int) = [] := rfl
def tgI (R : List (List Ar)) (F : List Nat) (e : Int) (acc : List Int) : List Int := F.foldl (fun acc s => (R.getD s []).foldl (fun acc a => if a.1 = e then addI a.2 acc else acc) acc) acc
def tgi1 (r : List Ar) (e : Int) (acc : List Int) : List Int := r.foldl (fun acc a => if a.1 = e then addI a.2 acc else acc) acc
theorem tgi1_snoc (r : List Ar) (e : Int) (acc : List Int) (a : Ar) : tgi1 (r ++ [a]) e acc = if a.1 = e then addI a.2 (tgi1 r e acc) else tgi1 r e acc := by unfold tgi1; rw [List.foldl_append]; rfl
theorem tgI_snoc (R : List (List Ar)) (F : List Nat) (e : Int) (acc : List Int) (s : Nat) : tgI R (F ++ [s]) e acc = tgi1 (R.getD s []) e (tgI R F e acc) := by unfold tgI; rw [List.foldl_append]; rfl
theorem mem_tgi1 {x : Int} {e : Int} : ∀ (r : List Ar) (acc : List Int), x ∈ tgi1 r e acc ↔ x ∈ acc ∨ ∃ a ∈ r, a.1 = e ∧ a.2 = x := by
 intro r
 induction r with
 | nil => intro acc; simp [tgi1]
 | cons a r ih =>
  intro acc
  show x ∈ tgi1 r e (if a.1 = e then addI a.2 acc else acc) ↔ _
  rw [ih]
  simp only [List.mem_cons, exists_eq_or_imp]
  split
  ·rename_i h
   rw [mem_addI]
   constructor
   ·rintro ((rfl | h1) | h1)
    ·exact .inr (.inl ⟨h, rfl⟩)
    ·exact .inl h1
    ·exact .inr (.inr h1)
   ·rintro (h1 | ⟨_, rfl⟩ | h1)
    ·exact .inl (.inr h1)
    ·exact .inl (.inl rfl)
    ·exact .inr h1
  ·rename_i h
   constructor
   ·rintro (h1 | h1)
    ·exact .inl h1
    ·exact .inr (.inr h1)
   ·rintro (h1 | ⟨h2, _⟩ | h1)
    ·exact .inl h1
    ·exact absurd h2 h
    ·exact .inr h1
theorem mem_tgI {R : List (List Ar)} {x e : Int} : ∀ (F : List Nat) (acc : List Int), x ∈ tgI R F e acc ↔ x ∈ acc ∨ ∃ s ∈ F, ∃ a ∈ R.getD s [], a.1 = e ∧ a.2 = x := by
 intro F
 induction F with
 | nil => intro acc; simp [tgI]
 | cons s F ih =>
  intro acc
  show x ∈ tgI R F e (tgi1 (R.getD s []) e acc) ↔ _
  rw [ih, mem_tgi1]
  simp only [List.mem_cons, exists_eq_or_imp]
  rw [or_assoc]
theorem tgi1_asc {e : Int} : ∀ (r : List Ar) (acc : List Int), Asc acc → Asc (tgi1 r e acc) := by
 intro r
 induction r with
 | nil => intro acc h; exact h
 | cons a r ih =>
  intro acc h
  show Asc (tgi1 r e (if a.1 = e then addI a.2 acc else acc))
  split
  ·exact ih _ (addI_asc h)
  ·exact ih _ h
theorem tgI_asc {R : List (List Ar)} {e : Int} : ∀ (F : List Nat) (acc : List Int), Asc acc → Asc (tgI R F e acc) := by
 intro F
 induction F with
 | nil => intro acc h; exact h
 | cons s F ih => intro acc h; exact ih _ (tgi1_asc _ _ h)
theorem asc_bd {l : List Int} {n : Nat} (h : Asc l) (hb : ∀ x ∈ l, 0 ≤ x ∧ x < (n : Int)) : l.length ≤ n := by
 have h1 : (l.map Int.toNat).Nodup := by
  unfold Asc at h
  rw [List.Nodup, List.pairwise_map]
  refine h.imp_of_mem fun {a b} ha hb2 hab e => ?_
  have := hb a ha
  have := hb b hb2
  omega
 have := nodup_le n (l.map Int.toNat) h1 fun u hu => by
  obtain ⟨x, hx, rfl⟩ := List.mem_map.1 hu
  have := hb x hx
  omega
 simpa using this
def WA (R : List (List Ar)) (s : Nat) (e : Int) (u : Nat) : Prop := (e = 0 ∧ Rc (Adj true R) s u) ∨ (e ≠ 0 ∧ ∃ t, Rc (Adj true R) s t ∧ ∃ a ∈ R.getD t [], a.1 = e ∧ Rc (Adj true R) a.2.toNat u)
def wArr (R : List (List Ar)) (s : Nat) (e : Int) (L : List Int) : Prop := ∃ B : List Bool, B.length = R.length ∧ L = rL R.length B ∧ ∀ u, u < R.length → (seenB B u = true ↔ WA R s e u)
theorem wArr_len {R : List (List Ar)} {s : Nat} {e : Int} {L : List Int} (h : wArr R s e L) : L.length ≤ R.length := by
 obtain ⟨B, _, rfl, _⟩ := h
 exact rL_len _ _
theorem toNat_map {l : List Int} (h : ∀ x ∈ l, 0 ≤ x) : (l.map Int.toNat).map Int.ofNat = l := by
 rw [List.map_map]
 have : ∀ x ∈ l, (Int.ofNat ∘ Int.toNat) x = id x := fun x hx => by
  have := h x hx
  simp only [Function.comp_apply, Int.ofNat_eq_natCast, id_eq]; omega
 rw [List.map_congr_left this, List.map_id]
set_option maxHeartbeats 4000000 in
theorem aft_fc (R : List (List Ar)) (sn : Nat) (e : Int) (hv : valB R = true) (hsl : sn < R.length) (h3 : 0 ≤ e) (h4 : e ≤ 1025) (hn : R.length ≤ 1000000) (hr : ∀ r ∈ R, r.length ≤ 1000000) : FC Tryz.prog 68 [aLts R, .a (.c (.t 1 (tInts [(sn : Int)]))), .i e] [] (fun r o => ∃ L, wArr R sn e L ∧ o = [] ∧ r = aInts L) := by
 refine fc_intro Tryz.func68 rfl (by rw [Tryz.ntmps68]; simp) ?_
 rw [Tryz.ntmps68]
 simp only [enum, aLts]
 have hlo : looB R = true := decide_eq_true (of_decide_eq_true hv).1
 have hbd := (of_decide_eq_true hlo).2.2.2
 have c3 : decide (e < 0) = false := decide_eq_false (by omega)
 have c4 : decide (e > 1025) = false := decide_eq_false (by omega)
 (refine wk0 ?_;(repeat clear hK K);repeat refine kq fun K hK=>?_)
 (refine ckz (validR_fc R (by omega) (fun r h => by have := hr r h; omega)) ?_; intro K1 hK1)
 rintro _ _ ⟨rfl, rfl⟩
 (refine bkz ?_; clear hK1 K1)
 (refine wk1 (an @hv @Bool.not_true) ?_;(repeat clear hK K);repeat refine kq fun K hK=>?_)
 (refine lst_goU rfl rfl (by simp only [go_sem] <;> rfl) ?_; intro K1 hK1; refine (stp_call0 (ids := []) (inSt_fc R [(sn : Int)] (by simpa using hsl) hn (by simp)) rfl rfl (by simp only [go_sem]) (by kernel_rfl) (by (simp only [List.append_nil, go_sem]) <;> rfl) ?_).stp)
 rintro _ _ ⟨rfl, rfl⟩
 (refine bkz ?_; clear hK1 K1)
 (refine wk1 (an @Bool.not_true (an @c3 @c4)) ?_;(repeat clear hK K);repeat refine kq fun K hK=>?_)
 refine cyz ?_
 (refine wk0 ?_;(repeat clear hK K);repeat refine kq fun K hK=>?_)
 (refine ckz (reT_fc R [sn] hv (by simpa using hsl) (by simp) hn hr) ?_; intro K1 hK1)
 rintro _ _ ⟨B, hB, rfl, rfl⟩
 (refine bkz ?_; clear hK1 K1)
 have hBr : ∀ u, seenB B u = true ↔ Rc (Adj true R) sn u := fun u => by rw [hB.2]; simp
 by_cases he : e = 0
 ·have d0 : (e == 0) = true := by simp [he]
  (refine wk1 @d0 ?_;(repeat clear hK K);repeat refine kq fun K hK=>?_)
  refine cxz ?_
  (refine wk0 ?_;(repeat clear hK K);repeat refine kq fun K hK=>?_)
  refine rp0 [] Tryz.results68 ?_
  refine ⟨_, ⟨B, hB.1, rfl, fun u _ => ?_⟩, rfl⟩
  rw [hBr]
  unfold WA
  simp [he]
 ·have d0 : (e == 0) = false := by simpa using he
  obtain ⟨M, hM⟩ : ∃ M, M = (List.range R.length).filter (seenB B) := ⟨_, rfl⟩
  have hLM : rL R.length B = M.map Int.ofNat := by rw [hM]; rfl
  have hMm : ∀ v, v ∈ M ↔ v < R.length ∧ Rc (Adj true R) sn v := fun v => by rw [hM, List.mem_filter, List.mem_range, hBr]
  have hMl : M.length ≤ R.length := by have := rL_len R.length B; rw [hLM, List.length_map] at this; exact this
  rw [hLM]
  clear hM hLM
  (refine wk1 @d0 ?_;(repeat clear hK K);repeat refine kq fun K hK=>?_)
  refine cyz ?_
  (refine wk0 ?_;(repeat clear hK K);repeat refine kq fun K hK=>?_)
  refine aw_le (le_nilt 8 1 ?_) ?_
  ·simp only [go_sem]
  have htn : tInts ([] : List Int) = [] := rfl
  refine aw_loop (fun i : Nat => { tm := [(2, .i e), (3, .a (.c (.p 0 0))), (7, .a (.c (.t 1 (tInts (M.map Int.ofNat))))), (8, .a (.c (.t 1 (tInts (tgI R (M.take i) e []))))), (9, .i i)], hp := [.r ⟨25, 1, false, [.t 1 (tRows R)]⟩], n := 84, pin := 0 }) (fun i => i ≤ M.length) (fun i => M.length - i) 0 ?_ ?_ ?_
  ·omega
  ·simp only [List.take_zero, tgI, List.foldl_nil, htn]
   exact lmz
  ·rintro i hi K hK
   by_cases hlt : i < M.length
   ·have d1 : decide ((i : Int) < (M.length : Int)) = true := by simpa using hlt
    have gL : (tInts (M.map Int.ofNat))[i]? = some (.v (.int .i64 (M[i] : Int))) := tInts_get (by rw [List.getElem?_map, List.getElem?_eq_getElem hlt]; rfl)
    have hul := ((hMm _).1 (List.getElem_mem hlt)).1
    have hTk : M.take (i + 1) = M.take i ++ [M[i]] := List.take_succ_eq_append_getElem hlt
    have hsub : ∀ v ∈ M.take i, v < R.length := fun v hv => ((hMm v).1 (List.mem_of_mem_take hv)).1
    generalize M[i] = u at *
    have hgR := List.getElem?_eq_getElem hul
    have hrl := hr _ (List.getElem_mem hul)
    have hRu : R.getD u [] = R[u] := by rw [List.getD_eq_getElem?_getD, hgR]; rfl
    have hbr := hbd _ (List.getElem_mem hul)
    generalize hrr : R[u] = row at *
    have hacc : Asc (tgI R (M.take i) e []) ∧ ∀ x ∈ tgI R (M.take i) e [], 0 ≤ x ∧ x < (R.length : Int) := by
     refine ⟨tgI_asc _ _ List.Pairwise.nil, fun x hx => ?_⟩
     rw [mem_tgI] at hx
     rcases hx with h | ⟨s, hs, a, ha, _, rfl⟩
     ·simp at h
     ·have hsl2 := hsub s hs
      rw [List.getD_eq_getElem?_getD, List.getElem?_eq_getElem hsl2, Option.getD_some] at ha
      have := hbd _ (List.getElem_mem hsl2) a ha
      exact ⟨this.2.2.1, this.2.2.2⟩
    have hnx : tgI R (M.take (i + 1)) e [] = tgi1 row e (tgI R (M.take i) e []) := by rw [hTk, tgI_snoc, hRu]
    generalize tgI R (M.take i) e [] = acc at *
    have hKo := hK
    (refine wk1 (an @d1 (an @tInts_len @List.length_map.{0, 0})) ?_;(repeat clear hK K);repeat refine kq fun K hK=>?_)
    refine cxz ?_
    (refine wk0 ?_;(repeat clear hK K);repeat refine kq fun K hK=>?_)
    refine aw_loop (fun k : Nat => { tm := [(2, .i e), (3, .a (.c (.p 0 0))), (7, .a (.c (.t 1 (tInts (M.map Int.ofNat))))), (8, .a (.c (.t 1 (tInts (tgi1 (row.take k) e acc))))), (9, .i i), (10, .i k)], hp := [.r ⟨25, 1, false, [.t 1 (tRows R)]⟩], n := 84, pin := 0 }) (fun k => k ≤ row.length) (fun k => row.length - k) 0 ?_ ?_ ?_
    ·omega
    ·simp only [List.take_zero, tgi1, List.foldl_nil]
     exact lmz
    ·rintro k hk K hK
     by_cases hlt2 : k < row.length
     ·have d2 : decide ((k : Int) < (row.length : Int)) = true := by simpa using hlt2
      have ha0 := tArcs_c0 hlt2
      have ha1 := tArcs_c1 hlt2
      have hsn := tgi1_snoc (row.take k) e acc row[k]
      rw [← List.take_succ_eq_append_getElem hlt2] at hsn
      have hql : (tgi1 (row.take k) e acc).length ≤ R.length := asc_bd (tgi1_asc _ _ hacc.1) fun x hx => by
       rw [mem_tgi1] at hx
       rcases hx with h | ⟨a, ha, _, rfl⟩
       ·exact hacc.2 x h
       ·have := hbr a (List.mem_of_mem_take ha)
        exact ⟨this.2.2.1, this.2.2.2⟩
      generalize tgi1 (row.take k) e acc = q at *
      (refine wk0 ?_;(repeat clear hK K);repeat refine kq fun K hK=>?_)
      (refine aw_regionU 10 [(0, 0), (1, 0), (2, 1), (3, 0), (4, 0), (5, 0), (6, 1), (7, 0), (8, 1), (9, 0), (10, 2)] (by kernel_rfl) (by kernel_rfl) (by intro c st h; simp [ThenA, InBl, Ret] at h) ?_)
      (refine uk1 (an @tRows_len (an (tRows_get hgR) (an @tInts_len (an @List.length_map.{0, 0} (an @gL (an @tArcs_len (an @half2 @d2))))))) ?_; repeat clear hK K)
      refine cxz ?_
      (refine wk0 ?_;(repeat clear hK K);repeat refine kq fun K hK=>?_)
      by_cases hae : row[k].1 = e
      ·have d3 : (row[k].1 == e) = true := by simpa using hae
       rw [if_pos hae] at hsn
       (refine aw_regionU 13 [(0, 0), (1, 1), (2, 0), (3, 0), (4, 0), (5, 1), (6, 0), (7, 1), (8, 0), (9, 0), (10, 0), (11, 1), (12, 0), (13, 2)] (by kernel_rfl) (by kernel_rfl) (by intro c st h; simp [ThenA, InBl, Ret] at h) ?_)
       (refine uk1 (an @tRows_len (an (tRows_get hgR) (an @tInts_len (an @List.length_map.{0, 0} (an @gL (an @tArcs_len (an @half2 (an @ha0 @d3)))))))) ?_; repeat clear hK K)
       refine cxz ?_
       (refine wk0 ?_;(repeat clear hK K);repeat refine kq fun K hK=>?_)
       (refine aw_regionU 13 [(0, 0), (1, 0), (2, 1), (3, 0), (4, 0), (5, 0), (6, 1), (7, 0), (8, 1), (9, 0), (10, 0), (11, 0), (12, 1), (13, 2), (14, 0)] (by kernel_rfl) (by kernel_rfl) (by intro c st h; simp [ThenA, InBl, Ret] at h) ?_)
       (refine uk1 (an @tRows_len (an (tRows_get hgR) (an @tInts_len (an @List.length_map.{0, 0} (an @gL (an @tArcs_len (an @half2 @ha1))))))) ?_; repeat clear hK K)
       (refine uckz (addT_fc q row[k].2 (by omega)) ?_; intro K1 hK1)
       rintro _ _ ⟨rfl, rfl⟩
       (refine bkz ?_; clear hK1 K1)
       (refine uk0 ?_; repeat clear hK K)
       (refine wk0 ?_;(repeat clear hK K);repeat refine kq fun K hK=>?_)
       refine rnz ?_
       refine hK _ (k + 1) (by omega) (by omega) ?_
       rw [hsn]
       exact lmz
      ·have d3 : (row[k].1 == e) = false := by simpa using hae
       rw [if_neg hae] at hsn
       (refine aw_regionU 13 [(0, 0), (1, 1), (2, 0), (3, 0), (4, 0), (5, 1), (6, 0), (7, 1), (8, 0), (9, 0), (10, 0), (11, 1), (12, 0), (13, 2)] (by kernel_rfl) (by kernel_rfl) (by intro c st h; simp [ThenA, InBl, Ret] at h) ?_)
       (refine uk1 (an @tRows_len (an (tRows_get hgR) (an @tInts_len (an @List.length_map.{0, 0} (an @gL (an @tArcs_len (an @half2 (an @ha0 @d3)))))))) ?_; repeat clear hK K)
       refine cyz ?_
       (refine wk0 ?_;(repeat clear hK K);repeat refine kq fun K hK=>?_)
       refine rnz ?_
       refine hK _ (k + 1) (by omega) (by omega) ?_
       rw [hsn]
       exact lmz
     ·have d2 : decide ((k : Int) < (row.length : Int)) = false := by simpa using hlt2
      have htr : row.take k = row := List.take_of_length_le (by omega)
      rw [htr, ← hnx]
      (refine wk0 ?_;(repeat clear hK K);repeat refine kq fun K hK=>?_)
      (refine aw_regionU 10 [(0, 0), (1, 0), (2, 1), (3, 0), (4, 0), (5, 0), (6, 1), (7, 0), (8, 1), (9, 0), (10, 2)] (by kernel_rfl) (by kernel_rfl) (by intro c st h; simp [ThenA, InBl, Ret] at h) ?_)
      (refine uk1 (an @tRows_len (an (tRows_get hgR) (an @tInts_len (an @List.length_map.{0, 0} (an @gL (an @tArcs_len (an @half2 @d2))))))) ?_; repeat clear hK K)
      refine cyz ?_
      (refine ekz ?_;repeat clear hK K)
      (refine wk0 ?_;(repeat clear hK K);repeat refine kq fun K hK=>?_)
      refine rnz ?_
      refine hKo _ (i + 1) (by omega) (by omega) ?_
      exact lmz
   ·have d1 : decide ((i : Int) < (M.length : Int)) = false := by simpa using hlt
    have htM : M.take i = M := List.take_of_length_le (by omega)
    rw [htM]
    have htm : ∀ x, x ∈ tgI R M e [] ↔ ∃ s ∈ M, ∃ a ∈ R.getD s [], a.1 = e ∧ a.2 = x := fun x => by rw [mem_tgI]; simp
    have htb : ∀ x ∈ tgI R M e [], 0 ≤ x ∧ x < (R.length : Int) := fun x hx => by
     obtain ⟨s, hs, a, ha, _, rfl⟩ := (htm x).1 hx
     have hsl2 := ((hMm s).1 hs).1
     rw [List.getD_eq_getElem?_getD, List.getElem?_eq_getElem hsl2, Option.getD_some] at ha
     have := hbd _ (List.getElem_mem hsl2) a ha
     exact ⟨this.2.2.1, this.2.2.2⟩
    have htl := asc_bd (tgI_asc (R := R) (e := e) M [] List.Pairwise.nil) htb
    generalize tgI R M e [] = T at *
    obtain ⟨F, hF⟩ : ∃ F : List Nat, F = T.map Int.toNat := ⟨_, rfl⟩
    have hFT : T = F.map Int.ofNat := by rw [hF, toNat_map fun x hx => (htb x hx).1]
    have hFl : F.length ≤ R.length := by rw [hF, List.length_map]; exact htl
    have hFm : ∀ v, v ∈ F ↔ (v : Int) ∈ T := fun v => by
     rw [hF, List.mem_map]
     constructor
     ·rintro ⟨x, hx, rfl⟩
      have := htb x hx
      rw [show ((x.toNat : Nat) : Int) = x by omega]; exact hx
     ·intro h; exact ⟨_, h, by simp⟩
    rw [hFT]
    (refine wk1 (an @d1 (an @tInts_len @List.length_map.{0, 0})) ?_;(repeat clear hK K);repeat refine kq fun K hK=>?_)
    refine cyz ?_
    (refine ekz ?_;repeat clear hK K)
    (refine wk0 ?_;(repeat clear hK K);repeat refine kq fun K hK=>?_)
    (refine ckz (reT_fc R F hv (fun v hv => by have := htb _ ((hFm v).1 hv); omega) (by omega) hn hr) ?_; intro K1 hK1)
    rintro _ _ ⟨B2, hB2, rfl, rfl⟩
    (refine bkz ?_; clear hK1 K1)
    (refine wk0 ?_;(repeat clear hK K);repeat refine kq fun K hK=>?_)
    refine rp0 [] Tryz.results68 ?_
    refine ⟨_, ⟨B2, hB2.1, rfl, fun u _ => ?_⟩, rfl⟩
    rw [hB2.2]
    unfold WA
    constructor
    ·rintro ⟨v, h5, h6⟩
     obtain ⟨s, hs, a, ha, hae, hav⟩ := (htm _).1 ((hFm v).1 h5)
     refine .inr ⟨he, s, ((hMm s).1 hs).2, a, ha, hae, ?_⟩
     rw [hav, Int.toNat_natCast]; exact h6
    ·rintro (⟨h5, _⟩ | ⟨_, s, h5, a, ha, hae, h6⟩)
     ·exact absurd h5 he
     ·have hsr := h5.lt hsl (adj_lt true hlo)
      refine ⟨a.2.toNat, (hFm _).2 ((htm _).2 ⟨s, (hMm s).2 ⟨hsr, h5⟩, a, ha, hae, ?_⟩), h6⟩
      rw [List.getD_eq_getElem?_getD, List.getElem?_eq_getElem hsr, Option.getD_some] at ha
      have := hbd _ (List.getElem_mem hsr) a ha
      omega
theorem warr_fc (R : List (List Ar)) (sn : Nat) (e : Int) (hv : valB R = true) (hsl : sn < R.length) (h3 : 0 ≤ e) (h4 : e ≤ 1025) (hn : R.length ≤ 1000000) (hr : ∀ r ∈ R, r.length ≤ 1000000) : FC Tryz.prog 40 [aLts R, .i sn, .i e] [] (fun r o => ∃ L, wArr R sn e L ∧ o = [] ∧ r = aInts L) := by
 refine fc_intro Tryz.func40 rfl (by rw [Tryz.ntmps40]; simp) ?_
 rw [Tryz.ntmps40]
 simp only [enum, aLts]
 have c1 : decide ((sn : Int) < 0) = false := decide_eq_false (by omega)
 have c2 : decide ((sn : Int) ≥ (R.length : Int)) = false := decide_eq_false (by omega)
 have c3 : decide (e < 0) = false := decide_eq_false (by omega)
 have c4 : decide (e > 1025) = false := decide_eq_false (by omega)
 (refine wk0 ?_;(repeat clear hK K);repeat refine kq fun K hK=>?_)
 (refine ckz (validR_fc R (by omega) (fun r h => by have := hr r h; omega)) ?_; intro K1 hK1)
 rintro _ _ ⟨rfl, rfl⟩
 (refine bkz ?_; clear hK1 K1)
 (refine wk1 (an @hv (an @Bool.not_true (an @c1 (an @c2 (an @c3 (an @c4 @tRows_len)))))) ?_;(repeat clear hK K);repeat refine kq fun K hK=>?_)
 refine cyz ?_
 (refine wk0 ?_;(repeat clear hK K);repeat refine kq fun K hK=>?_)
 (refine lst_le (le_frz (r := ⟨3, 1, true, cInts [(sn : Int)]⟩) 1 (tInts [(sn : Int)]) rfl (fz_c _) (show 0 < (1 : Nat) by omega)) ?_; simp only [ST.frz, A0.frz, AV.frz, C.frz, Nat.le_refl, List.set_cons_zero, List.set_cons_succ, go_sem, tInts_one])
 (refine wk0 ?_;(repeat clear hK K);repeat refine kq fun K hK=>?_)
 (refine ckz (aft_fc R sn e hv hsl h3 h4 hn hr) ?_; intro K1 hK1)
 rintro _ _ ⟨L, hL, rfl, rfl⟩
 (refine bkz ?_; clear hK1 K1)
 (refine wk0 ?_;(repeat clear hK K);repeat refine kq fun K hK=>?_)
 refine rp0 [] Tryz.results40 ?_
 exact ⟨L, hL, rfl⟩
def stN (R : List (List Ar)) (s : Int) : Bool := decide (0 ≤ s) && decide (s < (R.length : Int))
theorem gst_fc (R : List (List Ar)) (s : Int) : FC Tryz.prog 113 [aLts R, .i s] [] (fun r o => o = [] ∧ r = .b (stN R s)) := by
 refine fc_intro Tryz.func113 rfl (by rw [Tryz.ntmps113]; simp) ?_
 rw [Tryz.ntmps113]
 simp only [enum, aLts]
 by_cases h0 : 0 ≤ s
 ·have c1 : decide (s ≥ 0) = true := decide_eq_true (by omega)
  have c2 : stN R s = decide (s < (R.length : Int)) := by unfold stN; rw [decide_eq_true h0]; rfl
  (refine wk1 (an @c1 @tRows_len) ?_;(repeat clear hK K);repeat refine kq fun K hK=>?_)
  refine rp0 [] Tryz.results113 ?_
  rw [c2]
 ·have c1 : decide (s ≥ 0) = false := decide_eq_false (by omega)
  have c2 : stN R s = false := by unfold stN; rw [decide_eq_false h0]; rfl
  (refine wk1 (an @c1 @tRows_len) ?_;(repeat clear hK K);repeat refine kq fun K hK=>?_)
  refine rp0 [] Tryz.results113 ?_
  rw [c2]
theorem gst1_fc (R : List (List Ar)) (s : Int) : FC Tryz.prog 112 [.i s, .a (.c (.p 0 0))] [.r ⟨25, 1, false, [Tr.l 1 (tRows R)].map C.ofTr⟩] (fun r o => o = [.r ⟨25, 1, false, [Tr.l 1 (tRows R)].map C.ofTr⟩] ∧ r = .b (!stN R s)) := by
 refine fc_intro Tryz.func112 rfl (by rw [Tryz.ntmps112]; simp) ?_
 rw [Tryz.ntmps112]
 simp only [enum]
 (refine wk0 ?_;(repeat clear hK K);repeat refine kq fun K hK=>?_)
 (refine ckz (gst_fc R s) ?_; intro K1 hK1)
 rintro _ _ ⟨rfl, rfl⟩
 (refine bkz ?_; clear hK1 K1)
 (refine wk0 ?_;(repeat clear hK K);repeat refine kq fun K hK=>?_)
 exact rqc0 Tryz.results112
theorem gsts_fc (R : List (List Ar)) (F : List Int) (hn : R.length ≤ 1000000) (hr : ∀ r ∈ R, r.length ≤ 1000000) (hF : F.length ≤ 1000000) : FC Tryz.prog 94 [aLts R, aInts F] [] (fun r o => o = [] ∧ r = .b (valB R && !F.any fun s => !stN R s)) := by
 refine fc_intro Tryz.func94 rfl (by rw [Tryz.ntmps94]; simp) ?_
 rw [Tryz.ntmps94]
 simp only [enum, aLts, aInts]
 (refine wk0 ?_;(repeat clear hK K);repeat refine kq fun K hK=>?_)
 (refine ckz (valid_fc R (by omega) (fun r h => by have := hr r h; omega)) ?_; intro K1 hK1)
 rintro _ _ ⟨rfl, rfl⟩
 (refine bkz ?_; clear hK1 K1)
 cases hv : valB R with
 | false =>
  (refine wk0 ?_;(repeat clear hK K);repeat refine kq fun K hK=>?_)
  refine rp0 [] Tryz.results94 ?_
  simp [hv]
 | true =>
  (refine wk0 ?_;(repeat clear hK K);repeat refine kq fun K hK=>?_)
  (refine lst_goU rfl rfl (by simp only [go_sem] <;> rfl) ?_; intro K1 hK1; refine cs [0] (containsFunc_ints F (fun s => !stN R s) 112 25 1 [Tr.l 1 (tRows R)] (by omega) (by kernel_rfl) (fun x _ => gst1_fc R x)) ?_ ?_)
  ·rintro _ _ ⟨rfl, rfl⟩; rfl
  rintro _ _ ⟨rfl, rfl⟩
  (refine bkz ?_; clear hK1 K1)
  (refine wk0 ?_;(repeat clear hK K);repeat refine kq fun K hK=>?_)
  refine rp0 [] Tryz.results94 ?_
  simp [hv]
theorem waft_fc (R : List (List Ar)) (F : List Nat) (e : Int) (hlo : looB R = true) (hn : R.length ≤ 1000000) (hr : ∀ r ∈ R, r.length ≤ 1000000) (hF : ∀ v ∈ F, v < R.length) (hFl : F.length ≤ 1000000) (seen : List Int) (rd : Int) (hs : seen.length = R.length) (hb : ∀ x ∈ seen, x ≤ rd) (h0 : 0 ≤ rd) (h1 : rd ≤ 100000000) :
  FC Tryz.prog 97 [.a (.c (.p 0 0)), .a (.c (.t 1 (tInts (F.map Int.ofNat)))), .i e] [wkO R 1 rd, .r ⟨3, 1, true, cInts seen⟩] (fun r o => ∃ seen' : List Int, seen'.length = R.length ∧ (∀ x ∈ seen', x ≤ rd + 2) ∧ ∃ p : Nat → Bool, (∀ u, u < R.length → (p u = true ↔ ∃ v ∈ tg R F e, Rc (Adj true R) v u)) ∧ o = [wkO R 1 (rd + 1 + 1), .r ⟨3, 1, true, cInts seen'⟩, .r ⟨3, 1, true, cInts ((ordN R.length p).map Int.ofNat)⟩] ∧ r = .a (.c (.s 2 (ordN R.length p).length))) := by
 refine fc_intro Tryz.func97 rfl (by rw [Tryz.ntmps97]; simp) ?_
 rw [Tryz.ntmps97]
 simp only [enum, wkO]
 have hbd := (of_decide_eq_true hlo).2.2.2
 (refine wk0 ?_;(repeat clear hK K);repeat refine kq fun K hK=>?_)
 (refine lst_cons rfl ?_; intro K1 hK1; refine stp_callσ (ids := []) [0, 1] (wtargets_fc R F e hlo hn hr hF hFl seen rd hs hb h0 (by omega)) rfl rfl (by simp only [go_sem]) (by first | assumption | kernel_rfl) rfl rfl (by (simp only [List.map_append, List.append_nil, go_sem]) <;> rfl) (by (simp only [pkh, wkO, cInts_ren, go_sem]) <;> rfl) ?_ ?_)
 ·rintro _ _ ⟨_, _, _, _, _, rfl, rfl⟩; rfl
 rintro _ _ ⟨seen2, hse2, hsb2, p2, hp2, rfl, rfl⟩
 (simp only [aInts, aSets, wkO, cInts_up, List.append_nil, List.nil_append, List.length_map, go_sem]; refine hK1 _ ?_; clear hK1 K1)
 obtain ⟨N, hNd⟩ : ∃ N, N = ordN R.length p2 := ⟨_, rfl⟩
 rw [← hNd]
 have hNm : ∀ v, v ∈ N ↔ v ∈ tg R F e := fun v => by
  rw [hNd, mem_ordN]
  constructor
  ·rintro ⟨h5, h6⟩; exact (hp2 v h5).1 h6
  ·intro h6
   have h5 : v < R.length := by
    obtain ⟨s, h7, h8⟩ := mem_tg.1 h6
    obtain ⟨a, ha, _, rfl⟩ := mem_tgR.1 h8
    have h9 := hF s h7
    rw [List.getD_eq_getElem?_getD, List.getElem?_eq_getElem h9, Option.getD_some] at ha
    have := hbd _ (List.getElem_mem h9) a ha
    omega
   exact ⟨h5, (hp2 v h5).2 h6⟩
 have hNl : N.length ≤ R.length := by
  rw [hNd]; unfold ordN
  exact Nat.le_trans (List.length_filter_le _ _) (by simp)
 have hNb : ∀ v ∈ N, v < R.length := fun v hv => by rw [hNd, mem_ordN] at hv; exact hv.1
 have htk2 : (tInts (N.map Int.ofNat)).take N.length = tInts (N.map Int.ofNat) := List.take_of_length_le (by rw [tInts_len, List.length_map]; exact Nat.le_refl _)
 (refine lst_le (le_frz (r := ⟨3, 1, true, cInts (N.map Int.ofNat)⟩) 2 (tInts (N.map Int.ofNat)) rfl (fz_c _) (show 0 < (1 : Nat) by omega)) ?_; simp only [ST.frz, A0.frz, AV.frz, C.frz, Nat.le_refl, List.set_cons_zero, List.set_cons_succ, go_sem, tInts_len, List.length_map, htk2])
 (refine wk0 ?_;(repeat clear hK K);repeat refine kq fun K hK=>?_)
 (refine lst_cons rfl ?_; intro K1 hK1; refine stp_callσ (ids := []) [0, 1] (wreach_fc R true N hlo hn hr hNb (by omega) seen2 (rd + 1) hse2 hsb2 (by omega) (by omega)) rfl rfl (by simp only [go_sem]) (by first | assumption | kernel_rfl) rfl rfl (by (simp only [List.map_append, List.append_nil, go_sem]) <;> rfl) (by (simp only [pkh, wkO, cInts_ren, go_sem]) <;> rfl) ?_ ?_)
 ·rintro _ _ ⟨_, _, _, _, _, rfl, rfl⟩; rfl
 rintro _ _ ⟨seen3, hse3, hsb3, p3, hp3, rfl, rfl⟩
 (simp only [aInts, aSets, wkO, cInts_up, List.append_nil, List.nil_append, List.length_map, go_sem]; refine hK1 _ ?_; clear hK1 K1)
 (refine wk0 ?_;(repeat clear hK K);repeat refine kq fun K hK=>?_)
 ((try refine aw_ret ?_); (try simp only [ThenA, InBl]); refine ret_le (le_pick [0, 1, 3] rfl rfl) ?_; (try simp only [List.set_nil, List.take_nil, List.take_zero, List.map_append, go_sem]); ((try refine aw_ret ?_); (try refine lst_nil ?_); (try simp only [ThenA, InBl]); refine ret_mk (by first | exact .inl rfl | exact .inr rfl) rfl ?_; simp only [rtn, resA, resL, resV, Tryz.results97, go_sem, true_and, and_true, cInts_ren, wkO]))
 exact ⟨seen3, hse3, fun x h => by have := hsb3 x h; omega, p3, fun u hu => by rw [hp3 u hu]; simp only [hNm], rfl, rfl⟩
def wAr (R : List (List Ar)) (s e : Int) (L : List Int) : Prop := (arrOk R s e = false ∧ L = []) ∨ (arrOk R s e = true ∧ wArr R s.toNat e L)
theorem wAr_len {R : List (List Ar)} {s e : Int} {L : List Int} (h : wAr R s e L) : L.length ≤ R.length := by
 rcases h with ⟨_, rfl⟩ | ⟨_, h⟩
 ·simp
 ·exact wArr_len h
theorem wArr_un {R : List (List Ar)} {s : Nat} {e : Int} {L M : List Int} (h1 : wArr R s e L) (h2 : wArr R s e M) : L = M := by
 obtain ⟨B, hB, rfl, hBw⟩ := h1
 obtain ⟨C, hC, rfl, hCw⟩ := h2
 unfold rL
 congr 1
 refine List.filter_congr fun u hu => ?_
 have hu2 : u < R.length := by simpa using hu
 rw [Bool.eq_iff_iff, hBw u hu2, hCw u hu2]
theorem wAr_uniq {R : List (List Ar)} {s e : Int} {L M : List Int} (h1 : wAr R s e L) (h2 : wAr R s e M) : L = M := by
 rcases h1 with ⟨h, rfl⟩ | ⟨h, h3⟩
 ·rcases h2 with ⟨_, rfl⟩ | ⟨h4, _⟩
  ·rfl
  ·rw [h] at h4; cases h4
 ·rcases h2 with ⟨h4, rfl⟩ | ⟨_, h4⟩
  ·rw [h] at h4; cases h4
  ·exact wArr_un h3 h4
theorem wArr_ord {R : List (List Ar)} {s : Nat} {e : Int} {p : Nat → Bool} (h : ∀ u, u < R.length → (p u = true ↔ WA R s e u)) : wArr R s e ((ordN R.length p).map Int.ofNat) := by
 refine ⟨(List.range R.length).map p, by simp, ?_, fun u hu => ?_⟩
 ·unfold rL ordN
  congr 1
  refine List.filter_congr fun u hu => ?_
  have hu2 : u < R.length := by simpa using hu
  unfold seenB
  rw [List.getD_eq_getElem?_getD, List.getElem?_map, List.getElem?_range hu2]
  rfl
 ·rw [← h u hu]
  unfold seenB
  rw [List.getD_eq_getElem?_getD, List.getElem?_map, List.getElem?_range hu]
  rfl
set_option maxHeartbeats 4000000 in
theorem gaft_fc (R : List (List Ar)) (s e : Int) (hn : R.length ≤ 1000000) (hr : ∀ r ∈ R, r.length ≤ 1000000) : FC Tryz.prog 67 [aLts R, .a (.c (.t 1 (tInts [s]))), .i e] [] (fun r o => o = [] ∧ ∃ L, wAr R s e L ∧ r = aInts L) := by
 refine fc_intro Tryz.func67 rfl (by rw [Tryz.ntmps67]; simp) ?_
 rw [Tryz.ntmps67]
 simp only [enum, aLts]
 by_cases h3 : e < 0
 ·have c3 : decide (e < 0) = true := decide_eq_true h3
  have hok : arrOk R s e = false := by unfold arrOk; rw [decide_eq_false (show ¬ (0 ≤ e) by omega)]; simp
  (refine wk1 @c3 ?_;(repeat clear hK K);repeat refine kq fun K hK=>?_)
  refine cxz ?_
  (refine wk0 ?_;(repeat clear hK K);repeat refine kq fun K hK=>?_)
  refine aw_le (le_nilt 6 1 ?_) ?_
  ·simp only [go_sem]
  refine rp0 [] Tryz.results67 ?_
  exact ⟨[], .inl ⟨hok, rfl⟩, by simp only [aInts, tInts_nil]⟩
 ·have c3 : decide (e < 0) = false := decide_eq_false h3
  by_cases h4 : e > 1025
  ·have c4 : decide (e > 1025) = true := decide_eq_true h4
   have hok : arrOk R s e = false := by unfold arrOk; rw [decide_eq_false (show ¬ (e ≤ 1025) by omega)]; simp
   (refine wk1 (an @c3 @c4) ?_;(repeat clear hK K);repeat refine kq fun K hK=>?_)
   refine cxz ?_
   (refine wk0 ?_;(repeat clear hK K);repeat refine kq fun K hK=>?_)
   refine aw_le (le_nilt 6 1 ?_) ?_
   ·simp only [go_sem]
   refine rp0 [] Tryz.results67 ?_
   exact ⟨[], .inl ⟨hok, rfl⟩, by simp only [aInts, tInts_nil]⟩
  ·have c4 : decide (e > 1025) = false := decide_eq_false h4
   (refine wk1 (an @c3 @c4) ?_;(repeat clear hK K);repeat refine kq fun K hK=>?_)
   (refine lst_goU rfl rfl (by simp only [go_sem] <;> rfl) ?_; intro K1 hK1; refine (stp_call0 (ids := []) (gsts_fc R [s] hn hr (by simp)) rfl rfl (by simp only [go_sem]) (by kernel_rfl) (by (simp only [List.append_nil, go_sem]) <;> rfl) ?_).stp)
   rintro _ _ ⟨rfl, rfl⟩
   (refine bkz ?_; clear hK1 K1)
   cases hst : (valB R && !([s].any fun s => !stN R s)) with
   | false =>
    have hok : arrOk R s e = false := by
     unfold arrOk
     simp only [List.any_cons, List.any_nil, Bool.or_false, Bool.not_not, stN] at hst
     rw [Bool.and_assoc (valB R), hst]; rfl
    (refine wk1 @Bool.not_false ?_;(repeat clear hK K);repeat refine kq fun K hK=>?_)
    refine cxz ?_
    (refine wk0 ?_;(repeat clear hK K);repeat refine kq fun K hK=>?_)
    refine aw_le (le_nilt 6 1 ?_) ?_
    ·simp only [go_sem]
    refine rp0 [] Tryz.results67 ?_
    exact ⟨[], .inl ⟨hok, rfl⟩, by simp only [aInts, tInts_nil]⟩
   | true =>
    simp only [List.any_cons, List.any_nil, Bool.or_false, Bool.not_not, stN, Bool.and_eq_true, decide_eq_true_eq] at hst
    obtain ⟨hv, h1, h2⟩ := hst
    have hok : arrOk R s e = true := by unfold arrOk; rw [hv, decide_eq_true h1, decide_eq_true h2, decide_eq_true (show 0 ≤ e by omega), decide_eq_true (show e ≤ 1025 by omega)]; rfl
    have hlo : looB R = true := decide_eq_true (of_decide_eq_true hv).1
    obtain ⟨sn, hsn⟩ : ∃ sn : Nat, s = (sn : Int) := ⟨s.toNat, by omega⟩
    subst hsn
    have hsl : sn < R.length := by omega
    (refine wk1 @Bool.not_true ?_;(repeat clear hK K);repeat refine kq fun K hK=>?_)
    refine cyz ?_
    (refine wk0 ?_;(repeat clear hK K);repeat refine kq fun K hK=>?_)
    (refine ckz (fnew_fc R hn) ?_; intro K1 hK1)
    rintro _ _ ⟨rfl, rfl⟩
    (simp only [aInts, aSets, wkO, cInts_up, List.append_nil, List.nil_append, List.length_map, go_sem]; refine hK1 _ ?_; clear hK1 K1)
    (refine wk0 ?_;(repeat clear hK K);repeat refine kq fun K hK=>?_)
    (refine lst_cons rfl ?_; intro K1 hK1; refine stp_callσ (ids := []) [1, 2] (wreach_fc R true [sn] hlo hn hr (by simpa using hsl) (by simp) (List.replicate R.length 0) 0 (by simp) (fun x h => by have := List.eq_of_mem_replicate h; omega) (by omega) (by omega)) rfl rfl (by simp only [go_sem]) (by first | assumption | kernel_rfl) rfl rfl (by (simp only [List.map_append, List.append_nil, go_sem]) <;> rfl) (by (simp only [pkh, wkO, cInts_ren, go_sem]) <;> rfl) ?_ ?_)
    ·rintro _ _ ⟨_, _, _, _, _, rfl, rfl⟩; rfl
    rintro _ _ ⟨seen, hse, hsb, p, hp, rfl, rfl⟩
    (simp only [aInts, aSets, wkO, cInts_up, List.append_nil, List.nil_append, List.length_map, go_sem]; refine hK1 _ ?_; clear hK1 K1)
    obtain ⟨M, hMd⟩ : ∃ M, M = ordN R.length p := ⟨_, rfl⟩
    have hM : reS R sn M := ⟨p, fun u hu => by rw [hp u hu]; simp, hMd⟩
    rw [← hMd]
    have hMl := reS_lt hM
    have htk : (tInts (M.map Int.ofNat)).take M.length = tInts (M.map Int.ofNat) := List.take_of_length_le (by rw [tInts_len, List.length_map]; exact Nat.le_refl _)
    by_cases he : e = 0
    ·have d0 : (e == 0) = true := by simp [he]
     (refine wk1 @d0 ?_;(repeat clear hK K);repeat refine kq fun K hK=>?_)
     refine cxz ?_
     (refine wk0 ?_;(repeat clear hK K);repeat refine kq fun K hK=>?_)
     ((try refine aw_ret ?_); (try simp only [ThenA, InBl]); refine ret_le (le_frz (r := ⟨3, 1, true, cInts (M.map Int.ofNat)⟩) 3 (tInts (M.map Int.ofNat)) rfl (fz_c _) (show 0 < (1 : Nat) by omega)) ?_; refine ret_le (le_pick [] rfl rfl) ?_; simp only [ST.frz, A0.frz, AV.frz, C.frz, Nat.le_refl, List.set_cons_zero, List.set_cons_succ, go_sem, tInts_len, List.length_map, htk]; (try simp only [List.set_nil, List.take_nil, List.take_zero, List.map_append, go_sem]); ((try refine aw_ret ?_); (try refine lst_nil ?_); (try simp only [ThenA, InBl]); refine ret_mk (by first | exact .inl rfl | exact .inr rfl) rfl ?_; simp only [rtn, resA, resL, resV, Tryz.results67, go_sem, true_and, and_true, tInts_len, List.length_map, htk]))
     refine ⟨_, .inr ⟨hok, ?_⟩, rfl⟩
     rw [hMd, Int.toNat_natCast]
     exact wArr_ord fun u hu => by rw [hp u hu]; unfold WA; simp [he]
    ·have d0 : (e == 0) = false := by simpa using he
     (refine wk1 @d0 ?_;(repeat clear hK K);repeat refine kq fun K hK=>?_)
     refine cyz ?_
     (refine aw_le (le_frz (r := ⟨3, 1, true, cInts (M.map Int.ofNat)⟩) 3 (tInts (M.map Int.ofNat)) rfl (fz_c _) (show 0 < (1 : Nat) by omega)) ?_; simp only [ST.frz, A0.frz, AV.frz, C.frz, Nat.le_refl, List.set_cons_zero, List.set_cons_succ, go_sem, tInts_len, List.length_map, htk])
     (refine wk0 ?_;(repeat clear hK K);repeat refine kq fun K hK=>?_)
     (refine lst_cons rfl ?_; intro K1 hK1; refine stp_callσ (ids := []) [1, 2] (waft_fc R M e hlo hn hr hMl.1 (by omega) seen 1 hse (fun x h => by have := hsb x h; omega) (by omega) (by omega)) rfl rfl (by simp only [go_sem]) (by first | assumption | kernel_rfl) rfl rfl (by (simp only [List.map_append, List.append_nil, go_sem]) <;> rfl) (by (simp only [pkh, wkO, cInts_ren, go_sem]) <;> rfl) ?_ ?_)
     ·rintro _ _ ⟨_, _, _, _, _, rfl, rfl⟩; rfl
     rintro _ _ ⟨seen2, hse2, hsb2, p2, hp2, rfl, rfl⟩
     (simp only [aInts, aSets, wkO, cInts_up, List.append_nil, List.nil_append, List.length_map, go_sem]; refine hK1 _ ?_; clear hK1 K1)
     obtain ⟨N, hNd⟩ : ∃ N, N = ordN R.length p2 := ⟨_, rfl⟩
     rw [← hNd]
     have htk2 : (tInts (N.map Int.ofNat)).take N.length = tInts (N.map Int.ofNat) := List.take_of_length_le (by rw [tInts_len, List.length_map]; exact Nat.le_refl _)
     (refine wk0 ?_;(repeat clear hK K);repeat refine kq fun K hK=>?_)
     ((try refine aw_ret ?_); (try simp only [ThenA, InBl]); refine ret_le (le_frz (r := ⟨3, 1, true, cInts (N.map Int.ofNat)⟩) 4 (tInts (N.map Int.ofNat)) rfl (fz_c _) (show 0 < (1 : Nat) by omega)) ?_; refine ret_le (le_pick [] rfl rfl) ?_; simp only [ST.frz, A0.frz, AV.frz, C.frz, Nat.le_refl, List.set_cons_zero, List.set_cons_succ, go_sem, tInts_len, List.length_map, htk2]; (try simp only [List.set_nil, List.take_nil, List.take_zero, List.map_append, go_sem]); ((try refine aw_ret ?_); (try refine lst_nil ?_); (try simp only [ThenA, InBl]); refine ret_mk (by first | exact .inl rfl | exact .inr rfl) rfl ?_; simp only [rtn, resA, resL, resV, Tryz.results67, go_sem, true_and, and_true, tInts_len, List.length_map, htk2]))
     refine ⟨_, .inr ⟨hok, ?_⟩, rfl⟩
     rw [hNd, Int.toNat_natCast]
     refine wArr_ord fun u hu => ?_
     rw [hp2 u hu]
     unfold WA
     have hMm : ∀ v, v ∈ M ↔ v < R.length ∧ Rc (Adj true R) sn v := fun v => by
      rw [hMd, mem_ordN]
      constructor
      ·rintro ⟨h5, h6⟩; exact ⟨h5, by have := (hp v h5).1 h6; simpa using this⟩
      ·rintro ⟨h5, h6⟩; exact ⟨h5, (hp v h5).2 (by simpa using h6)⟩
     constructor
     ·rintro ⟨v, h5, h6⟩
      obtain ⟨t, h7, h8⟩ := mem_tg.1 h5
      obtain ⟨a, ha, hae, rfl⟩ := mem_tgR.1 h8
      exact .inr ⟨he, t, ((hMm t).1 h7).2, a, ha, hae, h6⟩
     ·rintro (⟨h5, _⟩ | ⟨_, t, h5, a, ha, hae, h6⟩)
      ·exact absurd h5 he
      ·have hsr := h5.lt hsl (adj_lt true hlo)
       exact ⟨a.2.toNat, mem_tg.2 ⟨t, (hMm t).2 ⟨hsr, h5⟩, mem_tgR.2 ⟨a, ha, hae, rfl⟩⟩, h6⟩
theorem wka_fc (R : List (List Ar)) (s e : Int) (hn : R.length ≤ 1000000) (hr : ∀ r ∈ R, r.length ≤ 1000000) : FC Tryz.prog 39 [aLts R, .i s, .i e] [] (fun r o => o = [] ∧ ∃ L, wAr R s e L ∧ r = aInts L) := by
 refine fc_intro Tryz.func39 rfl (by rw [Tryz.ntmps39]; simp) ?_
 rw [Tryz.ntmps39]
 simp only [enum, aLts]
 (refine wk0 ?_;(repeat clear hK K);repeat refine kq fun K hK=>?_)
 (refine lst_le (le_frz (r := ⟨3, 1, true, cInts [s]⟩) 1 (tInts [s]) rfl (fz_c _) (show 0 < (1 : Nat) by omega)) ?_; simp only [ST.frz, A0.frz, AV.frz, C.frz, Nat.le_refl, List.set_cons_zero, List.set_cons_succ, go_sem, show (tInts [s]).take 1 = tInts [s] from rfl])
 (refine wk0 ?_;(repeat clear hK K);repeat refine kq fun K hK=>?_)
 (refine ckz (gaft_fc R s e hn hr) ?_; intro K1 hK1)
 rintro _ _ ⟨rfl, L, hL, rfl⟩
 (refine bkz ?_; clear hK1 K1)
 (refine wk0 ?_;(repeat clear hK K);repeat refine kq fun K hK=>?_)
 refine rp0 [] Tryz.results39 ?_
 exact ⟨L, hL, rfl⟩
set_option maxHeartbeats 4000000 in
theorem rwka_fc (R : List (List Ar)) (s e : Int) (hn : R.length ≤ 1000000) (hr : ∀ r ∈ R, r.length ≤ 1000000) : FC Tryz.prog 40 [aLts R, .i s, .i e] [] (fun r o => o = [] ∧ ∃ L, wAr R s e L ∧ r = aInts L) := by
 cases hok : arrOk R s e with
 | true =>
  have hok2 := hok
  unfold arrOk at hok2
  simp only [Bool.and_eq_true, decide_eq_true_eq] at hok2
  obtain ⟨⟨⟨⟨hv, h1⟩, h2⟩, h3⟩, h4⟩ := hok2
  obtain ⟨sn, hsn⟩ : ∃ sn : Nat, s = (sn : Int) := ⟨s.toNat, by omega⟩
  subst hsn
  exact (warr_fc R sn e hv (by omega) h3 h4 hn hr).mono fun r o ⟨L, hL, h5, h6⟩ => ⟨h5, L, .inr ⟨hok, by rw [Int.toNat_natCast]; exact hL⟩, h6⟩
 | false =>
  refine fc_intro Tryz.func40 rfl (by rw [Tryz.ntmps40]; simp) ?_
  rw [Tryz.ntmps40]
  simp only [enum, aLts]
  by_cases hv : valB R = true
  ·by_cases h1 : 0 ≤ s
   ·have c1 : decide (s < 0) = false := decide_eq_false (by omega)
    by_cases h2 : s < (R.length : Int)
    ·have c2 : decide (s ≥ (R.length : Int)) = false := decide_eq_false (by omega)
     by_cases h3 : 0 ≤ e
     ·have c3 : decide (e < 0) = false := decide_eq_false (by omega)
      have h4 := arrOk_no hok hv h1 h2 h3
      have c4 : decide (e > 1025) = true := decide_eq_true (by omega)
      (refine wk0 ?_;(repeat clear hK K);repeat refine kq fun K hK=>?_)
      (refine ckz (validR_fc R (by omega) (fun r h => by have := hr r h; omega)) ?_; intro K1 hK1)
      rintro _ _ ⟨rfl, rfl⟩
      (refine bkz ?_; clear hK1 K1)
      (refine wk1 (an @hv (an @Bool.not_true (an @c1 (an @c2 (an @c3 (an @c4 @tRows_len)))))) ?_;(repeat clear hK K);repeat refine kq fun K hK=>?_)
      refine cxz ?_
      (refine wk0 ?_;(repeat clear hK K);repeat refine kq fun K hK=>?_)
      refine aw_le (le_nilt 6 1 ?_) ?_
      ·simp only [go_sem]
      refine rp0 [] Tryz.results40 ?_
      exact ⟨[], .inl ⟨hok, rfl⟩, by simp only [aInts, tInts_nil]⟩
     ·have c3 : decide (e < 0) = true := decide_eq_true (by omega)
      (refine wk0 ?_;(repeat clear hK K);repeat refine kq fun K hK=>?_)
      (refine ckz (validR_fc R (by omega) (fun r h => by have := hr r h; omega)) ?_; intro K1 hK1)
      rintro _ _ ⟨rfl, rfl⟩
      (refine bkz ?_; clear hK1 K1)
      (refine wk1 (an @hv (an @Bool.not_true (an @c1 (an @c2 (an @c3 @tRows_len))))) ?_;(repeat clear hK K);repeat refine kq fun K hK=>?_)
      refine cxz ?_
      (refine wk0 ?_;(repeat clear hK K);repeat refine kq fun K hK=>?_)
      refine aw_le (le_nilt 6 1 ?_) ?_
      ·simp only [go_sem]
      refine rp0 [] Tryz.results40 ?_
      exact ⟨[], .inl ⟨hok, rfl⟩, by simp only [aInts, tInts_nil]⟩
    ·have c2 : decide (s ≥ (R.length : Int)) = true := decide_eq_true (by omega)
     (refine wk0 ?_;(repeat clear hK K);repeat refine kq fun K hK=>?_)
     (refine ckz (validR_fc R (by omega) (fun r h => by have := hr r h; omega)) ?_; intro K1 hK1)
     rintro _ _ ⟨rfl, rfl⟩
     (refine bkz ?_; clear hK1 K1)
     (refine wk1 (an @hv (an @Bool.not_true (an @c1 (an @c2 @tRows_len)))) ?_;(repeat clear hK K);repeat refine kq fun K hK=>?_)
     refine cxz ?_
     (refine wk0 ?_;(repeat clear hK K);repeat refine kq fun K hK=>?_)
     refine aw_le (le_nilt 6 1 ?_) ?_
     ·simp only [go_sem]
     refine rp0 [] Tryz.results40 ?_
     exact ⟨[], .inl ⟨hok, rfl⟩, by simp only [aInts, tInts_nil]⟩
   ·have c1 : decide (s < 0) = true := decide_eq_true (by omega)
    (refine wk0 ?_;(repeat clear hK K);repeat refine kq fun K hK=>?_)
    (refine ckz (validR_fc R (by omega) (fun r h => by have := hr r h; omega)) ?_; intro K1 hK1)
    rintro _ _ ⟨rfl, rfl⟩
    (refine bkz ?_; clear hK1 K1)
    (refine wk1 (an @hv (an @Bool.not_true (an @c1 @tRows_len))) ?_;(repeat clear hK K);repeat refine kq fun K hK=>?_)
    refine cxz ?_
    (refine wk0 ?_;(repeat clear hK K);repeat refine kq fun K hK=>?_)
    refine aw_le (le_nilt 6 1 ?_) ?_
    ·simp only [go_sem]
    refine rp0 [] Tryz.results40 ?_
    exact ⟨[], .inl ⟨hok, rfl⟩, by simp only [aInts, tInts_nil]⟩
  ·have hv2 : valB R = false := by simpa using hv
   (refine wk0 ?_;(repeat clear hK K);repeat refine kq fun K hK=>?_)
   (refine ckz (validR_fc R (by omega) (fun r h => by have := hr r h; omega)) ?_; intro K1 hK1)
   rintro _ _ ⟨rfl, rfl⟩
   (refine bkz ?_; clear hK1 K1)
   (refine wk1 (an @hv2 (an @Bool.not_false @tRows_len)) ?_;(repeat clear hK K);repeat refine kq fun K hK=>?_)
   refine cxz ?_
   (refine wk0 ?_;(repeat clear hK K);repeat refine kq fun K hK=>?_)
   refine aw_le (le_nilt 6 1 ?_) ?_
   ·simp only [go_sem]
   refine rp0 [] Tryz.results40 ?_
   exact ⟨[], .inl ⟨hok, rfl⟩, by simp only [aInts, tInts_nil]⟩
end Go.Proofs.YtglchakimolfdaaGreatDoor
