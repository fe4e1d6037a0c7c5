/- Lemmas. -/
import Derived.Test.YtjijjfkalheokaaDoorG67
import Derived.Test.YtjijjfkalheokaaDoorG45
import Derived.Test.YtjijjfkalheokaaDoorTj1
import Derived.Test.YtjijjfkalheokaaDoorMD
import Derived.Shelf.SlSortCmp.Kit1
import Derived.Test.YtjijjfkalheokaaDoorMF
import Derived.Test.YtjijjfkalheokaaDoorShlfS
import Derived.Shelf.Sort.Plain
import Derived.Shelf.Slices.In.SortNone
import Derived.Test.YtjijjfkalheokaaDoorZk
import Derived.Test.YtjijjfkalheokaaDoorG42
import Derived.Test.YtjijjfkalheokaaDoorMG
namespace Go.Proofs.YtjijjfkalheokaaDoor
set_option linter.unusedVariables false
set_option linter.unusedSimpArgs false
open Go.RowKit
set_option maxRecDepth 100000
attribute [local go_sem] lga C.pl C.one

def rL (n : Nat) (B : List Bool) : List Int := ((List.range n).filter (Dr B)).map Int.ofNat
theorem Rm (n : Nat) (B : List Bool) : (rL n B).length <= n := by
 unfold rL
 rw [List.length_map]
 have := List.length_filter_le (Dr B) (List.range n)
 rwa [List.length_range] at this
structure Fw (E : Nat -> List Nat) (n : Nat) (F : List Nat) (rd : Int) (seen : List Int) (out : List Nat) : Prop where
 len : seen.length = n
 st : ∀ u, u < n -> (seen.getD u 0 = rd ↔ u ∈ out)
 nd : out.Nodup
 lt : ∀ u ∈ out, u < n
 snd : ∀ u ∈ out, ∃ v ∈ F, Rc E v u
 bd : ∀ x ∈ seen, x <= rd
variable {E : Nat -> List Nat} {n : Nat} {F : List Nat} {rd : Int} {seen : List Int} {out : List Nat}
theorem Fw.start (h : seen.length = n) (hb : ∀ x ∈ seen, x < rd) : Fw E n F rd seen [] :=
 ⟨h, fun u hu => ⟨fun e => by
  rw [gE2, gE1 (by omega), Option.getD_some] at e
  have := hb _ (gE6 (show u < seen.length by omega)); omega, fun h => by simp at h⟩, List.nodup_nil, fun u h => by simp at h, fun u h => by simp at h, fun x h => by have := hb x h; omega⟩
theorem Fw.push (h : Fw E n F rd seen out) {u : Nat} (hu : u < n) (hn : seen.getD u 0 ≠ rd) (hs : ∃ v ∈ F, Rc E v u) : Fw E n F rd (seen.set u rd) (out ++ [u]) := by
 have hno : u ∉ out := fun hm => hn ((h.st u hu).2 hm)
 refine ⟨by rw [List.length_set]; exact h.len, fun w hw => ?_, ?_, fun w hw => ?_, fun w hw => ?_, fun x hx => ?_⟩
 rotate_left
 ·exact List.nodup_append.2 ⟨h.nd, by simp, fun a ha b hb => by simp at hb; subst hb; exact fun e => hno (e ▸ ha)⟩
 ·rcases List.mem_append.1 hw with h1 | h1
  ·exact h.lt w h1
  simp at h1; omega
 ·rcases List.mem_append.1 hw with h1 | h1
  ·exact h.snd w h1
  simp at h1; subst h1; exact hs
 ·rcases List.mem_or_eq_of_mem_set hx with h1 | h1
  ·exact h.bd x h1
  omega
 rw [gE2, List.getElem?_set]
 by_cases e : u = w
 ·subst e
  rw [if_pos rfl, if_pos (by rw [h.len]; exact hw)]
  simp
 rw [if_neg e, <- gE2, h.st w hw]
 simp [Ne.symm e]
theorem Fw.mem (h : Fw E n F rd seen out) {u : Nat} (hu : u < n) (hs : seen.getD u 0 = rd) : u ∈ out := (h.st u hu).1 hs
theorem Jn : ∀ (n : Nat) (l : List Nat), l.Nodup -> (∀ u ∈ l, u < n) -> l.length <= n := by
 intro n
 induction n with
 | zero => intro l _ h; cases l with
  | nil => simp
  | cons a r => have := h a (by simp); omega
 | succ n ih =>
  intro l hn hl
  have h1 : (l.erase n).length <= n := ih _ (hn.erase n) fun u hu => by
   have h2 := (List.Nodup.mem_erase_iff hn).1 hu
   have := hl u h2.2
   omega
  have := List.length_erase (a := n) (l := l)
  split at this <;> omega
theorem Fw.le (h : Fw E n F rd seen out) : out.length <= n := Jn n out h.nd h.lt
theorem Fw.done (h : Fw E n F rd seen out) (hF : ∀ v ∈ F, v ∈ out) (hc : ∀ u ∈ out, ∀ w ∈ E u, w ∈ out) (u : Nat) : u ∈ out ↔ ∃ v ∈ F, Rc E v u := by
 refine ⟨h.snd u, fun ⟨v, hv, hr⟩ => ?_⟩
 induction hr with
 | refl => exact hF v hv
 | tail _ he ih => exact hc _ (ih ⟨v, hv, ‹_›⟩) _ he
def Gt (n : Nat) (p : Nat -> Bool) : List Nat := (List.range n).filter p
theorem Ij (n : Nat) (p : Nat -> Bool) : (Gt n p).Pairwise (· < ·) := List.Pairwise.filter _ List.pairwise_lt_range
theorem Cf {n : Nat} {p : Nat -> Bool} {u : Nat} : u ∈ Gt n p ↔ u < n /\ p u = true := by simp [Gt]
theorem OP : ∀ {l m : List Nat}, l.Pairwise (· < ·) -> m.Pairwise (· < ·) -> (∀ a, a ∈ l ↔ a ∈ m) -> l = m
 | [], [], _, _, _ => rfl
 | [], b :: m, _, _, h => by have := (h b).2 (by simp); simp at this
 | a :: l, [], _, _, h => by have := (h a).1 (by simp); simp at this
 | a :: l, b :: m, hl, hm, h => by
  have hl' := List.pairwise_cons.1 hl
  have hm' := List.pairwise_cons.1 hm
  have hab : a = b := by
   rcases List.mem_cons.1 ((h a).1 (by simp)) with e | e
   ·exact e
   ·rcases List.mem_cons.1 ((h b).2 (by simp)) with e' | e'
    ·exact e'.symm
    ·have h1 := hm'.1 a e
     have h2 := hl'.1 b e'
     omega
  subst hab
  congr 1
  refine OP hl'.2 hm'.2 fun c => ⟨fun hc => ?_, fun hc => ?_⟩
  ·rcases List.mem_cons.1 ((h c).1 (gEf _ hc)) with e | e
   ·subst e; have := hl'.1 c hc; omega
   ·exact e
  ·rcases List.mem_cons.1 ((h c).2 (gEf _ hc)) with e | e
   ·subst e; have := hm'.1 c hc; omega
   ·exact e
theorem NK {l m : List Nat} {p : Nat -> Bool} (hp : m.Perm l) (hs : m.Pairwise (· <= ·)) (hn : l.Nodup) (hl : ∀ u, u ∈ l ↔ u < n /\ p u = true) : m = Gt n p := by
 have hm : m.Nodup := hp.symm.nodup hn
 refine OP ?_ (Ij n p) fun a => by rw [hp.mem_iff, hl, Cf]
 refine List.Pairwise.imp (fun h => by omega) (List.Pairwise.and hs hm)
theorem NM {r : List (Int × Int)} {k : Nat} {a : Int × Int} (h0 : ∀ j b, j < k + 1 -> r[j]? = some b -> b.1 = 0) (hk : r[k]? = some a) : a ∈ r.takeWhile fun a => a.1 == 0 := by
 induction r generalizing k with
 | nil => simp at hk
 | cons b r ih =>
  have hb := h0 0 b (by omega) rfl
  rw [List.takeWhile_cons, if_pos (by simp [hb])]
  cases k with
  | zero => simp at hk; subst hk; simp
  | succ k => exact gEf _ (ih (k := k) (fun j c hj hc => h0 (j + 1) c (by omega) (by simpa using hc)) (by simpa using hk))
theorem Jo {r : List (Int × Int)} {k : Nat} {t : Bool} {a : Int × Int} (h0 : t = true -> ∀ j b, j < k + 1 -> r[j]? = some b -> b.1 = 0) (hk : r[k]? = some a) : a ∈ Bm t r := by
 unfold Bm
 split
 rotate_left
 ·exact gE9 hk
 rename_i ht
 exact NM (h0 ht) hk
theorem Kn {r : List (Int × Int)} {k : Nat} (h0 : ∀ j a, j < k -> r[j]? = some a -> a.1 = 0) (h1 : ∀ a, r[k]? = some a -> a.1 ≠ 0) : Bm true r = r.take k := by
 unfold Bm
 rw [if_pos rfl]
 induction r generalizing k with
 | nil => simp
 | cons a r ih =>
  cases k with
  | zero =>
   have := h1 a rfl
   simp [List.takeWhile_cons, this]
  | succ k =>
   have := h0 0 a (by omega) rfl
   rw [List.takeWhile_cons, if_pos (by simp [this]), List.take_succ_cons, ih (k := k) (fun j b hj hb => h0 (j + 1) b (by omega) (by simpa using hb)) (fun b hb => h1 b (by simpa using hb))]
end Go.Proofs.YtjijjfkalheokaaDoor
namespace Go.Proofs.YtjijjfkalheokaaDoor
set_option linter.unusedVariables false
set_option linter.unusedSimpArgs false
open Go.RowKit Go.Shelf Go.Sort
set_option maxRecDepth 100000

section
variable {α : Type} [Inhabited α] {enc : α -> Value} {w : World} {blk off m : Nat} {dk : Array α} {os : Array Obj}
theorem Ik : w.heap.size <= (sortWorld enc w blk off m dk os).heap.size := by
 simp [sortWorld, grow, putRow, mapBlock, Sort.ahead]
theorem Jp {k : Nat} (hk : k < w.heap.size) (hne : k ≠ blk) : (sortWorld enc w blk off m dk os).heap[k]? = w.heap[k]? := by
 simp only [sortWorld, grow, putRow, mapBlock, Sort.ahead]
 rw [Array.getElem?_append_left (by simpa using hk), Array.getElem?_modify, if_neg (Ne.symm hne)]
theorem PP {arr : Array Value} {e : TypeId} {fz : Nat × Nat} (h : w.heap[blk]? = some (.cells arr e fz)) : (sortWorld enc w blk off m dk os).heap[blk]? = some (.cells (putCells enc off dk arr) e fz) := by
 have hk := (Array.getElem?_eq_some_iff.1 h).1
 simp only [sortWorld, grow, putRow, mapBlock, Sort.ahead]
 rw [Array.getElem?_append_left (by simpa using hk), Array.getElem?_modify, if_pos rfl, h]
 rfl
theorem Sp {M : Nat -> Prop} (hM : M blk) : Fp M w (sortWorld enc w blk off m dk os) :=
 ⟨rfl, rfl, rfl, Ik, fun k hk hm => Jp hk (fun e => hm (e ▸ hM)), by simp [sortWorld, grow, putRow, mapBlock, Sort.ahead]⟩
end
theorem PQ {t : Tr} {k : Nat × Nat} {cs : List Tr} : C.ofTr t ≠ .o k cs := by cases t <;> simp [C.ofTr]
theorem UQ {g : Gh} {α0 : Type} {tr : α0 -> Tr} {e : TypeId} {L : List α0} {ℓ : Loc} : Lv [.r ⟨e, 1, true, L.map fun x => C.ofTr (tr x)⟩] g ℓ ↔ ℓ = .ob 0 /\ g.κ 0 ≠ 0 := by
 cases ℓ with
 | ob id =>
  constructor
  rotate_left
  ·rintro ⟨h1, h2⟩
   cases h1
   exact .inl ⟨_, rfl, h2⟩
  rintro (⟨r, h1, h2⟩ | ⟨kv, h1⟩)
  rotate_left
  ·cases id with
   | zero => simp at h1
   | succ i => simp at h1
  cases id with
  | zero => exact ⟨rfl, h2⟩
  | succ i => simp at h1
 | cl id j =>
  constructor
  rotate_left
  ·rintro ⟨h1, h2⟩; cases h1
  rintro ⟨r, k, cs, h1, h2, h3⟩
  cases id with
  | zero =>
   simp at h1; subst h1
   rw [List.getElem?_map, Option.map_eq_some_iff] at h2
   obtain ⟨x, _, h2⟩ := h2
   exact absurd h2 PQ
  | succ i => simp at h1
def UR (x : Int) : Tr := .v (.int .i64 x)
theorem Jq (L : List Int) (hsz : L.length <= 100000000) : FC Tryd.prog 69 [.a (.c (.s 0 L.length))] [.r ⟨3, 1, true, A5 L⟩] (fun r o => r = .u /\ ∃ L' : List Int, L'.Perm L /\ L'.Pairwise (fun a b => a <= b) /\ o = [.r ⟨3, 1, true, A5 L'⟩]) := by
 intro g w vals hr hargs
 obtain ⟨hlen, hargs⟩ := hargs
 obtain ⟨v1, e1, b1, b2, A, rfl, b4, b5⟩ := hargs 0 _ rfl
 have hvals : vals = [.slice A L.length (g.κ 0)] := by
  match vals, hlen with
  | [a], _ => simp at e1; simp [e1]
 subst hvals
 have lvI : ∀ {L : List Int} {ℓ : Loc}, Lv [.r ⟨3, 1, true, A5 L⟩] g ℓ ↔ ℓ = .ob 0 /\ g.κ 0 ≠ 0 := fun {L ℓ} => UQ (tr := UR) (L := L)
 rcases hr.row 0 _ rfl with ⟨h0, hnil⟩ | ⟨h0, hne, arr, ha, hle, hs, hmx, hcells⟩
 ·have hL0 : L = [] := by
   have h : A5 L = [] := hnil
   simpa [A5] using h
  subst hL0
  refine (Any.slices_Sort_int_none Tryd.sortInts A (g.κ 0) w).mono ?_
  rintro e' w' ⟨rfl, rfl⟩
  exact ⟨.tuple #[], .u, _, g, rfl, ⟨rfl, [], List.Perm.refl _, List.Pairwise.nil, rfl⟩, hr, ⟨Nat.le_refl _, Ext.refl _ _⟩, fun ℓ hl => .inl ⟨ℓ, hl, rfl⟩, trivial, Fp.refl _ _⟩
 rw [b4 h0] at *
 have hblk : g.γ (.ob 0) < w.heap.size := (Array.getElem?_eq_some_iff.1 ha).1
 have hOw : Ow [.r ⟨3, 1, true, A5 L⟩] g (g.γ (.ob 0)) := .inr ⟨.ob 0, lvI.2 ⟨rfl, h0⟩, rfl⟩
 have hle' : L.length <= arr.size := by simpa [A2] using hle
 have hget : ∀ j (hj : j < L.length), arr[j]? = some (.int .i64 L[j]) := by
  intro j hj
  obtain ⟨u, u1, u2⟩ := hcells j (.v (.int .i64 L[j])) (Ak (gE1 hj))
  rw [u1, show u = .int .i64 L[j] from u2]
 have hH : Holds (Value.int .i64) w (g.γ (.ob 0)) 0 L.toArray := by
  intro j hj
  simp only [List.size_toArray] at hj
  constructor
  rotate_left
  ·simp [World.frozen?, ha]
  rw [Nat.zero_add, cell_of_row w _ j arr _ (0, 0) ha, hget j hj, getElem!_pos _ j (by simpa using hj)]
  simp
 refine (Any.slices_Sort_int Tryd.sortInts (g.γ (.ob 0)) 0 (g.κ 0) L w hH hblk (by omega)).mono ?_
 rintro e' w' ⟨rfl, m, os, rfl⟩
 obtain ⟨L', hL'⟩ : ∃ L', L' = L.mergeSort fun x y => decide (x <= y) := ⟨_, rfl⟩
 have hperm : L'.Perm L := by rw [hL']; exact List.mergeSort_perm _ _
 have hsort : L'.Pairwise (fun a b => a <= b) := by
  rw [hL']
  have := List.pairwise_mergeSort (le := fun x y : Int => decide (x <= y)) (fun a b c h1 h2 => by simp at *; omega) (fun a b => by simp; omega) L
  exact this.imp fun h => by simpa using h
 rw [<- hL']
 have hll := hperm.length_eq
 show N3 _ _ _ _ _ (sortWorld (Value.int .i64) w (g.γ (.ob 0)) 0 m L'.toArray os)
 refine ⟨.tuple #[], .u, _, g, rfl, ⟨rfl, L', hperm, hsort, rfl⟩, ?_, ⟨Nat.le_refl _, Ext.refl _ _⟩, fun ℓ hl => .inl ⟨ℓ, lvI.2 (lvI.1 hl), rfl⟩, trivial, Sp ⟨.ob 0, lvI.2 ⟨rfl, h0⟩, rfl⟩⟩
 refine ⟨fun b hb => Nat.lt_of_lt_of_le (hr.ml b hb) Ik, fun ℓ hl => hr.md ℓ (lvI.2 (lvI.1 hl)), fun ℓ ℓ' hl hl' => hr.inj ℓ ℓ' (lvI.2 (lvI.1 hl)) (lvI.2 (lvI.1 hl')), fun id r hid => ?_, fun id r hid => ?_, hr.gl.keep Ik (fun k hk hn => Jp hk (fun e => hn (e ▸ hOw))) (fun k _ hk => hk.imp (fun h => h) (fun ⟨ℓ, hl, e⟩ => ⟨ℓ, lvI.2 (lvI.1 hl), e⟩))⟩
 rotate_left
 ·cases id with
  | zero => simp at hid
  | succ i => simp at hid
 cases id with
 | succ i => simp at hid
 | zero =>
  simp at hid
  subst hid
  refine .inr ⟨h0, fun _ hn => ?_, _, PP ha, ?_, ?_, hmx, fun j c hj => ?_⟩
  ·have h1 : L' = [] := by simpa [A5] using hn
   rw [h1] at hll
   have h2 : L = [] := List.length_eq_zero_iff.1 hll.symm
   exact hne rfl (by simp [h2, A5])
  ·simp only [A2, putCells, Array.size_mapIdx]; omega
  ·simpa [putCells] using hs
  have hjl : j < L'.length := by have := (List.getElem?_eq_some_iff.1 hj).1; rw [A2] at this; exact this
  have hc : c = .v (.int .i64 L'[j]) := by
   rw [Ak (gE1 hjl)] at hj
   exact (Option.some.inj hj).symm
  subst hc
  refine ⟨.int .i64 L'[j], ?_, rfl⟩
  unfold putCells
  rw [Array.getElem?_mapIdx, gEd (by omega)]
  simp [hjl]
open Go.RowKit
attribute [local go_sem] lga C.pl C.one
def US (R : List (List Ar)) (id : Nat) (rd : Int) : Ob := .r ⟨113, 3, false, [.t 1 (Ae R), .s id R.length, .v (.int .i64 rd)]⟩
theorem PR (R : List (List Ar)) (hn : R.length <= 1000000) : FC Tryd.prog 45 [BS R] [] (fun r o => o = [US R 1 0, .r ⟨3, 1, true, A5 (List.replicate R.length 0)⟩] /\ r = .a (.c (.p 0 0))) := by
 refine A8 Tryd.func45 rfl (by rw [Tryd.ntmps45]; simp) ?_
 rw [Tryd.ntmps45]
 simp only [Bs, BS]
 (refine Ud ?_;(repeat clear hK K);repeat refine kq fun K hK=>?_)
 (refine B7 [] (.m 1 0 0 (.m 0 1 6 (.m 2 1 4 (.m 3 0 0 (.a 4 (.m 5 0 0 (.a 6 (.a 7 .e)))))))) (by kernel_rfl) (by kernel_rfl) (by intro c st h; simp [Ai, AX, Tz] at h) ?_)
 (refine Ug @A6 ?_; repeat clear hK K)
 (refine U4 rfl rfl ?_; intro K1 hK1; refine BW rfl ?_; simp only [go_sem, A6]; (first | refine hK1 _ ?_ | refine AE (hK1 _ ?_)); clear hK1 K1)
 (refine Uf ?_; repeat clear hK K)
 (refine U4 rfl rfl ?_; intro K1 hK1; refine BW rfl ?_; simp only [go_sem]; (first | refine hK1 _ ?_ | refine AE (hK1 _ ?_)); clear hK1 K1)
 (refine Uf ?_; repeat clear hK K)
 (refine U5 rfl rfl rfl rfl ?_; intro K1 hK1; refine Ba rfl ?_; simp only [go_sem]; (first | refine hK1 _ ?_ | refine AE (hK1 _ ?_)); clear hK1 K1)
 refine CA ⟨by simp, by simp, ?_⟩
 (try simp only [Ai, AX])
 refine hK _ ?_
 clear hK K
 have e0 : List.replicate R.length (C.v (.int .i64 0)) = A5 (List.replicate R.length 0) := by simp [A5]
 rw [e0]
 (refine Ud ?_;(repeat clear hK K);repeat refine kq fun K hK=>?_)
 ((try refine AU ?_); (try simp only [Ai, AX]); refine BQ (Ad [2, 1] rfl rfl) ?_; (try simp only [List.set_nil, List.take_nil, List.take_zero, List.map_append, go_sem]); ((try refine AU ?_); (try refine Ab ?_); (try simp only [Ai, AX]); refine C6 (by first | exact .inl rfl | exact .inr rfl) rfl ?_; simp only [TC, GQ, FD, Hb, Tryd.results45, go_sem, true_and, and_true, A7, US]))
def UT : List Ar -> Bool
 | [] => true
 | a :: _ => a.1 != 0
theorem Hy (R : List (List Ar)) (s : Nat) (h : s < R.length) (hn : R.length <= 1000000) (hr : ∀ r ∈ R, r.length <= 1000000) : FC Tryd.prog 17 [BS R, .i s] [] (fun r o => o = [] /\ r = .b (UT R[s])) := by
 refine A8 Tryd.func17 rfl (by rw [Tryd.ntmps17]; simp) ?_
 rw [Tryd.ntmps17]
 simp only [Bs, BS]
 have hg := gE1 h
 have hrl := hr _ (gE6 h)
 generalize R[s] = row at *
 by_cases h0 : row.length = 0
 ·have d0 : ((row.length : Int) == 0) = true := by simp [h0]
  (refine Ue (an @A6 (an (AQ hg) (an @A4 (an @AA @d0)))) ?_;(repeat clear hK K);repeat refine kq fun K hK=>?_)
  refine Uo [] Tryd.results17 ?_
  have : row = [] := List.length_eq_zero_iff.1 h0
  subst this; rfl
 have d0 : ((row.length : Int) == 0) = false := by simp; intro e; simp [e] at h0
 have h1 : 0 < row.length := by omega
 have hc : (Al row)[Int.toNat 0 * 2]? = some (.v (.int .i64 row[0].1)) := J6 h1
 (refine Ue (an @A6 (an (AQ hg) (an @A4 (an @AA (an @d0 @hc))))) ?_;(repeat clear hK K);repeat refine kq fun K hK=>?_)
 refine Uo [] Tryd.results17 ?_
 cases row with
 | nil => exact absurd rfl h0
 | cons a q => rfl
set_option maxHeartbeats 8000000 in
theorem LP (R : List (List Ar)) (t : Bool) (F : List Nat) (hlo : Br R = true) (hn : R.length <= 1000000) (hr : ∀ r ∈ R, r.length <= 1000000) (hF : ∀ v ∈ F, v < R.length) (hFl : F.length <= 1000000) (seen : List Int) (rd : Int) (hs : seen.length = R.length) (hb : ∀ x ∈ seen, x <= rd) (h0 : 0 <= rd) (h1 : rd <= 1000000000) :
  FC Tryd.prog 46 [.a (.c (.p 0 0)), .a (.c (.t 1 (Af (F.map Int.ofNat)))), .b t] [US R 1 rd, .r ⟨3, 1, true, A5 seen⟩] (fun r o => ∃ seen' : List Int, seen'.length = R.length /\ (∀ x ∈ seen', x <= rd + 1) /\ ∃ p : Nat -> Bool, (∀ u, u < R.length -> (p u = true ↔ ∃ v ∈ F, Rc (Uy t R) v u)) /\ o = [US R 1 (rd + 1), .r ⟨3, 1, true, A5 seen'⟩, .r ⟨3, 1, true, A5 ((Gt R.length p).map Int.ofNat)⟩] /\ r = .a (.c (.s 2 (Gt R.length p).length))) := by
 refine A8 Tryd.func46 rfl (by rw [Tryd.ntmps46]; simp) ?_
 rw [Tryd.ntmps46]
 simp only [Bs, US]
 have hbd := (gE4 hlo).2.2.2
 have hFl2 : (F.map Int.ofNat).length = F.length := by simp
 (refine CY (an @A3 @hFl2) ?_;(repeat clear hK K);repeat refine kq fun K hK=>?_)
 refine B1 (CK 7 3 1 ?_) ?_
 ·simp only [go_sem]
 refine Ac (fun x : Nat × List Int × List Nat => { tm := [(0, .a (.c (.p 0 0))), (2, .b t), (7, .a (.c (.s 2 x.2.2.length))), (20, .a (.c (.t 1 (Af (F.map Int.ofNat))))), (21, .i F.length), (22, .i x.1)], hp := [.r ⟨113, 3, false, [.t 1 (Ae R), .s 1 R.length, .v (.int .i64 (rd + 1))]⟩, .r ⟨3, 1, true, A5 x.2.1⟩, .r ⟨3, 1, true, A5 (x.2.2.map Int.ofNat)⟩], n := 114, pin := 2 }) (fun x => x.1 <= F.length /\ Fw (Uy t R) R.length F (rd + 1) x.2.1 x.2.2 /\ ∀ v ∈ F.take x.1, v ∈ x.2.2) (fun x => F.length - x.1) (0, seen, []) ?_ ?_ ?_
 ·exact ⟨by simp, Fw.start hs (fun x hx => by have := hb x hx; omega), by simp⟩
 ·exact Un
 rintro ⟨k, sn, out⟩ ⟨hk, hW, hT⟩ K hK
 simp only at hk hW hT
 have hsl := hW.len
 have hol := hW.le
 by_cases hlt : k < F.length
 ·have d1 : decide ((k : Int) < (F.length : Int)) = true := by simpa using hlt
  have gF : (Af (F.map Int.ofNat))[k]? = some (.v (.int .i64 (F[k] : Int))) := Ap (by rw [List.getElem?_map, gE1 hlt]; rfl)
  have hul := hF _ (gE6 hlt)
  have hFk := gE6 hlt
  have hTk : F.take (k + 1) = F.take k ++ [F[k]] := gE8 hlt
  generalize F[k] = u at *
  have gs : (A5 sn)[u]? = some (.v (.int .i64 sn[u])) := Ak (gE1 (by omega))
  have gd : sn.getD u 0 = sn[u] := by rw [gE2, gE1 (by omega)]; rfl
  (refine Ue @d1 ?_;(repeat clear hK K);repeat refine kq fun K hK=>?_)
  refine Uk ?_
  by_cases hq : sn[u] = rd + 1
  ·have d2 : (sn[u] != rd + 1) = false := by rw [hq]; simp
   have hmem := hW.mem hul (by rw [gd, hq])
   (refine Ue (an @gF (an @A3 @hFl2)) ?_;(repeat clear hK K);repeat refine kq fun K hK=>?_)
   (refine Ag 11 [(0, 0), (1, 0), (2, 0), (3, 1), (4, 0), (5, 0), (6, 1), (7, 0), (8, 0), (9, 0), (10, 1), (11, 2)] (by kernel_rfl) (by kernel_rfl) (by intro c st h; simp [Ai, AX, Tz] at h) ?_)
   (refine Ua (an @gs (an @A2 (an @hsl @d2))) ?_; repeat clear hK K)
   refine Ul ?_
   (refine Ud ?_;(repeat clear hK K);repeat refine kq fun K hK=>?_)
   refine Um ?_
   refine hK _ (k + 1, sn, out) ⟨by simp only; omega, hW, fun v hv => ?_⟩ (by simp only; omega) ?_
   rotate_left
   ·exact Un
   simp only at hv
   rw [hTk] at hv
   rcases List.mem_append.1 hv with h | h
   ·exact hT v h
   simp at h; subst h; exact hmem
  have d2 : (sn[u] != rd + 1) = true := by simpa using hq
  have hW2 := hW.push hul (by rw [gd]; exact hq) ⟨u, hFk, .refl _⟩
  have op1 := Gn out u []
  simp only [List.append_nil] at op1
  (refine Ue (an @gF (an @A3 @hFl2)) ?_;(repeat clear hK K);repeat refine kq fun K hK=>?_)
  (refine Ag 11 [(0, 0), (1, 0), (2, 0), (3, 1), (4, 0), (5, 0), (6, 1), (7, 0), (8, 0), (9, 0), (10, 1), (11, 2)] (by kernel_rfl) (by kernel_rfl) (by intro c st h; simp [Ai, AX, Tz] at h) ?_)
  (refine Ua (an @gs (an @A2 (an @hsl @d2))) ?_; repeat clear hK K)
  refine Uk ?_
  (refine Ud ?_;(repeat clear hK K);repeat refine kq fun K hK=>?_)
  (refine Ag 10 [(0, 0), (1, 0), (2, 0), (3, 1), (4, 0), (5, 0), (6, 0), (7, 0), (8, 1), (9, 0), (10, 2)] (by kernel_rfl) (by kernel_rfl) (by intro c st h; simp [Ai, AX, Tz] at h) ?_)
  (refine Sm (an @A2 (an @hsl @AL)) ?_; repeat clear hK K)
  (refine Ue (an @A2 (an @List.length_map.{0, 0} (an @op1 @Nat.le_refl))) ?_;(repeat clear hK K);repeat refine kq fun K hK=>?_)
  refine Um ?_
  refine hK _ (k + 1, sn.set u (rd + 1), out ++ [u]) ⟨by simp only; omega, hW2, fun v hv => ?_⟩ (by simp only; omega) ?_
  ·simp only at hv
   rw [hTk] at hv
   rcases List.mem_append.1 hv with h | h
   ·exact List.mem_append_left _ (hT v h)
   simp at h; subst h; simp
  refine Le.trans (Ad [0, 1, 4] rfl rfl) ?_
  (try simp only [List.set_nil, List.take_nil, List.take_zero, List.map_append, go_sem])
  (try simp only [A7])
  simp only [List.length_append, List.length_cons, List.length_nil]
  exact Un
 have d1 : decide ((k : Int) < (F.length : Int)) = false := by simpa using hlt
 have hT2 : ∀ v ∈ F, v ∈ out := fun v hv => hT v (by rw [gE7 (by omega)]; exact hv)
 clear hT
 (refine Ue @d1 ?_;(repeat clear hK K);repeat refine kq fun K hK=>?_)
 refine Ul ?_
 (refine Uh ?_;repeat clear hK K)
 (refine Ud ?_;(repeat clear hK K);repeat refine kq fun K hK=>?_)
 refine Ac (fun x : Nat × List Int × List Nat => { tm := [(0, .a (.c (.p 0 0))), (2, .b t), (7, .a (.c (.s 2 x.2.2.length))), (10, .i x.1)], hp := [.r ⟨113, 3, false, [.t 1 (Ae R), .s 1 R.length, .v (.int .i64 (rd + 1))]⟩, .r ⟨3, 1, true, A5 x.2.1⟩, .r ⟨3, 1, true, A5 (x.2.2.map Int.ofNat)⟩], n := 114, pin := 2 }) (fun x => x.1 <= x.2.2.length /\ Fw (Uy t R) R.length F (rd + 1) x.2.1 x.2.2 /\ (∀ v ∈ F, v ∈ x.2.2) /\ ∀ (j u : Nat), j < x.1 -> x.2.2[j]? = some u -> ∀ w ∈ Uy t R u, w ∈ x.2.2) (fun x => R.length - x.1) (0, sn, out) ?_ ?_ ?_
 ·exact ⟨by simp, hW, hT2, by simp⟩
 ·exact Un
 clear hW hT2 hsl hol hk hlt d1
 clear out sn
 rintro ⟨i, sn, out⟩ ⟨hi, hW, hT, hC⟩ K hK
 simp only at hi hW hT hC
 have hsl := hW.len
 have hol := hW.le
 by_cases hlt : i < out.length
 rotate_left
 ·have d1 : decide ((i : Int) < (out.length : Int)) = false := by simpa using hlt
  obtain ⟨p, hp⟩ : ∃ p : Nat -> Bool, p = fun u => decide (u ∈ out) := ⟨_, rfl⟩
  have hdone := hW.done hT (fun u hu w hw => by
   obtain ⟨j, hj⟩ := List.getElem?_of_mem hu
   exact hC j u (by have := (List.getElem?_eq_some_iff.1 hj).1; omega) hj w hw)
  have hlm : (out.map Int.ofNat).length = out.length := by simp
  (refine Ue (an @d1 (an @A2 @List.length_map.{0, 0})) ?_;(repeat clear hK K);repeat refine kq fun K hK=>?_)
  refine Ul ?_
  (refine Uh ?_;repeat clear hK K)
  rw [<- hlm]
  (refine Ud ?_;(repeat clear hK K);repeat refine kq fun K hK=>?_)
  (refine A9 rfl ?_; intro K1 hK1; refine As (ids := []) [2] (Jq (out.map Int.ofNat) (by rw [hlm]; omega)) rfl rfl (by simp only [go_sem]) (by first | assumption | kernel_rfl) rfl rfl (by (simp only [List.map_append, List.append_nil, go_sem]) <;> rfl) (by (simp only [Tx, A7, go_sem]) <;> rfl) ?_ ?_)
  ·rintro _ _ ⟨rfl, L', _, _, rfl⟩; rfl
  rintro _ _ ⟨rfl, L', hperm, hsort, rfl⟩
  (simp only [AK, CB, Bw, List.append_nil, List.nil_append, List.length_map, go_sem]; refine hK1 _ ?_; clear hK1 K1)
  have hLo : L' = (Gt R.length p).map Int.ofNat := by
   obtain ⟨m, hm⟩ : ∃ m : List Nat, L' = m.map Int.ofNat := by
    refine ⟨L'.map Int.toNat, ?_⟩
    rw [List.map_map]
    refine (List.map_id L').symm.trans (List.map_congr_left fun x hx => ?_)
    have h := (hperm.mem_iff).1 hx
    obtain ⟨y, _, rfl⟩ := List.mem_map.1 h
    rfl
   subst hm
   have hp2 : m.Perm out := by
    have := hperm.map Int.toNat
    simpa [List.map_map, Function.comp_def] using this
   have hs2 : m.Pairwise (· <= ·) := by
    rw [List.pairwise_map] at hsort
    exact hsort.imp fun h => by simpa using h
   rw [NK (p := p) hp2 hs2 hW.nd (fun u => ⟨fun h => ⟨hW.lt u h, by rw [hp]; simpa using h⟩, fun h => by have := h.2; rw [hp] at this; simpa using this⟩)]
  have hll : out.length = (Gt R.length p).length := by have h := hperm.length_eq; rw [hLo] at h; simpa using h.symm
  rw [hll, hLo]
  (refine Ud ?_;(repeat clear hK K);repeat refine kq fun K hK=>?_)
  ((try refine AU ?_); (try simp only [Ai, AX]); refine BQ (Ad [0, 1, 2] rfl rfl) ?_; (try simp only [List.set_nil, List.take_nil, List.take_zero, List.map_append, go_sem]); ((try refine AU ?_); (try refine Ab ?_); (try simp only [Ai, AX]); refine C6 (by first | exact .inl rfl | exact .inr rfl) rfl ?_; simp only [TC, GQ, FD, Hb, Tryd.results46, go_sem, true_and, and_true, A7, US]))
  exact ⟨sn, hsl, hW.bd, p, fun u hu => by rw [<- hdone u, hp]; simp, rfl, rfl⟩
 have d1 : decide ((i : Int) < (out.length : Int)) = true := by simpa using hlt
 have go : (A5 (out.map Int.ofNat))[i]? = some (.v (.int .i64 (out[i] : Int))) := Ak (by rw [List.getElem?_map, gE1 hlt]; rfl)
 have hul := hW.lt _ (gE6 hlt)
 have hsu := hW.snd _ (gE6 hlt)
 have hoi : out[i]? = some out[i] := gE1 hlt
 generalize out[i] = u at *
 have hgR := gE1 hul
 have hrl := hr _ (gE6 hul)
 have hbr := hbd _ (gE6 hul)
 have hAu : Uy t R u = (Bm t R[u]).map fun a => a.2.toNat := by
  unfold Uy; rw [gE2, hgR]; rfl
 generalize hrr : R[u] = row at *
 have hKo := hK
 (refine Ue (an @d1 (an @A2 @List.length_map.{0, 0})) ?_;(repeat clear hK K);repeat refine kq fun K hK=>?_)
 refine Uk ?_
 (refine Ud ?_;(repeat clear hK K);repeat refine kq fun K hK=>?_)
 (refine Ag 11 [(0, 0), (1, 0), (2, 0), (3, 0), (4, 1), (5, 0), (6, 0), (7, 0), (8, 1), (9, 0), (10, 1), (12, 0), (11, 2)] (by kernel_rfl) (by kernel_rfl) (by intro c st h; simp [Ai, AX, Tz] at h) ?_)
 (refine Ua (an @A6 (an (AQ hgR) (an @A2 (an @List.length_map.{0, 0} (an @go (an @A4 @AA)))))) ?_; repeat clear hK K)
 (refine Ud ?_;(repeat clear hK K);repeat refine kq fun K hK=>?_)
 refine Ac (fun x : Nat × List Int × List Nat => { tm := [(0, .a (.c (.p 0 0))), (2, .b t), (7, .a (.c (.s 2 x.2.2.length))), (10, .i i), (69, .a (.c (.t 2 (Al row)))), (70, .i row.length), (71, .i x.1)], hp := [.r ⟨113, 3, false, [.t 1 (Ae R), .s 1 R.length, .v (.int .i64 (rd + 1))]⟩, .r ⟨3, 1, true, A5 x.2.1⟩, .r ⟨3, 1, true, A5 (x.2.2.map Int.ofNat)⟩], n := 114, pin := 2 }) (fun x => x.1 <= row.length /\ Fw (Uy t R) R.length F (rd + 1) x.2.1 x.2.2 /\ (∃ l, x.2.2 = out ++ l) /\ (t = true -> ∀ j a, j < x.1 -> row[j]? = some a -> a.1 = 0) /\ ∀ a ∈ row.take x.1, a.2.toNat ∈ x.2.2) (fun x => row.length - x.1) (0, sn, out) ?_ ?_ ?_
 ·exact ⟨by simp, hW, ⟨[], by simp⟩, by simp, by simp⟩
 ·exact Un
 have fin : ∀ (sn1 : List Int) (out1 : List Nat), Fw (Uy t R) R.length F (rd + 1) sn1 out1 -> (∃ l, out1 = out ++ l) -> (∀ a ∈ Bm t row, a.2.toNat ∈ out1) -> (i + 1 <= out1.length /\ Fw (Uy t R) R.length F (rd + 1) sn1 out1 /\ (∀ v ∈ F, v ∈ out1) /\ ∀ (j u : Nat), j < i + 1 -> out1[j]? = some u -> ∀ w ∈ Uy t R u, w ∈ out1) := by
  rintro sn1 out1 q1 ⟨l, rfl⟩ q3
  refine ⟨by simp; omega, q1, fun v hv => List.mem_append_left _ (hT v hv), fun j x hj hx w hw => ?_⟩
  rw [gEa (by omega)] at hx
  by_cases e : j = i
  rotate_left
  ·exact List.mem_append_left _ (hC j x (by omega) hx w hw)
  subst e
  rw [hoi] at hx; cases hx
  rw [hAu] at hw
  obtain ⟨a, ha, rfl⟩ := List.mem_map.1 hw
  exact q3 a ha
 rintro ⟨k, sn1, out1⟩ ⟨hk, hW1, hl1, hz, hT1⟩ K hK
 simp only at hk hW1 hl1 hz hT1
 have hsl1 := hW1.len
 have hol1 := hW1.le
 by_cases hlt2 : k < row.length
 rotate_left
 ·have d2 : decide ((k : Int) < (row.length : Int)) = false := by simpa using hlt2
  (refine Ue @d2 ?_;(repeat clear hK K);repeat refine kq fun K hK=>?_)
  refine Ul ?_
  (refine Uh ?_;repeat clear hK K)
  (refine Ud ?_;(repeat clear hK K);repeat refine kq fun K hK=>?_)
  refine Um ?_
  refine hKo _ (i + 1, sn1, out1) (fin sn1 out1 hW1 hl1 (fun a ha => ?_)) (by simp only; omega) ?_
  rotate_left
  ·exact Un
  refine hT1 a ?_
  rw [gE7 (by omega)]
  unfold Bm at ha
  split at ha
  ·exact (List.takeWhile_sublist _).subset ha
  exact ha
 have d2 : decide ((k : Int) < (row.length : Int)) = true := by simpa using hlt2
 have hat := AH hlt2
 have hb2 := hbr _ (gE6 hlt2)
 have hrk : row[k]? = some row[k] := gE1 hlt2
 have hTk : row.take (k + 1) = row.take k ++ [row[k]] := gE8 hlt2
 generalize row[k] = a at *
 obtain ⟨e, tn, rfl⟩ : ∃ (e : Int) (tn : Nat), a = (e, (tn : Int)) := ⟨a.1, a.2.toNat, by
  have : (a.2.toNat : Int) = a.2 := by omega
  rw [this]⟩
 simp only at hb2
 have htn : tn < R.length := by omega
 by_cases hst : t = true /\ e ≠ 0
 ·obtain ⟨ht, he⟩ := hst
  subst ht
  have d3 : (e != 0) = true := by simpa using he
  (refine Ue @d2 ?_;(repeat clear hK K);repeat refine kq fun K hK=>?_)
  refine Uk ?_
  (refine CY (an @hat (an @A4 (an @AA @d3))) ?_;(repeat clear hK K);repeat refine kq fun K hK=>?_)
  refine Uk ?_
  (refine Uh ?_;repeat clear hK K)
  (refine Ud ?_;(repeat clear hK K);repeat refine kq fun K hK=>?_)
  refine Um ?_
  refine hKo _ (i + 1, sn1, out1) (fin sn1 out1 hW1 hl1 (fun a ha => ?_)) (by simp only; omega) ?_
  ·rw [Kn (hz rfl) (fun b hb => by rw [hrk] at hb; cases hb; exact he)] at ha
   exact hT1 a ha
  refine Le.trans (Ad [0, 1, 2] rfl rfl) ?_
  (try simp only [List.set_nil, List.take_nil, List.take_zero, List.map_append, go_sem])
  (try simp only [A7])
  exact Un
 have hz2 : t = true -> ∀ j a, j < k + 1 -> row[j]? = some a -> a.1 = 0 := fun ht j a hj ha => by
  by_cases e2 : j = k
  rotate_left
  ·exact hz ht j a (by omega) ha
  subst e2
  rw [hrk] at ha; cases ha
  exact Decidable.byContradiction fun h => hst ⟨ht, h⟩
 have gs : (A5 sn1)[tn]? = some (.v (.int .i64 sn1[tn])) := Ak (gE1 (by omega))
 have gd : sn1.getD tn 0 = sn1[tn] := by rw [gE2, gE1 (by omega)]; rfl
 cases t with
 | false =>
  (refine Ue @d2 ?_;(repeat clear hK K);repeat refine kq fun K hK=>?_)
  refine Uk ?_
  (refine CY (an @hat (an @A4 @AA)) ?_;(repeat clear hK K);repeat refine kq fun K hK=>?_)
  refine Ul ?_
  by_cases hq : sn1[tn] = rd + 1
  ·have d4 : (sn1[tn] != rd + 1) = false := by rw [hq]; simp
   have hmem := hW1.mem htn (by rw [gd, hq])
   (refine Ud ?_;(repeat clear hK K);repeat refine kq fun K hK=>?_)
   (refine Ag 12 [(0, 0), (1, 0), (2, 0), (3, 1), (4, 0), (5, 1), (6, 0), (7, 1), (8, 0), (9, 0), (10, 0), (11, 1), (12, 2)] (by kernel_rfl) (by kernel_rfl) (by intro c st h; simp [Ai, AX, Tz] at h) ?_)
   (refine Ua (an @gs (an @A2 (an @hsl1 @d4))) ?_; repeat clear hK K)
   refine Ul ?_
   (refine Ud ?_;(repeat clear hK K);repeat refine kq fun K hK=>?_)
   refine Um ?_
   refine hK _ (k + 1, sn1, out1) ⟨by simp only; omega, hW1, hl1, hz2, fun a ha => ?_⟩ (by simp only; omega) ?_
   ·simp only at ha
    rw [hTk] at ha
    rcases List.mem_append.1 ha with h | h
    ·exact hT1 a h
    simp at h; subst h; simpa using hmem
   refine Le.trans (Ad [0, 1, 2] rfl rfl) ?_
   (try simp only [List.set_nil, List.take_nil, List.take_zero, List.map_append, go_sem])
   (try simp only [A7])
   exact Un
  have d4 : (sn1[tn] != rd + 1) = true := by simpa using hq
  obtain ⟨v, hv, hvu⟩ := hsu
  have hW2 := hW1.push htn (by rw [gd]; exact hq) ⟨v, hv, hvu.tail (by rw [hAu]; exact List.mem_map.2 ⟨(e, (tn : Int)), Jo hz2 hrk, by simp⟩)⟩
  have op1 := Gn out1 tn []
  simp only [List.append_nil] at op1
  (refine Ud ?_;(repeat clear hK K);repeat refine kq fun K hK=>?_)
  (refine Ag 12 [(0, 0), (1, 0), (2, 0), (3, 1), (4, 0), (5, 1), (6, 0), (7, 1), (8, 0), (9, 0), (10, 0), (11, 1), (12, 2)] (by kernel_rfl) (by kernel_rfl) (by intro c st h; simp [Ai, AX, Tz] at h) ?_)
  (refine Ua (an @gs (an @A2 (an @hsl1 @d4))) ?_; repeat clear hK K)
  refine Uk ?_
  (refine Ud ?_;(repeat clear hK K);repeat refine kq fun K hK=>?_)
  (refine Ag 11 [(0, 0), (1, 0), (2, 0), (3, 1), (4, 0), (5, 1), (6, 0), (7, 0), (8, 0), (9, 1), (10, 0), (11, 2)] (by kernel_rfl) (by kernel_rfl) (by intro c st h; simp [Ai, AX, Tz] at h) ?_)
  (refine Sm (an @A2 (an @hsl1 @AL)) ?_; repeat clear hK K)
  (refine Ue (an @A2 (an @List.length_map.{0, 0} (an @op1 @Nat.le_refl))) ?_;(repeat clear hK K);repeat refine kq fun K hK=>?_)
  refine Um ?_
  obtain ⟨l, hl⟩ := hl1
  refine hK _ (k + 1, sn1.set tn (rd + 1), out1 ++ [tn]) ⟨by simp only; omega, hW2, ⟨l ++ [tn], by simp only; rw [hl, List.append_assoc]⟩, hz2, fun a ha => ?_⟩ (by simp only; omega) ?_
  ·simp only at ha
   rw [hTk] at ha
   rcases List.mem_append.1 ha with h | h
   ·exact List.mem_append_left _ (hT1 a h)
   simp at h; subst h; simp
  refine Le.trans (Ad [0, 1, 5] rfl rfl) ?_
  (try simp only [List.set_nil, List.take_nil, List.take_zero, List.map_append, go_sem])
  (try simp only [A7])
  simp only [List.length_append, List.length_cons, List.length_nil]
  exact Un
 | true =>
  have d3 : (e != 0) = false := by
   have : e = 0 := Decidable.byContradiction fun h => hst ⟨rfl, h⟩
   simp [this]
  (refine Ue @d2 ?_;(repeat clear hK K);repeat refine kq fun K hK=>?_)
  refine Uk ?_
  (refine CY (an @hat (an @A4 (an @AA @d3))) ?_;(repeat clear hK K);repeat refine kq fun K hK=>?_)
  refine Ul ?_
  by_cases hq : sn1[tn] = rd + 1
  ·have d4 : (sn1[tn] != rd + 1) = false := by rw [hq]; simp
   have hmem := hW1.mem htn (by rw [gd, hq])
   (refine Ud ?_;(repeat clear hK K);repeat refine kq fun K hK=>?_)
   (refine Ag 12 [(0, 0), (1, 0), (2, 0), (3, 1), (4, 0), (5, 1), (6, 0), (7, 1), (8, 0), (9, 0), (10, 0), (11, 1), (12, 2)] (by kernel_rfl) (by kernel_rfl) (by intro c st h; simp [Ai, AX, Tz] at h) ?_)
   (refine Ua (an @gs (an @A2 (an @hsl1 @d4))) ?_; repeat clear hK K)
   refine Ul ?_
   (refine Ud ?_;(repeat clear hK K);repeat refine kq fun K hK=>?_)
   refine Um ?_
   refine hK _ (k + 1, sn1, out1) ⟨by simp only; omega, hW1, hl1, hz2, fun a ha => ?_⟩ (by simp only; omega) ?_
   ·simp only at ha
    rw [hTk] at ha
    rcases List.mem_append.1 ha with h | h
    ·exact hT1 a h
    simp at h; subst h; simpa using hmem
   refine Le.trans (Ad [0, 1, 2] rfl rfl) ?_
   (try simp only [List.set_nil, List.take_nil, List.take_zero, List.map_append, go_sem])
   (try simp only [A7])
   exact Un
  have d4 : (sn1[tn] != rd + 1) = true := by simpa using hq
  obtain ⟨v, hv, hvu⟩ := hsu
  have hW2 := hW1.push htn (by rw [gd]; exact hq) ⟨v, hv, hvu.tail (by rw [hAu]; exact List.mem_map.2 ⟨(e, (tn : Int)), Jo hz2 hrk, by simp⟩)⟩
  have op1 := Gn out1 tn []
  simp only [List.append_nil] at op1
  (refine Ud ?_;(repeat clear hK K);repeat refine kq fun K hK=>?_)
  (refine Ag 12 [(0, 0), (1, 0), (2, 0), (3, 1), (4, 0), (5, 1), (6, 0), (7, 1), (8, 0), (9, 0), (10, 0), (11, 1), (12, 2)] (by kernel_rfl) (by kernel_rfl) (by intro c st h; simp [Ai, AX, Tz] at h) ?_)
  (refine Ua (an @gs (an @A2 (an @hsl1 @d4))) ?_; repeat clear hK K)
  refine Uk ?_
  (refine Ud ?_;(repeat clear hK K);repeat refine kq fun K hK=>?_)
  (refine Ag 11 [(0, 0), (1, 0), (2, 0), (3, 1), (4, 0), (5, 1), (6, 0), (7, 0), (8, 0), (9, 1), (10, 0), (11, 2)] (by kernel_rfl) (by kernel_rfl) (by intro c st h; simp [Ai, AX, Tz] at h) ?_)
  (refine Sm (an @A2 (an @hsl1 @AL)) ?_; repeat clear hK K)
  (refine Ue (an @A2 (an @List.length_map.{0, 0} (an @op1 @Nat.le_refl))) ?_;(repeat clear hK K);repeat refine kq fun K hK=>?_)
  refine Um ?_
  obtain ⟨l, hl⟩ := hl1
  refine hK _ (k + 1, sn1.set tn (rd + 1), out1 ++ [tn]) ⟨by simp only; omega, hW2, ⟨l ++ [tn], by simp only; rw [hl, List.append_assoc]⟩, hz2, fun a ha => ?_⟩ (by simp only; omega) ?_
  ·simp only at ha
   rw [hTk] at ha
   rcases List.mem_append.1 ha with h | h
   ·exact List.mem_append_left _ (hT1 a h)
   simp at h; subst h; simp
  refine Le.trans (Ad [0, 1, 5] rfl rfl) ?_
  (try simp only [List.set_nil, List.take_nil, List.take_zero, List.map_append, go_sem])
  (try simp only [A7])
  simp only [List.length_append, List.length_cons, List.length_nil]
  exact Un
def UU (r : List Ar) (e : Int) : List Nat := (r.filter fun a => a.1 == e).map fun a => a.2.toNat
def tg (R : List (List Ar)) (F : List Nat) (e : Int) : List Nat := F.flatMap fun s => UU (R.getD s []) e
theorem LQ {r : List Ar} {e : Int} {u : Nat} : u ∈ UU r e ↔ ∃ a ∈ r, a.1 = e /\ a.2.toNat = u := by
 unfold UU
 rw [List.mem_map]
 constructor
 rotate_left
 ·rintro ⟨a, ha, he, rfl⟩
  exact ⟨a, List.mem_filter.2 ⟨ha, by simpa using he⟩, rfl⟩
 rintro ⟨a, ha, rfl⟩
 have := List.mem_filter.1 ha
 exact ⟨a, this.1, by simpa using this.2, rfl⟩
theorem OQ {R : List (List Ar)} {F : List Nat} {e : Int} {u : Nat} : u ∈ tg R F e ↔ ∃ s ∈ F, u ∈ UU (R.getD s []) e := by unfold tg; rw [List.mem_flatMap]
theorem OR {l : List Int} {n : Nat} (h : Ur l) (hb : ∀ x ∈ l, 0 <= x /\ x < (n : Int)) : l.length <= n := by
 have h1 : (l.map Int.toNat).Nodup := by
  unfold Ur at h
  rw [List.Nodup, List.pairwise_map]
  refine h.imp_of_mem fun {a b} ha hb2 hab e => ?_
  have := hb a ha
  have := hb b hb2
  omega
 have := Jn n (l.map Int.toNat) h1 fun u hu => by
  obtain ⟨x, hx, rfl⟩ := List.mem_map.1 hu
  have := hb x hx
  omega
 simpa using this
def WA (R : List (List Ar)) (s : Nat) (e : Int) (u : Nat) : Prop := (e = 0 /\ Rc (Uy true R) s u) \/ (e ≠ 0 /\ ∃ t, Rc (Uy true R) s t /\ ∃ a ∈ R.getD t [], a.1 = e /\ Rc (Uy true R) a.2.toNat u)
def T8 (R : List (List Ar)) (s : Nat) (e : Int) (L : List Int) : Prop := ∃ B : List Bool, B.length = R.length /\ L = rL R.length B /\ ∀ u, u < R.length -> (Dr B u = true ↔ WA R s e u)
theorem Sq {n : Nat} {B : List Bool} : ∀ x ∈ rL n B, 0 <= x /\ x < (n : Int) := fun x hx => by
 unfold rL at hx
 obtain ⟨u, hu, rfl⟩ := List.mem_map.1 hx
 have := (List.mem_filter.1 hu).1
 rw [List.mem_range] at this
 simp only [Int.ofNat_eq_natCast]; omega
def UV (R : List (List Ar)) (s : Int) : Bool := decide (0 <= s) && decide (s < (R.length : Int))
theorem Rn (R : List (List Ar)) (s : Int) : FC Tryd.prog 68 [BS R, .i s] [] (fun r o => o = [] /\ r = .b (UV R s)) := by
 refine A8 Tryd.func68 rfl (by rw [Tryd.ntmps68]; simp) ?_
 rw [Tryd.ntmps68]
 simp only [Bs, BS]
 by_cases h0 : 0 <= s
 rotate_left
 ·have c1 : decide (s >= 0) = false := decide_eq_false (by omega)
  have c2 : UV R s = false := by unfold UV; rw [decide_eq_false h0]; rfl
  (refine Ue (an @c1 @A6) ?_;(repeat clear hK K);repeat refine kq fun K hK=>?_)
  refine Uo [] Tryd.results68 ?_
  rw [c2]
 have c1 : decide (s >= 0) = true := gEg (by omega)
 have c2 : UV R s = decide (s < (R.length : Int)) := by unfold UV; rw [gEg h0]; rfl
 (refine Ue (an @c1 @A6) ?_;(repeat clear hK K);repeat refine kq fun K hK=>?_)
 refine Uo [] Tryd.results68 ?_
 rw [c2]
theorem PS (R : List (List Ar)) (s : Int) : FC Tryd.prog 67 [.i s, .a (.c (.p 0 0))] [.r ⟨24, 1, false, [Tr.l 1 (Ae R)].map C.ofTr⟩] (fun r o => o = [.r ⟨24, 1, false, [Tr.l 1 (Ae R)].map C.ofTr⟩] /\ r = .b (!UV R s)) := by
 refine A8 Tryd.func67 rfl (by rw [Tryd.ntmps67]; simp) ?_
 rw [Tryd.ntmps67]
 simp only [Bs]
 (refine Ud ?_;(repeat clear hK K);repeat refine kq fun K hK=>?_)
 (refine Ui (Rn R s) ?_; intro K1 hK1)
 rintro _ _ ⟨rfl, rfl⟩
 (refine Uj ?_; clear hK1 K1)
 (refine Ud ?_;(repeat clear hK K);repeat refine kq fun K hK=>?_)
 exact L9 Tryd.results67
theorem PU (R : List (List Ar)) (F : List Int) (hn : R.length <= 1000000) (hr : ∀ r ∈ R, r.length <= 1000000) (hF : F.length <= 1000000) : FC Tryd.prog 44 [BS R, AK F] [] (fun r o => o = [] /\ r = .b (Bg R && !F.any fun s => !UV R s)) := by
 refine A8 Tryd.func44 rfl (by rw [Tryd.ntmps44]; simp) ?_
 rw [Tryd.ntmps44]
 simp only [Bs, BS, AK]
 (refine Ud ?_;(repeat clear hK K);repeat refine kq fun K hK=>?_)
 (refine Ui (CC R (by omega) (fun r h => by have := hr r h; omega)) ?_; intro K1 hK1)
 rintro _ _ ⟨rfl, rfl⟩
 (refine Uj ?_; clear hK1 K1)
 cases hv : Bg R with
 | false =>
  (refine Ud ?_;(repeat clear hK K);repeat refine kq fun K hK=>?_)
  refine Uo [] Tryd.results44 ?_
  simp [hv]
 | true =>
  (refine Ud ?_;(repeat clear hK K);repeat refine kq fun K hK=>?_)
  (refine Dm rfl rfl (by simp only [go_sem] <;> rfl) ?_; intro K1 hK1; refine cs [0] (E2 F (fun s => !UV R s) 67 24 1 [Tr.l 1 (Ae R)] (by omega) (by kernel_rfl) (fun x _ => PS R x)) ?_ ?_)
  ·rintro _ _ ⟨rfl, rfl⟩; rfl
  rintro _ _ ⟨rfl, rfl⟩
  (refine Uj ?_; clear hK1 K1)
  (refine Ud ?_;(repeat clear hK K);repeat refine kq fun K hK=>?_)
  refine Uo [] Tryd.results44 ?_
  simp [hv]
set_option maxHeartbeats 2000000 in
theorem Ko (R : List (List Ar)) (t : Bool) (F : List Nat) (hv : Bg R = true) (hn : R.length <= 1000000) (hr : ∀ r ∈ R, r.length <= 1000000) (hF : ∀ v ∈ F, v < R.length) (hFl : F.length <= 1000000) :
  FC Tryd.prog 21 [BS R, AK (F.map Int.ofNat), .b t] [] (fun r o => ∃ p : Nat -> Bool, (∀ u, u < R.length -> (p u = true ↔ ∃ v ∈ F, Rc (Uy t R) v u)) /\ r = .a (.c (.s 0 (Gt R.length p).length)) /\ o = [.r ⟨3, 1, true, A5 ((Gt R.length p).map Int.ofNat)⟩]) := by
 refine A8 Tryd.func21 rfl (by rw [Tryd.ntmps21]; simp) ?_
 rw [Tryd.ntmps21]
 have hlo : Br R = true := gEg (gE4 hv).1
 have hgs := PU R (F.map Int.ofNat) hn hr (by rw [List.length_map]; exact hFl)
 have hst : (Bg R && !(F.map Int.ofNat).any fun s => !UV R s) = true := by
  rw [hv, Bool.true_and, Bool.not_eq_true', List.any_eq_false]
  intro s hs
  obtain ⟨v, h, rfl⟩ := List.mem_map.1 hs
  have := hF v h
  unfold UV
  rw [gEg (show (0 : Int) <= Int.ofNat v from Int.natCast_nonneg v), gEg (show Int.ofNat v < (R.length : Int) from Int.ofNat_lt.2 this)]
  simp
 rw [hst] at hgs
 simp only [Bs, BS, AK] at hgs ⊢
 (refine Ud ?_;(repeat clear hK K);repeat refine kq fun K hK=>?_)
 (refine Ui hgs ?_; intro K1 hK1)
 rintro _ _ ⟨rfl, rfl⟩
 (refine Uj ?_; clear hK1 K1)
 (refine Ue @Bool.not_true ?_;(repeat clear hK K);repeat refine kq fun K hK=>?_)
 refine Ul ?_
 (refine Ud ?_;(repeat clear hK K);repeat refine kq fun K hK=>?_)
 (refine Ui (PR R hn) ?_; intro K1 hK1)
 rintro _ _ ⟨rfl, rfl⟩
 (simp only [AK, CB, US, Bw, List.append_nil, List.nil_append, List.length_map, go_sem]; refine hK1 _ ?_; clear hK1 K1)
 (refine Ud ?_;(repeat clear hK K);repeat refine kq fun K hK=>?_)
 (refine A9 rfl ?_; intro K1 hK1; refine As (ids := []) [1, 2] (LP R t F hlo hn hr hF hFl (List.replicate R.length 0) 0 (by simp) (fun x h => by have := List.eq_of_mem_replicate h; omega) (by omega) (by omega)) rfl rfl (by simp only [go_sem]) (by first | assumption | kernel_rfl) rfl rfl (by (simp only [List.map_append, List.append_nil, go_sem]) <;> rfl) (by (simp only [Tx, US, A7, go_sem]) <;> rfl) ?_ ?_)
 ·rintro _ _ ⟨_, _, _, _, _, rfl, rfl⟩; rfl
 rintro _ _ ⟨seen, hse, hsb, p, hp, rfl, rfl⟩
 (simp only [AK, CB, US, Bw, List.append_nil, List.nil_append, List.length_map, go_sem]; refine hK1 _ ?_; clear hK1 K1)
 (refine Ud ?_;(repeat clear hK K);repeat refine kq fun K hK=>?_)
 refine Up [3] Tryd.results21 @A7 ?_
 exact ⟨p, hp, rfl, rfl⟩
theorem LS (R : List (List Ar)) (t : Bool) (F : List Nat) (hv : Bg R = true) (hn : R.length <= 1000000) (hr : ∀ r ∈ R, r.length <= 1000000) (hF : ∀ v ∈ F, v < R.length) (hFl : F.length <= 1000000) :
  FC Tryd.prog 21 [BS R, AK (F.map Int.ofNat), .b t] [] (fun r o => ∃ p : Nat -> Bool, (∀ u, u < R.length -> (p u = true ↔ ∃ v ∈ F, Rc (Uy t R) v u)) /\ o = [] /\ r = .a (.c (.t 1 (Af ((Gt R.length p).map Int.ofNat))))) :=
 (Ko R t F hv hn hr hF hFl).frzP (fun p => I9 _) (by omega) (fun p _ => by rw [A3, List.length_map, Nat.mul_one])
end Go.Proofs.YtjijjfkalheokaaDoor
