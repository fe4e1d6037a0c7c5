/- diamond.unstable. -/
import Derived.Test.YthlckclbjknldaaG53
import Derived.Test.YthlckclbjknldaaG54
import Derived.Test.YthlckclbjknldaaAm28
namespace Go.Proofs.Ythlckclbjknldaa
set_option linter.unusedVariables false
set_option linter.unusedSimpArgs false
open Go.RowKit
set_option maxRecDepth 100000
attribute [local go_sem] List.set_cons_zero List.set_cons_succ List.map_cons List.map_nil List.take_succ_cons List.take_zero List.drop_zero List.drop_succ_cons C.pl C.one List.all_cons List.all_nil Bool.and_true Nat.mul_one Int.toNat_natCast

/-- numbers that Key tells apart -/
def KeyR (L : List Int) : Prop := ∀ x ∈ L, 0 ≤ x ∧ x < 2147483648
theorem keyEq_S {x y : List Int} (hx : KeyR x) (hy : KeyR y) : keyEq .ks (keyS x) (keyS y) = some (decide (x = y)) := by
 show some _ = some _
 congr 1
 rw [Bool.eq_iff_iff, decide_eq_true_iff, MapKept.bytes_beq]
 exact ⟨fun h => keyS_inj hx hy (by unfold keyS; rw [h]), fun h => by rw [h]⟩
/-- the least states of acceptances -/
abbrev Lm := List (List Int × Nat)
def kvL (M : Lm) : List (Value × C) := M.map fun p => (keyS p.1, C.v (.int .i64 (p.2 : Nat)))
theorem kvL_pl (M : Lm) : (kvL M).all (fun p => p.2.pl) = true := by simp [kvL, C.pl]
theorem kvL_snoc (M : Lm) (x : List Int) (s : Nat) : kvL M ++ [(keyS x, C.v (.int .i64 (s : Nat)))] = kvL (M ++ [(x, s)]) := by simp [kvL]
def findL (x : List Int) (M : Lm) : Option Nat := (M.find? fun p => decide (p.1 = x)).map (·.2)
theorem kvFind_L {x : List Int} (hx : KeyR x) : ∀ (M : Lm) (i : Nat), (∀ p ∈ M, KeyR p.1) → ∃ j, kvFind .ks (keyS x) (kvL M) i = some ((findL x M).map fun s => (j, C.v (.int .i64 (s : Nat)))) := by
 intro M
 induction M with
 | nil => intro i _; exact ⟨0, rfl⟩
 | cons p r ih =>
  intro i h
  have hp := h p (by simp)
  show ∃ j, kvFind .ks (keyS x) ((keyS p.1, C.v (.int .i64 (p.2 : Nat))) :: kvL r) i = _
  unfold kvFind
  rw [keyEq_S hx hp]
  by_cases e : p.1 = x
  ·refine ⟨i, ?_⟩
   have e2 : x = p.1 := e.symm
   rw [decide_eq_true e2]
   simp [findL, e]
  ·have e2 : ¬ x = p.1 := fun h => e h.symm
   obtain ⟨j, hj⟩ := ih (i + 1) (fun q hq => h q (List.mem_cons_of_mem _ hq))
   refine ⟨j, ?_⟩
   rw [decide_eq_false e2]
   simp only [hj]
   simp [findL, e]
theorem keyFit_S {x : List Int} (hx : KeyR x) : keyFit .ks (keyS x) = true := by unfold keyFit; rw [keyEq_S hx hx]
/-- one arc of a state of the closure -/
def unA1 (n s : Nat) (a : Ar) : Option Ar := if a.1 ≠ 0 then some a else if a.2 = (s : Int) then some (0, (n : Int)) else none
def unR (R : List (List Ar)) (n : Nat) (cl : List Nat) : List Ar := cl.flatMap fun s => (R.getD s []).filterMap (unA1 n s)
def unM1 (R : List (List Ar)) (M : Lm) (s : Nat) : Lm := if stB (R.getD s []) then (match findL (accP (R.getD s [])).1 M with | some _ => M | none => M ++ [((accP (R.getD s [])).1, s)]) else M
def unM (R : List (List Ar)) (cl : List Nat) : Lm := cl.foldl (unM1 R) []
def unE (M : Lm) (x : List Int) : Ar := (0, (((findL x M).getD 0 : Nat) : Int))
/-- what unstable gives -/
def unS (R : List (List Ar)) (n : Nat) (cl : List Nat) : List Ar := unR R n cl ++ (minR ((unM R cl).map (·.1))).map (unE (unM R cl))
theorem unR_snoc (R : List (List Ar)) (n : Nat) (cl : List Nat) (s : Nat) : unR R n (cl ++ [s]) = unR R n cl ++ (R.getD s []).filterMap (unA1 n s) := by simp [unR]
theorem unM_snoc (R : List (List Ar)) (cl : List Nat) (s : Nat) : unM R (cl ++ [s]) = unM1 R (unM R cl) s := by unfold unM; rw [List.foldl_append]; rfl
theorem unM_len (R : List (List Ar)) (cl : List Nat) : (unM R cl).length ≤ cl.length := by
 have : ∀ (cl : List Nat) (M : Lm), (cl.foldl (unM1 R) M).length ≤ M.length + cl.length := by
  intro cl
  induction cl with
  | nil => intro M; simp
  | cons s r ih =>
   intro M
   have h1 := ih (unM1 R M s)
   have h2 : (unM1 R M s).length ≤ M.length + 1 := by
    unfold unM1
    split
    ·split <;> simp
    ·simp
   simp only [List.foldl_cons, List.length_cons]
   omega
 simpa [unM] using this cl []
theorem accP_ok {r : List Ar} (h : ∀ a ∈ r, 0 ≤ a.1 ∧ a.1 ≤ 1025) : KeyR (accP r).1 ∧ (accP r).1.length ≤ r.length + 1 := by
 have hm : ∀ (r : List Ar) (acc : List Int) (x : Int), x ∈ r.foldl iniStep acc → x ∈ acc ∨ ∃ a ∈ r, a.1 = x := by
  intro r
  induction r with
  | nil => intro acc x h; exact .inl h
  | cons a r ih =>
   intro acc x h
   rcases ih _ _ h with h1 | ⟨b, hb, e⟩
   ·unfold iniStep at h1
    split at h1
    ·exact .inl h1
    ·rcases List.mem_append.1 h1 with h1 | h1
     ·exact .inl h1
     ·simp at h1; exact .inr ⟨a, by simp, h1.symm⟩
   ·exact .inr ⟨b, List.mem_cons_of_mem _ hb, e⟩
 unfold accP
 split
 ·exact ⟨fun x hx => by simp at hx; omega, by simp⟩
 ·split
  ·refine ⟨fun x hx => ?_, by have := iniL_len r; simp only; omega⟩
   rcases hm r [] x hx with h1 | ⟨a, ha, rfl⟩
   ·simp at h1
   ·have := h a ha; omega
  ·exact ⟨fun x hx => by simp at hx, by simp⟩
theorem unM_ok {R : List (List Ar)} (hbd : ∀ r ∈ R, ∀ a ∈ r, 0 ≤ a.1 ∧ a.1 ≤ 1025) (hr : ∀ r ∈ R, r.length ≤ 1000000) (cl : List Nat) (hcl : ∀ s ∈ cl, s < R.length) : ∀ p ∈ unM R cl, KeyR p.1 ∧ p.1.length ≤ 1000001 := by
 have : ∀ (cl : List Nat) (M : Lm), (∀ s ∈ cl, s < R.length) → (∀ p ∈ M, KeyR p.1 ∧ p.1.length ≤ 1000001) → ∀ p ∈ cl.foldl (unM1 R) M, KeyR p.1 ∧ p.1.length ≤ 1000001 := by
  intro cl
  induction cl with
  | nil => intro M _ h; exact h
  | cons s r ih =>
   intro M hc h
   refine ih _ (fun q hq => hc q (List.mem_cons_of_mem _ hq)) fun p hp => ?_
   have hs := hc s (by simp)
   have hg : R.getD s [] = R[s] := by rw [List.getD_eq_getElem?_getD, List.getElem?_eq_getElem hs]; rfl
   unfold unM1 at hp
   rw [hg] at hp
   split at hp
   ·split at hp
    ·exact h p hp
    ·rcases List.mem_append.1 hp with h1 | h1
     ·exact h p h1
     ·simp at h1; subst h1
      have h2 := accP_ok (hbd _ (List.getElem_mem hs))
      have h3 := hr _ (List.getElem_mem hs)
      exact ⟨h2.1, Nat.le_trans h2.2 (by omega)⟩
   ·exact h p hp
 exact this cl [] hcl (by simp)
def stepF (row : List Ar) (n s j : Nat) : List Ar := (row.take j).filterMap (unA1 n s)
theorem stepF_succ {row : List Ar} {n s j : Nat} (h : j < row.length) : stepF row n s (j + 1) = stepF row n s j ++ (match unA1 n s row[j] with | some b => [b] | none => []) := by
 unfold stepF
 rw [List.take_succ_eq_append_getElem h, List.filterMap_append]
 congr 1
 cases h2 : unA1 n s row[j] <;> simp [List.filterMap_cons, h2]
theorem stepF_len (row : List Ar) (n s j : Nat) : (stepF row n s j).length ≤ j := by
 unfold stepF
 refine Nat.le_trans (List.length_filterMap_le _ _) (by simp; omega)
theorem findL_mem {x : List Int} {M : Lm} (h : x ∈ M.map (·.1)) : ∃ s, findL x M = some s := by
 obtain ⟨p, hp, rfl⟩ := List.mem_map.1 h
 cases hf : M.find? (fun q => decide (q.1 = p.1)) with
 | none => have := List.find?_eq_none.1 hf p hp; simp at this
 | some q => exact ⟨q.2, by simp [findL, hf]⟩
theorem c1_arc (out : List Ar) (e t : Int) : (cArcs out).take (out.length * 2) ++ [C.v (.int .i64 e), C.v (.int .i64 t)] = cArcs (out ++ [(e, t)]) := by
 rw [List.take_of_length_le (by rw [cArcs_len]; exact Nat.le_refl _), cArcs_snoc]
theorem c1_set (L : List (List Int)) (x : List Int) : (cSets L).take L.length ++ [C.t 1 (tInts x)] = cSets (L ++ [x]) := by
 rw [List.take_of_length_le (by rw [cSets_len]; exact Nat.le_refl _)]; simp [cSets]
set_option maxHeartbeats 8000000 in
theorem unst_fc (R : List (List Ar)) (n : Nat) (cl : List Nat) (hlo : looB R = true) (hn : R.length ≤ 1000000) (hr : ∀ r ∈ R, r.length ≤ 1000000) (hcl : ∀ s ∈ cl, s < R.length) (hcln : cl.length ≤ 1000000) : FC Try.prog 16 [aLts R, .i n, .a (.c (.t 1 (tInts (cl.map Int.ofNat))))] [] (fun r o => o = [.r ⟨34, 2, true, cArcs (unS R n cl)⟩] ∧ r = .a (.c (.s 0 (unS R n cl).length))) := by
 refine fc_intro Try.func16 rfl (by rw [Try.ntmps16]; simp) ?_
 rw [Try.ntmps16]
 simp only [enum, aLts]
 have hbd := (of_decide_eq_true hlo).2.2.2
 have hbd2 : ∀ r ∈ R, ∀ a ∈ r, 0 ≤ a.1 ∧ a.1 ≤ 1025 := fun r h a ha => by have := hbd r h a ha; exact ⟨this.1, this.2.1⟩
 have hcl2 : (cl.map Int.ofNat).length = cl.length := by simp
 (repeat (first | (refine aw_seq ?_; intro K hK) | refine aw_block ?_ | refine aw_region ?_ | (refine lst_x rfl rfl ?_; intro K1 hK1; simp only [go_sem, tInts_len, hcl2]; (first | refine hK1 _ ?_ | refine andk (hK1 _ ?_)); clear hK1 K1) | ((first | refine lst_nil ?_ | refine aw_skip ?_); refine hK _ ?_; clear hK K)))
 refine aw_le (le_nil 7 34 2 ?_) ?_
 ·simp only [go_sem]
 refine aw_le (le_nil 8 22 1 ?_) ?_
 ·simp only [go_sem]
 refine aw_loop (fun k : Nat => { tm := [(1, .i n), (3, .a (.c (.p 0 0))), (7, .a (.c (.s 2 (unR R n (cl.take k)).length))), (8, .a (.c (.s 3 (unM R (cl.take k)).length))), (9, .a (.c (.m 1))), (21, .a (.c (.t 1 (tInts (cl.map Int.ofNat))))), (22, .i cl.length), (23, .i k)], hp := [.r ⟨27, 1, false, [.t 1 (tRows R)]⟩, .m (kvL (unM R (cl.take k))), .r ⟨34, 2, true, cArcs (unR R n (cl.take k))⟩, .r ⟨22, 1, true, cSets ((unM R (cl.take k)).map (·.1))⟩], n := 101, pin := 0 }) (fun k => k ≤ cl.length ∧ (unR R n (cl.take k)).length ≤ k * 1000000) (fun k => cl.length - k) 0 ?_ ?_ ?_
 ·exact ⟨by omega, by simp [unR]⟩
 ·simp only [List.take_zero, unR, unM, List.flatMap_nil, List.foldl_nil, kvL, cSets, cArcs, List.length_nil]
  (refine le_tm ?_; simp only [LeTm, go_sem]; try simp)
 ·rintro k ⟨hk, hol⟩ K hK
  by_cases hlt : k < cl.length
  ·have d1 : decide ((k : Int) < (cl.length : Int)) = true := by simpa using hlt
   have gF : (tInts (cl.map Int.ofNat))[k]? = some (.v (.int .i64 (cl[k] : Int))) := tInts_get (by rw [List.getElem?_map, List.getElem?_eq_getElem hlt]; rfl)
   have hul := hcl _ (List.getElem_mem hlt)
   have hTk : cl.take (k + 1) = cl.take k ++ [cl[k]] := List.take_succ_eq_append_getElem hlt
   have hsub : ∀ s ∈ cl.take k, s < R.length := fun s hs => hcl s (List.mem_of_mem_take hs)
   have hMok := unM_ok hbd2 hr (cl.take k) hsub
   have hMl := unM_len R (cl.take k)
   have htl : (cl.take k).length ≤ k := by simp; omega
   generalize cl[k] = u at *
   have hgR := List.getElem?_eq_getElem hul
   have hRu : R.getD u [] = R[u] := by rw [List.getD_eq_getElem?_getD, hgR]; rfl
   have hrl := hr _ (List.getElem_mem hul)
   have hKR := (accP_ok (hbd2 _ (List.getElem_mem hul))).1
   have hKl := (accP_ok (hbd2 _ (List.getElem_mem hul))).2
   have hst := stable_fc R u hul hn hr
   have hacc := accept_fc R u hul hn hr
   have hR1 := unR_snoc R n (cl.take k) u
   have hM1 := unM_snoc R (cl.take k) u
   rw [← hTk] at hR1 hM1
   rw [hRu] at hR1
   unfold unM1 at hM1
   rw [hRu] at hM1
   generalize R[u] = row at *
   generalize unR R n (cl.take k) = out at *
   generalize unM R (cl.take k) = M at *
   have hKo := hK
   (repeat (first | (refine aw_seq ?_; intro K hK) | refine aw_block ?_ | refine aw_region ?_ | (refine lst_x rfl rfl ?_; intro K1 hK1; simp only [go_sem, d1]; (first | refine hK1 _ ?_ | refine andk (hK1 _ ?_)); clear hK1 K1) | ((first | refine lst_nil ?_ | refine aw_skip ?_); refine hK _ ?_; clear hK K)))
   (refine aw_cnd ?_; intro X Y hX hY; simp only [go_sem])
   refine hX ?_
   clear hX hY X Y
   (repeat (first | (refine aw_seq ?_; intro K hK) | refine aw_block ?_ | refine aw_region ?_ | (refine lst_x rfl rfl ?_; intro K1 hK1; simp only [go_sem, gF, tInts_len, hcl2, tRows_len, tRows_get hgR, tArcs_len, half2]; (first | refine hK1 _ ?_ | refine andk (hK1 _ ?_)); clear hK1 K1) | ((first | refine lst_nil ?_ | refine aw_skip ?_); refine hK _ ?_; clear hK K)))
   refine aw_loop (fun j : Nat => { tm := [(1, .i n), (3, .a (.c (.p 0 0))), (7, .a (.c (.s 2 (out ++ stepF row n u j).length))), (8, .a (.c (.s 3 M.length))), (9, .a (.c (.m 1))), (11, .i u), (21, .a (.c (.t 1 (tInts (cl.map Int.ofNat))))), (22, .i cl.length), (23, .i k), (31, .a (.c (.t 2 (tArcs row)))), (32, .i row.length), (33, .i j)], hp := [.r ⟨27, 1, false, [.t 1 (tRows R)]⟩, .m (kvL M), .r ⟨34, 2, true, cArcs (out ++ stepF row n u j)⟩, .r ⟨22, 1, true, cSets (M.map (·.1))⟩], n := 101, pin := 0 }) (fun j => j ≤ row.length) (fun j => row.length - j) 0 ?_ ?_ ?_
   ·omega
   ·simp only [stepF, List.take_zero, List.filterMap_nil, List.append_nil]
    (refine le_tm ?_; simp only [LeTm, go_sem]; try simp)
   ·rintro j hj K hK
    have hsl := stepF_len row n u j
    have hl2 : (out ++ stepF row n u j).length ≤ k * 1000000 + 1000000 := by rw [List.length_append]; omega
    by_cases hlt2 : j < row.length
    ·have d2 : decide ((j : Int) < (row.length : Int)) = true := by simpa using hlt2
     have hat := tArcs_at hlt2
     have hsu := stepF_succ (n := n) (s := u) hlt2
     have hpre : out ++ stepF row n u (j + 1) = (out ++ stepF row n u j) ++ (match unA1 n u row[j] with | some b => [b] | none => []) := by rw [hsu, List.append_assoc]
     clear hsu
     generalize out ++ stepF row n u j = o1 at *
     generalize row[j] = a at *
     obtain ⟨e, t⟩ := a
     simp only at hat
     by_cases he : e = 0
     ·have d3 : (e != 0) = false := by simp [he]
      by_cases ht : t = (u : Int)
      ·have d4 : (t == (u : Int)) = true := by simpa using ht
       have hx : unA1 n u (e, t) = some (0, (n : Int)) := by simp [unA1, he, ht]
       rw [hx] at hpre
       have ca := c1_arc o1 0 (n : Int)
       (repeat (first | (refine aw_seq ?_; intro K hK) | refine aw_block ?_ | refine aw_region ?_ | (refine lst_x rfl rfl ?_; intro K1 hK1; simp only [go_sem, d2]; (first | refine hK1 _ ?_ | refine andk (hK1 _ ?_)); clear hK1 K1) | ((first | refine lst_nil ?_ | refine aw_skip ?_); refine hK _ ?_; clear hK K)))
       (refine aw_cnd ?_; intro X Y hX hY; simp only [go_sem])
       refine hX ?_
       clear hX hY X Y
       (repeat (first | (refine aw_seq ?_; intro K hK) | refine aw_block ?_ | refine aw_region ?_ | (refine lst_x rfl rfl ?_; intro K1 hK1; simp only [go_sem, hat, tArcs_len, half2, ST.put, setC, A0.cells, d3]; (first | refine hK1 _ ?_ | refine andk (hK1 _ ?_)); clear hK1 K1) | ((first | refine lst_nil ?_ | refine aw_skip ?_); refine hK _ ?_; clear hK K)))
       (refine aw_cnd ?_; intro X Y hX hY; simp only [go_sem])
       refine hY ?_
       clear hX hY X Y
       (repeat (first | (refine aw_seq ?_; intro K hK) | refine aw_block ?_ | refine aw_region ?_ | (refine lst_x rfl rfl ?_; intro K1 hK1; simp only [go_sem, d4]; (first | refine hK1 _ ?_ | refine andk (hK1 _ ?_)); clear hK1 K1) | ((first | refine lst_nil ?_ | refine aw_skip ?_); refine hK _ ?_; clear hK K)))
       (refine aw_cnd ?_; intro X Y hX hY; simp only [go_sem])
       refine hX ?_
       clear hX hY X Y
       (repeat (first | (refine aw_seq ?_; intro K hK) | refine aw_block ?_ | refine aw_region ?_ | (refine lst_x rfl rfl ?_; intro K1 hK1; simp only [go_sem, cArcs_len, ca, half2]; (first | refine hK1 _ ?_ | refine andk (hK1 _ ?_)); clear hK1 K1) | ((first | refine lst_nil ?_ | refine aw_skip ?_); refine hK _ ?_; clear hK K)))
       ((try refine lst_nil ?_); (try refine aw_skip ?_); try simp only [ThenA])
       refine hK _ (j + 1) (by omega) (by omega) ?_
       refine Le.trans (le_pick [0, 1, 6, 3] rfl rfl) ?_
       (try simp only [List.set_nil, List.take_nil, List.take_zero, List.map_append, go_sem])
       (try simp only [cArcs_ren3, cSets_ren, hpre])
       simp only [List.length_append, List.length_cons, List.length_nil, Nat.zero_add, kvL, List.map_map, Function.comp_def]
       (refine le_tm ?_; simp only [LeTm, go_sem]; try simp)
      ·have d4 : (t == (u : Int)) = false := by simpa using ht
       have hx : unA1 n u (e, t) = none := by simp [unA1, he, ht]
       rw [hx] at hpre
       (repeat (first | (refine aw_seq ?_; intro K hK) | refine aw_block ?_ | refine aw_region ?_ | (refine lst_x rfl rfl ?_; intro K1 hK1; simp only [go_sem, d2]; (first | refine hK1 _ ?_ | refine andk (hK1 _ ?_)); clear hK1 K1) | ((first | refine lst_nil ?_ | refine aw_skip ?_); refine hK _ ?_; clear hK K)))
       (refine aw_cnd ?_; intro X Y hX hY; simp only [go_sem])
       refine hX ?_
       clear hX hY X Y
       (repeat (first | (refine aw_seq ?_; intro K hK) | refine aw_block ?_ | refine aw_region ?_ | (refine lst_x rfl rfl ?_; intro K1 hK1; simp only [go_sem, hat, tArcs_len, half2, ST.put, setC, A0.cells, d3]; (first | refine hK1 _ ?_ | refine andk (hK1 _ ?_)); clear hK1 K1) | ((first | refine lst_nil ?_ | refine aw_skip ?_); refine hK _ ?_; clear hK K)))
       (refine aw_cnd ?_; intro X Y hX hY; simp only [go_sem])
       refine hY ?_
       clear hX hY X Y
       (repeat (first | (refine aw_seq ?_; intro K hK) | refine aw_block ?_ | refine aw_region ?_ | (refine lst_x rfl rfl ?_; intro K1 hK1; simp only [go_sem, d4]; (first | refine hK1 _ ?_ | refine andk (hK1 _ ?_)); clear hK1 K1) | ((first | refine lst_nil ?_ | refine aw_skip ?_); refine hK _ ?_; clear hK K)))
       (refine aw_cnd ?_; intro X Y hX hY; simp only [go_sem])
       refine hY ?_
       clear hX hY X Y
       (repeat (first | (refine aw_seq ?_; intro K hK) | refine aw_block ?_ | refine aw_region ?_ | (refine lst_x rfl rfl ?_; intro K1 hK1; simp only [go_sem]; (first | refine hK1 _ ?_ | refine andk (hK1 _ ?_)); clear hK1 K1) | ((first | refine lst_nil ?_ | refine aw_skip ?_); refine hK _ ?_; clear hK K)))
       ((try refine lst_nil ?_); (try refine aw_skip ?_); try simp only [ThenA])
       refine hK _ (j + 1) (by omega) (by omega) ?_
       refine Le.trans (le_pick [0, 1, 2, 3] rfl rfl) ?_
       (try simp only [List.set_nil, List.take_nil, List.take_zero, List.map_append, go_sem])
       (try simp only [cArcs_ren3, cSets_ren, hpre, List.append_nil, kvL, List.map_map, Function.comp_def])
       (refine le_tm ?_; simp only [LeTm, go_sem]; try simp)
     ·have d3 : (e != 0) = true := by simpa using he
      have hx : unA1 n u (e, t) = some (e, t) := by simp [unA1, he]
      rw [hx] at hpre
      have ca := c1_arc o1 e t
      (repeat (first | (refine aw_seq ?_; intro K hK) | refine aw_block ?_ | refine aw_region ?_ | (refine lst_x rfl rfl ?_; intro K1 hK1; simp only [go_sem, d2]; (first | refine hK1 _ ?_ | refine andk (hK1 _ ?_)); clear hK1 K1) | ((first | refine lst_nil ?_ | refine aw_skip ?_); refine hK _ ?_; clear hK K)))
      (refine aw_cnd ?_; intro X Y hX hY; simp only [go_sem])
      refine hX ?_
      clear hX hY X Y
      (repeat (first | (refine aw_seq ?_; intro K hK) | refine aw_block ?_ | refine aw_region ?_ | (refine lst_x rfl rfl ?_; intro K1 hK1; simp only [go_sem, hat, tArcs_len, half2, ST.put, setC, A0.cells, d3]; (first | refine hK1 _ ?_ | refine andk (hK1 _ ?_)); clear hK1 K1) | ((first | refine lst_nil ?_ | refine aw_skip ?_); refine hK _ ?_; clear hK K)))
      (refine aw_cnd ?_; intro X Y hX hY; simp only [go_sem])
      refine hX ?_
      clear hX hY X Y
      (repeat (first | (refine aw_seq ?_; intro K hK) | refine aw_block ?_ | refine aw_region ?_ | (refine lst_x rfl rfl ?_; intro K1 hK1; simp only [go_sem, cArcs_len, ca, half2]; (first | refine hK1 _ ?_ | refine andk (hK1 _ ?_)); clear hK1 K1) | ((first | refine lst_nil ?_ | refine aw_skip ?_); refine hK _ ?_; clear hK K)))
      ((try refine lst_nil ?_); (try refine aw_skip ?_); try simp only [ThenA])
      refine hK _ (j + 1) (by omega) (by omega) ?_
      refine Le.trans (le_pick [0, 1, 6, 3] rfl rfl) ?_
      (try simp only [List.set_nil, List.take_nil, List.take_zero, List.map_append, go_sem])
      (try simp only [cArcs_ren3, cSets_ren, hpre])
      simp only [List.length_append, List.length_cons, List.length_nil, Nat.zero_add, kvL, List.map_map, Function.comp_def]
      (refine le_tm ?_; simp only [LeTm, go_sem]; try simp)
    ·have d2 : decide ((j : Int) < (row.length : Int)) = false := by simpa using hlt2
     have hfull : stepF row n u j = row.filterMap (unA1 n u) := by unfold stepF; rw [List.take_of_length_le (by omega)]
     rw [hfull, ← hR1]
     rw [hfull, ← hR1] at hl2
     have hl3 : (unR R n (cl.take (k + 1))).length ≤ (k + 1) * 1000000 := by omega
     generalize ho2 : unR R n (cl.take (k + 1)) = o2 at *
     (repeat (first | (refine aw_seq ?_; intro K hK) | refine aw_block ?_ | refine aw_region ?_ | (refine lst_x rfl rfl ?_; intro K1 hK1; simp only [go_sem, d2]; (first | refine hK1 _ ?_ | refine andk (hK1 _ ?_)); clear hK1 K1) | ((first | refine lst_nil ?_ | refine aw_skip ?_); refine hK _ ?_; clear hK K)))
     (refine aw_cnd ?_; intro X Y hX hY; simp only [go_sem])
     refine hY ?_
     clear hX hY X Y
     (refine aw_exit ?_; simp only [ThenA, InBl, reduceIte, Nat.reduceEqDiff]; (first | refine hK _ ?_ | (clear hK K; refine hK _ ?_) | (clear hK K; clear hK K; refine hK _ ?_) | (clear hK K; clear hK K; clear hK K; refine hK _ ?_) | (clear hK K; clear hK K; clear hK K; clear hK K; refine hK _ ?_) | (clear hK K; clear hK K; clear hK K; clear hK K; clear hK K; refine hK _ ?_)); clear hK K)
     (repeat (first | (refine aw_seq ?_; intro K hK) | refine aw_block ?_ | refine aw_region ?_ | (refine lst_x rfl rfl ?_; intro K1 hK1; simp only [go_sem]; (first | refine hK1 _ ?_ | refine andk (hK1 _ ?_)); clear hK1 K1) | ((first | refine lst_nil ?_ | refine aw_skip ?_); refine hK _ ?_; clear hK K)))
     (refine lst_cons rfl ?_; intro K1 hK1; refine (stp_call0 (ids := []) (hst) rfl rfl (by simp only [go_sem]) (by kernel_rfl) (by (simp only [List.append_nil, go_sem]) <;> rfl) ?_).stp)
     rintro _ _ ⟨rfl, rfl⟩
     (simp only [aInts, aSets, List.append_nil, List.nil_append, List.length_map, go_sem]; refine hK1 _ ?_; clear hK1 K1)
     cases hsb : stB row with
     | false =>
      rw [hsb] at hM1
      simp only [Bool.false_eq_true, if_false] at hM1
      (repeat (first | (refine aw_seq ?_; intro K hK) | refine aw_block ?_ | refine aw_region ?_ | (refine lst_x rfl rfl ?_; intro K1 hK1; simp only [go_sem, Bool.not_false]; (first | refine hK1 _ ?_ | refine andk (hK1 _ ?_)); clear hK1 K1) | ((first | refine lst_nil ?_ | refine aw_skip ?_); refine hK _ ?_; clear hK K)))
      (refine aw_cnd ?_; intro X Y hX hY; simp only [go_sem])
      refine hX ?_
      clear hX hY X Y
      (refine aw_exit ?_; simp only [ThenA, InBl, reduceIte, Nat.reduceEqDiff]; (first | refine hK _ ?_ | (clear hK K; refine hK _ ?_) | (clear hK K; clear hK K; refine hK _ ?_) | (clear hK K; clear hK K; clear hK K; refine hK _ ?_) | (clear hK K; clear hK K; clear hK K; clear hK K; refine hK _ ?_) | (clear hK K; clear hK K; clear hK K; clear hK K; clear hK K; refine hK _ ?_)); clear hK K)
      (repeat (first | (refine aw_seq ?_; intro K hK) | refine aw_block ?_ | refine aw_region ?_ | (refine lst_x rfl rfl ?_; intro K1 hK1; simp only [go_sem]; (first | refine hK1 _ ?_ | refine andk (hK1 _ ?_)); clear hK1 K1) | ((first | refine lst_nil ?_ | refine aw_skip ?_); refine hK _ ?_; clear hK K)))
      ((try refine lst_nil ?_); (try refine aw_skip ?_); try simp only [ThenA])
      refine hKo _ (k + 1) ⟨by omega, by rw [ho2]; exact hl3⟩ (by omega) ?_
      rw [hM1, ho2]
      (refine le_tm ?_; simp only [LeTm, go_sem]; try simp)
     | true =>
      rw [hsb] at hM1
      simp only [if_true] at hM1
      (repeat (first | (refine aw_seq ?_; intro K hK) | refine aw_block ?_ | refine aw_region ?_ | (refine lst_x rfl rfl ?_; intro K1 hK1; simp only [go_sem, Bool.not_true]; (first | refine hK1 _ ?_ | refine andk (hK1 _ ?_)); clear hK1 K1) | ((first | refine lst_nil ?_ | refine aw_skip ?_); refine hK _ ?_; clear hK K)))
      (refine aw_cnd ?_; intro X Y hX hY; simp only [go_sem])
      refine hY ?_
      clear hX hY X Y
      (repeat (first | (refine aw_seq ?_; intro K hK) | refine aw_block ?_ | refine aw_region ?_ | (refine lst_x rfl rfl ?_; intro K1 hK1; simp only [go_sem]; (first | refine hK1 _ ?_ | refine andk (hK1 _ ?_)); clear hK1 K1) | ((first | refine lst_nil ?_ | refine aw_skip ?_); refine hK _ ?_; clear hK K)))
      (refine lst_cons rfl ?_; intro K1 hK1; refine (stp_call0 (ids := []) (hacc) rfl rfl (by simp only [go_sem]) (by kernel_rfl) (by (simp only [List.append_nil, go_sem]) <;> rfl) ?_).stp)
      rintro _ _ ⟨rfl, rfl⟩
      (simp only [aInts, aSets, List.append_nil, List.nil_append, List.length_map, go_sem]; refine hK1 _ ?_; clear hK1 K1)
      (repeat (first | (refine aw_seq ?_; intro K hK) | refine aw_block ?_ | refine aw_region ?_ | (refine lst_x rfl rfl ?_; intro K1 hK1; simp only [go_sem]; (first | refine hK1 _ ?_ | refine andk (hK1 _ ?_)); clear hK1 K1) | ((first | refine lst_nil ?_ | refine aw_skip ?_); refine hK _ ?_; clear hK K)))
      generalize (accP row).1 = acc at *
      (refine lst_cons rfl ?_; intro K1 hK1; refine (stp_call0 (ids := []) (key_fc acc (by omega)) rfl rfl (by simp only [go_sem]) (by kernel_rfl) (by (simp only [List.append_nil, go_sem]) <;> rfl) ?_).stp)
      rintro _ _ ⟨rfl, rfl⟩
      (simp only [aInts, aSets, List.append_nil, List.nil_append, List.length_map, go_sem]; refine hK1 _ ?_; clear hK1 K1)
      obtain ⟨ji, hfd⟩ := kvFind_L hKR M 0 (fun p hp => (hMok p hp).1)
      cases hfi : findL acc M with
      | some s0 =>
       rw [hfi] at hfd hM1
       simp only [Option.map_some] at hfd hM1
       (repeat (first | (refine aw_seq ?_; intro K hK) | refine aw_block ?_ | refine aw_region ?_ | (refine lst_x rfl rfl ?_; intro K1 hK1; simp only [go_sem]; (first | refine hK1 _ ?_ | refine andk (hK1 _ ?_)); clear hK1 K1) | ((first | refine lst_nil ?_ | refine aw_skip ?_); refine hK _ ?_; clear hK K)))
       (refine lst_cons rfl ?_; intro K1 hK1; refine stp_lookup (id := 1) (kv := kvL M) (zv := .int .i64 0) Try.underlying59 (keyOk_s Try.underlying9) rfl rfl rfl (by simp only [go_sem]) rfl (kvL_pl M) (by simp only [go_sem, keyOf]) (keyFit_S hKR) hfd ?_; simp only [go_sem, lkV]; refine hK1 _ ?_; clear hK1 K1)
       (repeat (first | (refine aw_seq ?_; intro K hK) | refine aw_block ?_ | refine aw_region ?_ | (refine lst_x rfl rfl ?_; intro K1 hK1; simp only [go_sem, Bool.not_true]; (first | refine hK1 _ ?_ | refine andk (hK1 _ ?_)); clear hK1 K1) | ((first | refine lst_nil ?_ | refine aw_skip ?_); refine hK _ ?_; clear hK K)))
       (refine aw_cnd ?_; intro X Y hX hY; simp only [go_sem])
       refine hY ?_
       clear hX hY X Y
       (repeat (first | (refine aw_seq ?_; intro K hK) | refine aw_block ?_ | refine aw_region ?_ | (refine lst_x rfl rfl ?_; intro K1 hK1; simp only [go_sem]; (first | refine hK1 _ ?_ | refine andk (hK1 _ ?_)); clear hK1 K1) | ((first | refine lst_nil ?_ | refine aw_skip ?_); refine hK _ ?_; clear hK K)))
       ((try refine lst_nil ?_); (try refine aw_skip ?_); try simp only [ThenA])
       refine hKo _ (k + 1) ⟨by omega, by rw [ho2]; exact hl3⟩ (by omega) ?_
       rw [hM1, ho2]
       (refine le_tm ?_; simp only [LeTm, go_sem]; try simp)
      | none =>
       rw [hfi] at hfd hM1
       simp only [Option.map_none] at hfd hM1
       (repeat (first | (refine aw_seq ?_; intro K hK) | refine aw_block ?_ | refine aw_region ?_ | (refine lst_x rfl rfl ?_; intro K1 hK1; simp only [go_sem]; (first | refine hK1 _ ?_ | refine andk (hK1 _ ?_)); clear hK1 K1) | ((first | refine lst_nil ?_ | refine aw_skip ?_); refine hK _ ?_; clear hK K)))
       (refine lst_cons rfl ?_; intro K1 hK1; refine stp_lookup (id := 1) (kv := kvL M) (zv := .int .i64 0) Try.underlying59 (keyOk_s Try.underlying9) rfl rfl rfl (by simp only [go_sem]) rfl (kvL_pl M) (by simp only [go_sem, keyOf]) (keyFit_S hKR) hfd ?_; simp only [go_sem, lkV]; refine hK1 _ ?_; clear hK1 K1)
       (repeat (first | (refine aw_seq ?_; intro K hK) | refine aw_block ?_ | refine aw_region ?_ | (refine lst_x rfl rfl ?_; intro K1 hK1; simp only [go_sem, Bool.not_false]; (first | refine hK1 _ ?_ | refine andk (hK1 _ ?_)); clear hK1 K1) | ((first | refine lst_nil ?_ | refine aw_skip ?_); refine hK _ ?_; clear hK K)))
       (refine aw_cnd ?_; intro X Y hX hY; simp only [go_sem])
       refine hX ?_
       clear hX hY X Y
       (repeat (first | (refine aw_seq ?_; intro K hK) | refine aw_block ?_ | refine aw_region ?_ | (refine lst_x rfl rfl ?_; intro K1 hK1; simp only [go_sem]; (first | refine hK1 _ ?_ | refine andk (hK1 _ ?_)); clear hK1 K1) | ((first | refine lst_nil ?_ | refine aw_skip ?_); refine hK _ ?_; clear hK K)))
       (refine lst_cons rfl ?_; intro K1 hK1; refine (stp_call0 (ids := []) (key_fc acc (by omega)) rfl rfl (by simp only [go_sem]) (by kernel_rfl) (by (simp only [List.append_nil, go_sem]) <;> rfl) ?_).stp)
       rintro _ _ ⟨rfl, rfl⟩
       (simp only [aInts, aSets, List.append_nil, List.nil_append, List.length_map, go_sem]; refine hK1 _ ?_; clear hK1 K1)
       (repeat (first | (refine aw_seq ?_; intro K hK) | refine aw_block ?_ | refine aw_region ?_ | (refine lst_x rfl rfl ?_; intro K1 hK1; simp only [go_sem]; (first | refine hK1 _ ?_ | refine andk (hK1 _ ?_)); clear hK1 K1) | ((first | refine lst_nil ?_ | refine aw_skip ?_); refine hK _ ?_; clear hK K)))
       (refine lst_cons rfl ?_; intro K1 hK1; refine stp_mapnew (id := 1) (kv := kvL M) (c := .v (.int .i64 u)) Try.underlying59 (keyOk_s Try.underlying9) rfl rfl (by simp only [go_sem]) rfl (kvL_pl M) (by simp only [go_sem, keyOf]) (keyFit_S hKR) (by simp only [go_sem]) rfl hfd ?_; simp only [go_sem, kvL_snoc]; refine hK1 _ ?_; clear hK1 K1)
       have cs := c1_set (M.map (·.1)) acc
       have hml : (M.map (·.1)).length = M.length := by simp
       rw [hml] at cs
       (repeat (first | (refine aw_seq ?_; intro K hK) | refine aw_block ?_ | refine aw_region ?_ | (refine lst_x rfl rfl ?_; intro K1 hK1; simp only [go_sem, cSets_len, hml, cs]; (first | refine hK1 _ ?_ | refine andk (hK1 _ ?_)); clear hK1 K1) | ((first | refine lst_nil ?_ | refine aw_skip ?_); refine hK _ ?_; clear hK K)))
       ((try refine lst_nil ?_); (try refine aw_skip ?_); try simp only [ThenA])
       refine hKo _ (k + 1) ⟨by omega, by rw [ho2]; exact hl3⟩ (by omega) ?_
       rw [hM1, ho2]
       refine Le.trans (le_pick [0, 1, 2, 5] rfl rfl) ?_
       (try simp only [List.set_nil, List.take_nil, List.take_zero, List.map_append, go_sem])
       (try simp only [cArcs_ren3, cSets_ren])
       simp only [List.length_append, List.length_cons, List.length_nil, Nat.zero_add, kvL, List.map_map, Function.comp_def, List.map_append, List.map_cons, List.map_nil]
       (refine le_tm ?_; simp only [LeTm, go_sem]; try simp)
  ·have d1 : decide ((k : Int) < (cl.length : Int)) = false := by simpa using hlt
   have hfull : cl.take k = cl := List.take_of_length_le (by omega)
   rw [hfull] at hol ⊢
   have hMok := unM_ok hbd2 hr cl hcl
   have hMl := unM_len R cl
   have hdef : unS R n cl = unR R n cl ++ (minR ((unM R cl).map (·.1))).map (unE (unM R cl)) := rfl
   generalize unR R n cl = out at *
   generalize unM R cl = M at *
   (repeat (first | (refine aw_seq ?_; intro K hK) | refine aw_block ?_ | refine aw_region ?_ | (refine lst_x rfl rfl ?_; intro K1 hK1; simp only [go_sem, d1]; (first | refine hK1 _ ?_ | refine andk (hK1 _ ?_)); clear hK1 K1) | ((first | refine lst_nil ?_ | refine aw_skip ?_); refine hK _ ?_; clear hK K)))
   (refine aw_cnd ?_; intro X Y hX hY; simp only [go_sem])
   refine hY ?_
   clear hX hY X Y
   (refine aw_exit ?_; simp only [ThenA, InBl, reduceIte, Nat.reduceEqDiff]; (first | refine hK _ ?_ | (clear hK K; refine hK _ ?_) | (clear hK K; clear hK K; refine hK _ ?_) | (clear hK K; clear hK K; clear hK K; refine hK _ ?_) | (clear hK K; clear hK K; clear hK K; clear hK K; refine hK _ ?_) | (clear hK K; clear hK K; clear hK K; clear hK K; clear hK K; refine hK _ ?_)); clear hK K)
   have hml : (M.map (·.1)).length = M.length := by simp
   have hKx : ∀ x ∈ M.map (·.1), KeyR x ∧ x.length ≤ 1000001 := fun x hx => by
    obtain ⟨p, hp, rfl⟩ := List.mem_map.1 hx
    exact hMok p hp
   have htk : List.take M.length (tSets (M.map (·.1))) = tSets (M.map (·.1)) := List.take_of_length_le (by rw [tSets_len, hml]; exact Nat.le_refl _)
   (refine aw_le (le_frz (r := ⟨22, 1, true, cSets (M.map (·.1))⟩) 3 (tSets (M.map (·.1))) rfl (fz_sets _) (show 0 < (1 : Nat) by omega)) ?_; simp only [ST.frz, A0.frz, AV.frz, C.frz, Nat.le_refl, List.set_cons_zero, List.set_cons_succ, go_sem, tSets_len, hml, htk])
   simp only [hdef]
   have hSl := minR_len (M.map (·.1))
   have hSm : ∀ x ∈ minR (M.map (·.1)), x ∈ M.map (·.1) := fun x hx => minR_sub hx
   have hdm := dminT_fc (M.map (·.1)) (by omega) (fun x hx => by have := (hKx x hx).2; omega)
   rw [hml] at hSl
   generalize minR (M.map (·.1)) = S at *
   refine aw_le (le_pick [0, 1, 2] rfl rfl) ?_
   (try simp only [List.set_nil, List.take_nil, List.take_zero, List.map_append, go_sem])
   (try simp only [cArcs_ren3])
   simp only [kvL, List.map_map, Function.comp_def]
   (repeat (first | (refine aw_seq ?_; intro K hK) | refine aw_block ?_ | refine aw_region ?_ | (refine lst_x rfl rfl ?_; intro K1 hK1; simp only [go_sem]; (first | refine hK1 _ ?_ | refine andk (hK1 _ ?_)); clear hK1 K1) | ((first | refine lst_nil ?_ | refine aw_skip ?_); refine hK _ ?_; clear hK K)))
   (refine lst_cons rfl ?_; intro K1 hK1; refine (stp_call0 (ids := []) (hdm) rfl rfl (by simp only [go_sem]) (by kernel_rfl) (by (simp only [List.append_nil, go_sem]) <;> rfl) ?_).stp)
   rintro _ _ ⟨rfl, rfl⟩
   (simp only [aInts, aSets, List.append_nil, List.nil_append, List.length_map, go_sem]; refine hK1 _ ?_; clear hK1 K1)
   (repeat (first | (refine aw_seq ?_; intro K hK) | refine aw_block ?_ | refine aw_region ?_ | (refine lst_x rfl rfl ?_; intro K1 hK1; simp only [go_sem, tSets_len]; (first | refine hK1 _ ?_ | refine andk (hK1 _ ?_)); clear hK1 K1) | ((first | refine lst_nil ?_ | refine aw_skip ?_); refine hK _ ?_; clear hK K)))
   refine aw_loop (fun q : Nat => { tm := [(7, .a (.c (.s 2 (out ++ (S.take q).map (unE M)).length))), (9, .a (.c (.m 1))), (85, .a (.c (.t 1 (tSets S)))), (86, .i S.length), (87, .i q)], hp := [.r ⟨27, 1, false, [.t 1 (tRows R)]⟩, .m (kvL M), .r ⟨34, 2, true, cArcs (out ++ (S.take q).map (unE M))⟩], n := 101, pin := 0 }) (fun q => q ≤ S.length) (fun q => S.length - q) 0 ?_ ?_ ?_
   ·omega
   ·simp only [kvL, List.take_zero, List.map_nil, List.append_nil]
    (refine le_tm ?_; simp only [LeTm, go_sem]; try simp)
   ·rintro q hq K hK
    by_cases hlt : q < S.length
    ·have d1 : decide ((q : Int) < (S.length : Int)) = true := by simpa using hlt
     have gS := tSets_get (List.getElem?_eq_getElem hlt)
     have hxm := hSm _ (List.getElem_mem hlt)
     have hxK := hKx _ hxm
     obtain ⟨s0, hs0⟩ := findL_mem hxm
     obtain ⟨ji, hfd⟩ := kvFind_L hxK.1 M 0 (fun p hp => (hMok p hp).1)
     rw [hs0] at hfd
     simp only [Option.map_some] at hfd
     have hpre : out ++ (S.take (q + 1)).map (unE M) = (out ++ (S.take q).map (unE M)) ++ [(0, (s0 : Int))] := by
      rw [List.take_succ_eq_append_getElem hlt, List.map_append, ← List.append_assoc]
      simp [unE, hs0]
     have hol2 : (out ++ (S.take q).map (unE M)).length ≤ cl.length * 1000000 + 1000000 := by
      rw [List.length_append, List.length_map]; have := List.length_take_le q S
      have : k = cl.length := by omega
      subst this
      omega
     generalize out ++ (S.take q).map (unE M) = o1 at *
     generalize S[q] = x at *
     have ca := c1_arc o1 0 (s0 : Int)
     (repeat (first | (refine aw_seq ?_; intro K hK) | refine aw_block ?_ | refine aw_region ?_ | (refine lst_x rfl rfl ?_; intro K1 hK1; simp only [go_sem, d1]; (first | refine hK1 _ ?_ | refine andk (hK1 _ ?_)); clear hK1 K1) | ((first | refine lst_nil ?_ | refine aw_skip ?_); refine hK _ ?_; clear hK K)))
     (refine aw_cnd ?_; intro X Y hX hY; simp only [go_sem])
     refine hX ?_
     clear hX hY X Y
     (repeat (first | (refine aw_seq ?_; intro K hK) | refine aw_block ?_ | refine aw_region ?_ | (refine lst_x rfl rfl ?_; intro K1 hK1; simp only [go_sem, gS, tSets_len]; (first | refine hK1 _ ?_ | refine andk (hK1 _ ?_)); clear hK1 K1) | ((first | refine lst_nil ?_ | refine aw_skip ?_); refine hK _ ?_; clear hK K)))
     (refine lst_cons rfl ?_; intro K1 hK1; refine (stp_call0 (ids := []) (key_fc x (by omega)) rfl rfl (by simp only [go_sem]) (by kernel_rfl) (by (simp only [List.append_nil, go_sem]) <;> rfl) ?_).stp)
     rintro _ _ ⟨rfl, rfl⟩
     (simp only [aInts, aSets, List.append_nil, List.nil_append, List.length_map, go_sem]; refine hK1 _ ?_; clear hK1 K1)
     (refine lst_cons rfl ?_; intro K1 hK1; refine stp_lookup (id := 1) (kv := kvL M) (zv := .int .i64 0) Try.underlying59 (keyOk_s Try.underlying9) rfl rfl rfl (by simp only [go_sem]) rfl (kvL_pl M) (by simp only [go_sem, keyOf]) (keyFit_S hxK.1) hfd ?_; simp only [go_sem, lkV]; refine hK1 _ ?_; clear hK1 K1)
     (repeat (first | (refine aw_seq ?_; intro K hK) | refine aw_block ?_ | refine aw_region ?_ | (refine lst_x rfl rfl ?_; intro K1 hK1; simp only [go_sem, cArcs_len, ca, half2]; (first | refine hK1 _ ?_ | refine andk (hK1 _ ?_)); clear hK1 K1) | ((first | refine lst_nil ?_ | refine aw_skip ?_); refine hK _ ?_; clear hK K)))
     ((try refine lst_nil ?_); (try refine aw_skip ?_); try simp only [ThenA])
     refine hK _ (q + 1) (by omega) (by omega) ?_
     refine Le.trans (le_pick [0, 1, 4] rfl rfl) ?_
     (try simp only [List.set_nil, List.take_nil, List.take_zero, List.map_append, go_sem])
     (try simp only [cArcs_ren3, hpre])
     simp only [List.length_append, List.length_cons, List.length_nil, Nat.zero_add, kvL, List.map_map, Function.comp_def]
     (refine le_tm ?_; simp only [LeTm, go_sem]; try simp)
    ·have d1 : decide ((q : Int) < (S.length : Int)) = false := by simpa using hlt
     have hq2 : S.take q = S := List.take_of_length_le (by omega)
     rw [hq2]
     (repeat (first | (refine aw_seq ?_; intro K hK) | refine aw_block ?_ | refine aw_region ?_ | (refine lst_x rfl rfl ?_; intro K1 hK1; simp only [go_sem, d1]; (first | refine hK1 _ ?_ | refine andk (hK1 _ ?_)); clear hK1 K1) | ((first | refine lst_nil ?_ | refine aw_skip ?_); refine hK _ ?_; clear hK K)))
     (refine aw_cnd ?_; intro X Y hX hY; simp only [go_sem])
     refine hY ?_
     clear hX hY X Y
     (refine aw_exit ?_; simp only [ThenA, InBl, reduceIte, Nat.reduceEqDiff]; (first | refine hK _ ?_ | (clear hK K; refine hK _ ?_) | (clear hK K; clear hK K; refine hK _ ?_) | (clear hK K; clear hK K; clear hK K; refine hK _ ?_) | (clear hK K; clear hK K; clear hK K; clear hK K; refine hK _ ?_) | (clear hK K; clear hK K; clear hK K; clear hK K; clear hK K; refine hK _ ?_)); clear hK K)
     (repeat (first | (refine aw_seq ?_; intro K hK) | refine aw_block ?_ | refine aw_region ?_ | (refine lst_x rfl rfl ?_; intro K1 hK1; simp only [go_sem]; (first | refine hK1 _ ?_ | refine andk (hK1 _ ?_)); clear hK1 K1) | ((first | refine lst_nil ?_ | refine aw_skip ?_); refine hK _ ?_; clear hK K)))
     ((try refine aw_ret ?_); (try simp only [ThenA, InBl]); refine ret_le (le_pick [2] rfl rfl) ?_; (try simp only [List.set_nil, List.take_nil, List.take_zero, List.map_append, go_sem]); ((try refine aw_ret ?_); (try refine lst_nil ?_); (try simp only [ThenA, InBl]); refine ret_mk (by first | exact .inl rfl | exact .inr rfl) rfl ?_; simp only [rtn, resA, resL, resV, Try.results16, go_sem, true_and, and_true, cArcs_ren3]))
end Go.Proofs.Ythlckclbjknldaa
