/- flow.Walker.Targets. Add, by the machine. delay.Arrows, ref25.DelayArrows, law27.arrows. Delay arrows of a system as rows, plain. ref25.hasArc, covers, split, rounds. ref23.After, ref25.WeakArrows, Events. -/
import Derived.Test.YtahnebicgbjonaaGreatFw1
import Derived.Test.YtahnebicgbjonaaGreatZk
import Derived.Test.YtahnebicgbjonaaGreatMF
import Derived.Test.YtahnebicgbjonaaGreatG45
import Derived.Test.YtahnebicgbjonaaGreatG36
import Derived.Test.YtahnebicgbjonaaGreatMG
namespace Go.Proofs.YtahnebicgbjonaaGreat
set_option linter.unusedVariables false
set_option linter.unusedSimpArgs false
open Go.RowKit
set_option maxRecDepth 100000
attribute [local go_sem] List.set_cons_zero List.set_cons_succ List.map_cons List.map_nil List.take_succ_cons List.take_zero List.drop_zero List.drop_succ_cons C.pl C.one List.all_cons List.all_nil Bool.and_true Nat.mul_one Int.toNat_natCast

def tgR (r : List Ar) (e : Int) : List Nat := (r.filter fun a => a.1 == e).map fun a => a.2.toNat
def tg (R : List (List Ar)) (F : List Nat) (e : Int) : List Nat := F.flatMap fun s => tgR (R.getD s []) e
theorem mem_tgR {r : List Ar} {e : Int} {u : Nat} : u ∈ tgR r e ↔ ∃ a ∈ r, a.1 = e ∧ a.2.toNat = u := by
 unfold tgR
 rw [List.mem_map]
 constructor
 ·rintro ⟨a, ha, rfl⟩
  have := List.mem_filter.1 ha
  exact ⟨a, this.1, by simpa using this.2, rfl⟩
 ·rintro ⟨a, ha, he, rfl⟩
  exact ⟨a, List.mem_filter.2 ⟨ha, by simpa using he⟩, rfl⟩
theorem mem_tg {R : List (List Ar)} {F : List Nat} {e : Int} {u : Nat} : u ∈ tg R F e ↔ ∃ s ∈ F, u ∈ tgR (R.getD s []) e := by unfold tg; rw [List.mem_flatMap]
end Go.Proofs.YtahnebicgbjonaaGreat
namespace Go.Proofs.YtahnebicgbjonaaGreat
set_option linter.unusedVariables false
set_option linter.unusedSimpArgs false
open Go.RowKit
set_option maxRecDepth 100000

theorem addI_at {x : Int} : ∀ {xs : List Int} {k : Nat}, k ≤ xs.length → (∀ i y, i < k → xs[i]? = some y → y < x) → (∀ y, xs[k]? = some y → x < y) → addI x xs = xs.take k ++ x :: xs.drop k
 | [], k, hk, _, _ => by simp at hk; subst hk; rfl
 | y :: ys, 0, _, _, h2 => by
  have := h2 y rfl
  simp only [addI, List.take_zero, List.drop_zero, List.nil_append]
  rw [if_neg (by omega), if_neg (by omega)]
 | y :: ys, k + 1, hk, h1, h2 => by
  have := h1 0 y (by omega) rfl
  simp only [addI, List.take_succ_cons, List.drop_succ_cons, List.cons_append]
  rw [if_pos this, addI_at (by simpa using hk) (fun i z hi hz => h1 (i + 1) z (by omega) hz) (fun z hz => h2 z hz)]
theorem addI_has {x : Int} : ∀ {xs : List Int} {k : Nat}, (∀ i y, i < k → xs[i]? = some y → y < x) → xs[k]? = some x → addI x xs = xs
 | [], k, _, h => by simp at h
 | y :: ys, 0, _, h => by simp at h; simp [addI, h]
 | y :: ys, k + 1, h1, h => by
  have := h1 0 y (by omega) rfl
  simp only [addI]
  rw [if_pos this, addI_has (fun i z hi hz => h1 (i + 1) z (by omega) hz) h]

theorem addT_fc (xs : List Int) (x : Int) (hn : xs.length ≤ 100000000) : FC Tryz.prog 81 [aInts xs, .i x] [] (fun r o => o = [] ∧ r = aInts (addI x xs)) := by
 refine fc_intro Tryz.func81 rfl (by rw [Tryz.ntmps81]; simp) ?_
 rw [Tryz.ntmps81]
 simp only [enum, aInts]
 (refine wk0 ?_; (repeat clear hK K); repeat (refine Kq.mk ?_; intro K hK))
 refine aw_loop (fun k : Nat => { tm := [(0, .a (.c (.t 1 (tInts xs)))), (1, .i x), (5, .i k)], hp := [], n := 48, pin := 0 }) (fun k => k ≤ xs.length ∧ ∀ i y, i < k → xs[i]? = some y → y < x) (fun k => xs.length - k) 0 ?_ ?_ ?_
 ·exact ⟨by omega, by intro i y hi; omega⟩
 ·exact lmz
 ·rintro k ⟨hk, he⟩ K hK
  have fin : ∀ y, (∀ z, xs[k]? = some z → x < z) → y = tInts (xs.take k ++ [x] ++ xs.drop k) → y = tInts (addI x xs) := by
   intro y h1 h2
   rw [h2, addI_at hk he h1]; simp
  have hlen : (xs.take k ++ [x] ++ xs.drop k).length = k + 1 + (xs.length - k) := by simp; omega
  have hlen2 : (xs.take k).length = k := by simp; omega
  have hlen3 : (xs.take k ++ [x]).length = k + 1 := by simp; omega
  by_cases hlt : k < xs.length
  ·have hl1 : decide ((k : Int) < (xs.length : Int)) = true := by simpa using hlt
   (refine wk1 (an @hl1 (an @tInts_len (tInts_get (List.getElem?_eq_getElem hlt)))) ?_; (repeat clear hK K); repeat (refine Kq.mk ?_; intro K hK))
   (refine aw_cnd ?_; intro X Y hX hY; simp only [go_sem])
   refine ⟨fun h => hX ?_, fun h => hY ?_⟩
   ·clear hX hY X Y
    (refine wk0 ?_; (repeat clear hK K); repeat (refine Kq.mk ?_; intro K hK))
    refine rnz ?_
    refine hK _ (k + 1) ⟨by omega, fun i y hi hy => ?_⟩ (by omega) ?_
    ·by_cases e : i = k
     ·subst e; rw [List.getElem?_eq_getElem hlt] at hy; cases hy; simpa using h
     ·exact he i y (by omega) hy
    ·exact lmz
   ·have hle : x ≤ xs[k] := by simpa using h
    clear hX hY X Y
    (refine ekz ?_; repeat clear hK K)
    (refine wk1 (an @hl1 (an @tInts_len (tInts_get (List.getElem?_eq_getElem hlt)))) ?_; (repeat clear hK K); repeat (refine Kq.mk ?_; intro K hK))
    (refine aw_cnd ?_; intro X Y hX hY; simp only [go_sem])
    refine ⟨fun h => hX ?_, fun h => hY ?_⟩
    ·clear hX hY X Y
     (refine wk0 ?_; (repeat clear hK K); repeat (refine Kq.mk ?_; intro K hK))
     ((try refine aw_ret ?_); (try refine lst_nil ?_); (try simp only [ThenA, InBl]); refine ret_mk (by first | exact .inl rfl | exact .inr rfl) rfl ?_; simp only [rtn, resA, resL, resV, Tryz.results81, go_sem])
     rw [addI_has he (by rw [List.getElem?_eq_getElem hlt]; simpa using h)]
    ·have hne : x < xs[k] := by simp at h; omega
     clear hX hY X Y
     (refine wk1 (an @List.set_cons_zero.{0} (an @List.set_cons_succ.{0} (an @List.take_succ_cons.{0} (an @List.take_zero.{0} (an @List.drop_zero.{0} (an @List.length_take.{0} (an @List.length_drop.{0} (an @List.length_append.{0} (an @tInts_len (an @tInts_take (an @tInts_drop (an @tInts_c (an @cInts_len (an @cInts_one (an @cInts_snoc (an @cInts_app (an @cInts_take (an @cInts_drop (an (Nat.min_eq_left hk) (an (List.take_of_length_le (Nat.le_of_eq hlen2)) (List.take_of_length_le (Nat.le_of_eq hlen3)))))))))))))))))))))) ?_; (repeat clear hK K); repeat (refine Kq.mk ?_; intro K hK))
     ((try refine aw_ret ?_); (try simp only [ThenA, InBl]); refine ret_le (le_frz (r := ⟨3, 1, true, cInts (xs.take k ++ [x] ++ xs.drop k)⟩) 4 (tInts (xs.take k ++ [x] ++ xs.drop k)) rfl (fz_c _) (show 0 < (1 : Nat) by omega)) ?_; refine ret_le (le_pick [] rfl rfl) ?_; simp only [ST.frz, A0.frz, AV.frz, C.frz, Nat.le_refl, List.set_cons_zero, List.set_cons_succ, go_sem, tInts_len, hlen, Nat.le_refl, tInts_take, List.take_of_length_le (Nat.le_of_eq hlen)]; (try simp only [List.set_nil, List.take_nil, List.take_zero, List.map_append, go_sem]); ((try refine aw_ret ?_); (try refine lst_nil ?_); (try simp only [ThenA, InBl]); refine ret_mk (by first | exact .inl rfl | exact .inr rfl) rfl ?_; simp only [rtn, resA, resL, resV, Tryz.results81, go_sem, true_and, and_true, tInts_len, hlen, Nat.le_refl, tInts_take, List.take_of_length_le (Nat.le_of_eq hlen)]))
     rw [fin _ (fun z hz => by rw [List.getElem?_eq_getElem hlt] at hz; cases hz; exact hne) rfl]
  ·have hl1 : decide ((k : Int) < (xs.length : Int)) = false := by simpa using hlt
   (refine wk1 (an @hl1 @tInts_len) ?_; (repeat clear hK K); repeat (refine Kq.mk ?_; intro K hK))
   refine cyz ?_
   (refine ekz ?_; repeat clear hK K)
   (refine wk1 (an @hl1 @tInts_len) ?_; (repeat clear hK K); repeat (refine Kq.mk ?_; intro K hK))
   refine cyz ?_
   (refine wk1 (an @List.set_cons_zero.{0} (an @List.set_cons_succ.{0} (an @List.take_succ_cons.{0} (an @List.take_zero.{0} (an @List.drop_zero.{0} (an @List.length_take.{0} (an @List.length_drop.{0} (an @List.length_append.{0} (an @tInts_len (an @tInts_take (an @tInts_drop (an @tInts_c (an @cInts_len (an @cInts_one (an @cInts_snoc (an @cInts_app (an @cInts_take (an @cInts_drop (an (Nat.min_eq_left hk) (an (List.take_of_length_le (Nat.le_of_eq hlen2)) (List.take_of_length_le (Nat.le_of_eq hlen3)))))))))))))))))))))) ?_; (repeat clear hK K); repeat (refine Kq.mk ?_; intro K hK))
   ((try refine aw_ret ?_); (try simp only [ThenA, InBl]); refine ret_le (le_frz (r := ⟨3, 1, true, cInts (xs.take k ++ [x] ++ xs.drop k)⟩) 4 (tInts (xs.take k ++ [x] ++ xs.drop k)) rfl (fz_c _) (show 0 < (1 : Nat) by omega)) ?_; refine ret_le (le_pick [] rfl rfl) ?_; simp only [ST.frz, A0.frz, AV.frz, C.frz, Nat.le_refl, List.set_cons_zero, List.set_cons_succ, go_sem, tInts_len, hlen, Nat.le_refl, tInts_take, List.take_of_length_le (Nat.le_of_eq hlen)]; (try simp only [List.set_nil, List.take_nil, List.take_zero, List.map_append, go_sem]); ((try refine aw_ret ?_); (try refine lst_nil ?_); (try simp only [ThenA, InBl]); refine ret_mk (by first | exact .inl rfl | exact .inr rfl) rfl ?_; simp only [rtn, resA, resL, resV, Tryz.results81, go_sem, true_and, and_true, tInts_len, hlen, Nat.le_refl, tInts_take, List.take_of_length_le (Nat.le_of_eq hlen)]))
   rw [fin _ (fun z hz => by rw [List.getElem?_eq_none (by omega)] at hz; cases hz) rfl]

attribute [local go_sem] List.set_cons_zero List.set_cons_succ List.map_cons List.map_nil List.take_succ_cons List.take_zero List.drop_zero List.drop_succ_cons C.pl C.one List.all_cons List.all_nil Bool.and_true Nat.mul_one Int.toNat_natCast
def arrOk (R : List (List Ar)) (s e : Int) : Bool := valB R && decide (0 ≤ s) && decide (s < (R.length : Int)) && decide (0 ≤ e) && decide (e ≤ 1025)
theorem arrOk_no {R : List (List Ar)} {s e : Int} (h : arrOk R s e = false) (hv : valB R = true) (h1 : 0 ≤ s) (h2 : s < (R.length : Int)) (h3 : 0 ≤ e) : 1025 < e := by
 unfold arrOk at h
 rw [hv, decide_eq_true h1, decide_eq_true h2, decide_eq_true h3] at h
 simp at h; omega
def reS (R : List (List Ar)) (s : Nat) (L : List Nat) : Prop := ∃ p : Nat → Bool, (∀ u, u < R.length → (p u = true ↔ Rc (Adj true R) s u)) ∧ L = ordN R.length p
theorem reS_uniq {R : List (List Ar)} {s : Nat} {L M : List Nat} (h1 : reS R s L) (h2 : reS R s M) : L = M := by
 obtain ⟨p, hp, rfl⟩ := h1
 obtain ⟨q, hq, rfl⟩ := h2
 unfold ordN
 refine List.filter_congr fun u hu => ?_
 have hu2 : u < R.length := by simpa using hu
 rw [Bool.eq_iff_iff, hp u hu2, hq u hu2]
theorem reS_lt {R : List (List Ar)} {s : Nat} {L : List Nat} (h : reS R s L) : (∀ v ∈ L, v < R.length) ∧ L.length ≤ R.length := by
 obtain ⟨p, hp, rfl⟩ := h
 refine ⟨fun v hv => (mem_ordN.1 hv).1, ?_⟩
 unfold ordN
 refine Nat.le_trans (List.length_filter_le _ _) (by simp)
def dArr (R : List (List Ar)) (s e : Int) (L : List Int) : Prop :=
 (arrOk R s e = false ∧ L = []) ∨ (arrOk R s e = true ∧ ∃ M, reS R s.toNat M ∧ ((e = 0 ∧ L = M.map Int.ofNat) ∨ (e ≠ 0 ∧ ∃ p : Nat → Bool, (∀ u, u < R.length → (p u = true ↔ u ∈ tg R M e)) ∧ L = (ordN R.length p).map Int.ofNat)))
theorem dArr_uniq {R : List (List Ar)} {s e : Int} {L M : List Int} (h1 : dArr R s e L) (h2 : dArr R s e M) : L = M := by
 rcases h1 with ⟨a1, rfl⟩ | ⟨a1, N, hN, a2⟩
 ·rcases h2 with ⟨_, rfl⟩ | ⟨b1, _⟩
  ·rfl
  ·rw [a1] at b1; cases b1
 ·rcases h2 with ⟨b1, _⟩ | ⟨_, N2, hN2, b2⟩
  ·rw [a1] at b1; cases b1
  ·have := reS_uniq hN hN2
   subst this
   rcases a2 with ⟨e1, rfl⟩ | ⟨e1, p, hp, rfl⟩
   ·rcases b2 with ⟨_, rfl⟩ | ⟨e2, _⟩
    ·rfl
    ·exact absurd e1 e2
   ·rcases b2 with ⟨e2, _⟩ | ⟨_, q, hq, rfl⟩
    ·exact absurd e2 e1
    ·congr 1
     unfold ordN
     refine List.filter_congr fun u hu => ?_
     have hu2 : u < R.length := by simpa using hu
     rw [Bool.eq_iff_iff, hp u hu2, hq u hu2]
theorem tInts_nil : tInts ([] : List Int) = [] := rfl
def tgI (R : List (List Ar)) (F : List Nat) (e : Int) (acc : List Int) : List Int := F.foldl (fun acc s => (R.getD s []).foldl (fun acc a => if a.1 = e then addI a.2 acc else acc) acc) acc
def tgi1 (r : List Ar) (e : Int) (acc : List Int) : List Int := r.foldl (fun acc a => if a.1 = e then addI a.2 acc else acc) acc
theorem tgi1_snoc (r : List Ar) (e : Int) (acc : List Int) (a : Ar) : tgi1 (r ++ [a]) e acc = if a.1 = e then addI a.2 (tgi1 r e acc) else tgi1 r e acc := by unfold tgi1; rw [List.foldl_append]; rfl
theorem tgI_snoc (R : List (List Ar)) (F : List Nat) (e : Int) (acc : List Int) (s : Nat) : tgI R (F ++ [s]) e acc = tgi1 (R.getD s []) e (tgI R F e acc) := by unfold tgI; rw [List.foldl_append]; rfl
theorem mem_tgi1 {x : Int} {e : Int} : ∀ (r : List Ar) (acc : List Int), x ∈ tgi1 r e acc ↔ x ∈ acc ∨ ∃ a ∈ r, a.1 = e ∧ a.2 = x := by
 intro r
 induction r with
 | nil => intro acc; simp [tgi1]
 | cons a r ih =>
  intro acc
  show x ∈ tgi1 r e (if a.1 = e then addI a.2 acc else acc) ↔ _
  rw [ih]
  simp only [List.mem_cons, exists_eq_or_imp]
  split
  ·rename_i h
   rw [mem_addI]
   constructor
   ·rintro ((rfl | h1) | h1)
    ·exact .inr (.inl ⟨h, rfl⟩)
    ·exact .inl h1
    ·exact .inr (.inr h1)
   ·rintro (h1 | ⟨_, rfl⟩ | h1)
    ·exact .inl (.inr h1)
    ·exact .inl (.inl rfl)
    ·exact .inr h1
  ·rename_i h
   constructor
   ·rintro (h1 | h1)
    ·exact .inl h1
    ·exact .inr (.inr h1)
   ·rintro (h1 | ⟨h2, _⟩ | h1)
    ·exact .inl h1
    ·exact absurd h2 h
    ·exact .inr h1
theorem mem_tgI {R : List (List Ar)} {x e : Int} : ∀ (F : List Nat) (acc : List Int), x ∈ tgI R F e acc ↔ x ∈ acc ∨ ∃ s ∈ F, ∃ a ∈ R.getD s [], a.1 = e ∧ a.2 = x := by
 intro F
 induction F with
 | nil => intro acc; simp [tgI]
 | cons s F ih =>
  intro acc
  show x ∈ tgI R F e (tgi1 (R.getD s []) e acc) ↔ _
  rw [ih, mem_tgi1]
  simp only [List.mem_cons, exists_eq_or_imp]
  rw [or_assoc]
theorem tgi1_asc {e : Int} : ∀ (r : List Ar) (acc : List Int), Asc acc → Asc (tgi1 r e acc) := by
 intro r
 induction r with
 | nil => intro acc h; exact h
 | cons a r ih =>
  intro acc h
  show Asc (tgi1 r e (if a.1 = e then addI a.2 acc else acc))
  split
  ·exact ih _ (addI_asc h)
  ·exact ih _ h
theorem tgI_asc {R : List (List Ar)} {e : Int} : ∀ (F : List Nat) (acc : List Int), Asc acc → Asc (tgI R F e acc) := by
 intro F
 induction F with
 | nil => intro acc h; exact h
 | cons s F ih => intro acc h; exact ih _ (tgi1_asc _ _ h)
theorem ordN_asc (n : Nat) (p : Nat → Bool) : Asc ((ordN n p).map Int.ofNat) := by
 unfold Asc
 rw [List.pairwise_map]
 exact (ordN_sorted n p).imp fun h => by simpa using h
theorem asc_bd {l : List Int} {n : Nat} (h : Asc l) (hb : ∀ x ∈ l, 0 ≤ x ∧ x < (n : Int)) : l.length ≤ n := by
 have h1 : (l.map Int.toNat).Nodup := by
  unfold Asc at h
  rw [List.Nodup, List.pairwise_map]
  refine h.imp_of_mem fun {a b} ha hb2 hab e => ?_
  have := hb a ha
  have := hb b hb2
  omega
 have := nodup_le n (l.map Int.toNat) h1 fun u hu => by
  obtain ⟨x, hx, rfl⟩ := List.mem_map.1 hu
  have := hb x hx
  omega
 simpa using this
theorem tgI_eq {R : List (List Ar)} {F : List Nat} {e : Int} (hbd : ∀ r ∈ R, ∀ a ∈ r, 0 ≤ a.2 ∧ a.2 < (R.length : Int)) (hF : ∀ v ∈ F, v < R.length) : ∃ p : Nat → Bool, (∀ u, u < R.length → (p u = true ↔ u ∈ tg R F e)) ∧ tgI R F e [] = (ordN R.length p).map Int.ofNat := by
 refine ⟨fun u => decide (u ∈ tg R F e), fun u _ => by simp, ?_⟩
 refine asc_ext (tgI_asc F [] List.Pairwise.nil) (ordN_asc _ _) fun x => ?_
 rw [mem_tgI]
 simp only [List.not_mem_nil, false_or]
 have hg : ∀ s, s < R.length → R.getD s [] ∈ R := fun s hs => by rw [List.getD_eq_getElem?_getD, List.getElem?_eq_getElem hs]; exact List.getElem_mem hs
 constructor
 ·rintro ⟨s, hs, a, ha, hae, rfl⟩
  have hb := hbd _ (hg s (hF s hs)) a ha
  refine List.mem_map.2 ⟨a.2.toNat, mem_ordN.2 ⟨by omega, ?_⟩, by simp only [Int.ofNat_eq_natCast]; omega⟩
  simp only [decide_eq_true_eq]
  exact mem_tg.2 ⟨s, hs, mem_tgR.2 ⟨a, ha, hae, rfl⟩⟩
 ·intro h
  obtain ⟨u, hu, rfl⟩ := List.mem_map.1 h
  have h2 := (mem_ordN.1 hu).2
  simp only [decide_eq_true_eq] at h2
  obtain ⟨s, hs, h3⟩ := mem_tg.1 h2
  obtain ⟨a, ha, hae, hau⟩ := mem_tgR.1 h3
  have hb := hbd _ (hg s (hF s hs)) a ha
  exact ⟨s, hs, a, ha, hae, by simp only [Int.ofNat_eq_natCast]; omega⟩
set_option maxHeartbeats 4000000 in
theorem rdarr_fc (R : List (List Ar)) (s e : Int) (hn : R.length ≤ 1000000) (hr : ∀ r ∈ R, r.length ≤ 1000000) : FC Tryz.prog 70 [aLts R, .i s, .i e] [] (fun r o => o = [] ∧ ∃ L, dArr R s e L ∧ r = aInts L) := by
 refine fc_intro Tryz.func70 rfl (by rw [Tryz.ntmps70]; simp) ?_
 rw [Tryz.ntmps70]
 simp only [enum, aLts]
 cases hok : arrOk R s e with
 | false =>
  by_cases hv : valB R = true
  ·by_cases h1 : 0 ≤ s
   ·have c1 : decide (s < 0) = false := decide_eq_false (by omega)
    by_cases h2 : s < (R.length : Int)
    ·have c2 : decide (s ≥ (R.length : Int)) = false := decide_eq_false (by omega)
     by_cases h3 : 0 ≤ e
     ·have c3 : decide (e < 0) = false := decide_eq_false (by omega)
      have h4 := arrOk_no hok hv h1 h2 h3
      have c4 : decide (e > 1025) = true := decide_eq_true (by omega)
      (refine wk0 ?_; (repeat clear hK K); repeat (refine Kq.mk ?_; intro K hK))
      (refine ckz (validR_fc R (by omega) (fun r h => by have := hr r h; omega)) ?_; intro K1 hK1)
      rintro _ _ ⟨rfl, rfl⟩
      (refine bkz ?_; clear hK1 K1)
      (refine wk1 (an @hv (an @Bool.not_true (an @c1 (an @c2 (an @c3 (an @c4 @tRows_len)))))) ?_; (repeat clear hK K); repeat (refine Kq.mk ?_; intro K hK))
      refine cxz ?_
      (refine wk0 ?_; (repeat clear hK K); repeat (refine Kq.mk ?_; intro K hK))
      refine aw_le (le_nilt 6 1 ?_) ?_
      ·simp only [go_sem]
      ((try refine aw_ret ?_); (try simp only [ThenA, InBl]); refine ret_le (le_pick [] rfl rfl) ?_; (try simp only [List.set_nil, List.take_nil, List.take_zero, List.map_append, go_sem]); ((try refine aw_ret ?_); (try refine lst_nil ?_); (try simp only [ThenA, InBl]); refine ret_mk (by first | exact .inl rfl | exact .inr rfl) rfl ?_; simp only [rtn, resA, resL, resV, Tryz.results70, go_sem, true_and, and_true]))
      exact ⟨[], .inl ⟨hok, rfl⟩, by simp only [aInts, tInts_nil]⟩
     ·have c3 : decide (e < 0) = true := decide_eq_true (by omega)
      (refine wk0 ?_; (repeat clear hK K); repeat (refine Kq.mk ?_; intro K hK))
      (refine ckz (validR_fc R (by omega) (fun r h => by have := hr r h; omega)) ?_; intro K1 hK1)
      rintro _ _ ⟨rfl, rfl⟩
      (refine bkz ?_; clear hK1 K1)
      (refine wk1 (an @hv (an @Bool.not_true (an @c1 (an @c2 (an @c3 @tRows_len))))) ?_; (repeat clear hK K); repeat (refine Kq.mk ?_; intro K hK))
      refine cxz ?_
      (refine wk0 ?_; (repeat clear hK K); repeat (refine Kq.mk ?_; intro K hK))
      refine aw_le (le_nilt 6 1 ?_) ?_
      ·simp only [go_sem]
      ((try refine aw_ret ?_); (try simp only [ThenA, InBl]); refine ret_le (le_pick [] rfl rfl) ?_; (try simp only [List.set_nil, List.take_nil, List.take_zero, List.map_append, go_sem]); ((try refine aw_ret ?_); (try refine lst_nil ?_); (try simp only [ThenA, InBl]); refine ret_mk (by first | exact .inl rfl | exact .inr rfl) rfl ?_; simp only [rtn, resA, resL, resV, Tryz.results70, go_sem, true_and, and_true]))
      exact ⟨[], .inl ⟨hok, rfl⟩, by simp only [aInts, tInts_nil]⟩
    ·have c2 : decide (s ≥ (R.length : Int)) = true := decide_eq_true (by omega)
     (refine wk0 ?_; (repeat clear hK K); repeat (refine Kq.mk ?_; intro K hK))
     (refine ckz (validR_fc R (by omega) (fun r h => by have := hr r h; omega)) ?_; intro K1 hK1)
     rintro _ _ ⟨rfl, rfl⟩
     (refine bkz ?_; clear hK1 K1)
     (refine wk1 (an @hv (an @Bool.not_true (an @c1 (an @c2 @tRows_len)))) ?_; (repeat clear hK K); repeat (refine Kq.mk ?_; intro K hK))
     refine cxz ?_
     (refine wk0 ?_; (repeat clear hK K); repeat (refine Kq.mk ?_; intro K hK))
     refine aw_le (le_nilt 6 1 ?_) ?_
     ·simp only [go_sem]
     ((try refine aw_ret ?_); (try simp only [ThenA, InBl]); refine ret_le (le_pick [] rfl rfl) ?_; (try simp only [List.set_nil, List.take_nil, List.take_zero, List.map_append, go_sem]); ((try refine aw_ret ?_); (try refine lst_nil ?_); (try simp only [ThenA, InBl]); refine ret_mk (by first | exact .inl rfl | exact .inr rfl) rfl ?_; simp only [rtn, resA, resL, resV, Tryz.results70, go_sem, true_and, and_true]))
     exact ⟨[], .inl ⟨hok, rfl⟩, by simp only [aInts, tInts_nil]⟩
   ·have c1 : decide (s < 0) = true := decide_eq_true (by omega)
    (refine wk0 ?_; (repeat clear hK K); repeat (refine Kq.mk ?_; intro K hK))
    (refine ckz (validR_fc R (by omega) (fun r h => by have := hr r h; omega)) ?_; intro K1 hK1)
    rintro _ _ ⟨rfl, rfl⟩
    (refine bkz ?_; clear hK1 K1)
    (refine wk1 (an @hv (an @Bool.not_true (an @c1 @tRows_len))) ?_; (repeat clear hK K); repeat (refine Kq.mk ?_; intro K hK))
    refine cxz ?_
    (refine wk0 ?_; (repeat clear hK K); repeat (refine Kq.mk ?_; intro K hK))
    refine aw_le (le_nilt 6 1 ?_) ?_
    ·simp only [go_sem]
    ((try refine aw_ret ?_); (try simp only [ThenA, InBl]); refine ret_le (le_pick [] rfl rfl) ?_; (try simp only [List.set_nil, List.take_nil, List.take_zero, List.map_append, go_sem]); ((try refine aw_ret ?_); (try refine lst_nil ?_); (try simp only [ThenA, InBl]); refine ret_mk (by first | exact .inl rfl | exact .inr rfl) rfl ?_; simp only [rtn, resA, resL, resV, Tryz.results70, go_sem, true_and, and_true]))
    exact ⟨[], .inl ⟨hok, rfl⟩, by simp only [aInts, tInts_nil]⟩
  ·have hv2 : valB R = false := by simpa using hv
   (refine wk0 ?_; (repeat clear hK K); repeat (refine Kq.mk ?_; intro K hK))
   (refine ckz (validR_fc R (by omega) (fun r h => by have := hr r h; omega)) ?_; intro K1 hK1)
   rintro _ _ ⟨rfl, rfl⟩
   (refine bkz ?_; clear hK1 K1)
   (refine wk1 (an @hv2 (an @Bool.not_false @tRows_len)) ?_; (repeat clear hK K); repeat (refine Kq.mk ?_; intro K hK))
   refine cxz ?_
   (refine wk0 ?_; (repeat clear hK K); repeat (refine Kq.mk ?_; intro K hK))
   refine aw_le (le_nilt 6 1 ?_) ?_
   ·simp only [go_sem]
   ((try refine aw_ret ?_); (try simp only [ThenA, InBl]); refine ret_le (le_pick [] rfl rfl) ?_; (try simp only [List.set_nil, List.take_nil, List.take_zero, List.map_append, go_sem]); ((try refine aw_ret ?_); (try refine lst_nil ?_); (try simp only [ThenA, InBl]); refine ret_mk (by first | exact .inl rfl | exact .inr rfl) rfl ?_; simp only [rtn, resA, resL, resV, Tryz.results70, go_sem, true_and, and_true]))
   exact ⟨[], .inl ⟨hok, rfl⟩, by simp only [aInts, tInts_nil]⟩
 | true =>
  have hok2 := hok
  unfold arrOk at hok2
  simp only [Bool.and_eq_true, decide_eq_true_eq] at hok2
  obtain ⟨⟨⟨⟨hv, h1⟩, h2⟩, h3⟩, h4⟩ := hok2
  have hlo : looB R = true := decide_eq_true (of_decide_eq_true hv).1
  have hbd := (of_decide_eq_true hlo).2.2.2
  have c1 : decide (s < 0) = false := decide_eq_false (by omega)
  have c2 : decide (s ≥ (R.length : Int)) = false := decide_eq_false (by omega)
  have c3 : decide (e < 0) = false := decide_eq_false (by omega)
  have c4 : decide (e > 1025) = false := decide_eq_false (by omega)
  obtain ⟨sn, hsn⟩ : ∃ sn : Nat, s = (sn : Int) := ⟨s.toNat, by omega⟩
  subst hsn
  have hsl : sn < R.length := by omega
  (refine wk0 ?_; (repeat clear hK K); repeat (refine Kq.mk ?_; intro K hK))
  (refine ckz (validR_fc R (by omega) (fun r h => by have := hr r h; omega)) ?_; intro K1 hK1)
  rintro _ _ ⟨rfl, rfl⟩
  (refine bkz ?_; clear hK1 K1)
  (refine wk1 (an @hv (an @Bool.not_true (an @c1 (an @c2 (an @c3 (an @c4 @tRows_len)))))) ?_; (repeat clear hK K); repeat (refine Kq.mk ?_; intro K hK))
  refine cyz ?_
  (refine wk0 ?_; (repeat clear hK K); repeat (refine Kq.mk ?_; intro K hK))
  (refine lst_le (le_frz (r := ⟨3, 1, true, cInts [(sn : Int)]⟩) 1 (tInts [(sn : Int)]) rfl (fz_c _) (show 0 < (1 : Nat) by omega)) ?_; simp only [ST.frz, A0.frz, AV.frz, C.frz, Nat.le_refl, List.set_cons_zero, List.set_cons_succ, go_sem, show (tInts [(sn : Int)]).take 1 = tInts [(sn : Int)] from rfl])
  (refine ckz (reach_fc R sn true hv hsl hn hr) ?_; intro K1 hK1)
  rintro _ _ ⟨B, hB, hBr, L, hL, rfl, rfl⟩
  (simp only [aInts, aSets, rInts, cInts_up, List.append_nil, List.nil_append, List.length_map, go_sem]; refine hK1 _ ?_; clear hK1 K1)
  obtain ⟨M, hMd⟩ : ∃ M, M = ordN R.length (seenB B) := ⟨_, rfl⟩
  have hM : reS R sn M := ⟨seenB B, fun u hu => by rw [hBr, adj_eq true hv], hMd⟩
  have hLM : L = M.map Int.ofNat := by rw [hL, hMd]; rfl
  have hMl := reS_lt hM
  have hLl : L.length = M.length := by rw [hLM, List.length_map]
  have htk : (tInts L).take L.length = tInts L := List.take_of_length_le (by rw [tInts_len]; exact Nat.le_refl _)
  by_cases he : e = 0
  ·have d0 : (e == 0) = true := by simp [he]
   (refine wk1 @d0 ?_; (repeat clear hK K); repeat (refine Kq.mk ?_; intro K hK))
   refine cxz ?_
   (refine wk0 ?_; (repeat clear hK K); repeat (refine Kq.mk ?_; intro K hK))
   ((try refine aw_ret ?_); (try simp only [ThenA, InBl]); refine ret_le (le_frz (r := ⟨3, 1, true, cInts L⟩) 2 (tInts L) rfl (fz_c _) (show 0 < (1 : Nat) by omega)) ?_; refine ret_le (le_pick [] rfl rfl) ?_; simp only [ST.frz, A0.frz, AV.frz, C.frz, Nat.le_refl, List.set_cons_zero, List.set_cons_succ, go_sem, tInts_len, htk]; (try simp only [List.set_nil, List.take_nil, List.take_zero, List.map_append, go_sem]); ((try refine aw_ret ?_); (try refine lst_nil ?_); (try simp only [ThenA, InBl]); refine ret_mk (by first | exact .inl rfl | exact .inr rfl) rfl ?_; simp only [rtn, resA, resL, resV, Tryz.results70, go_sem, true_and, and_true, tInts_len, htk]))
   exact ⟨_, .inr ⟨hok, M, hM, .inl ⟨he, hLM⟩⟩, rfl⟩
  ·have d0 : (e == 0) = false := by simpa using he
   (refine wk1 @d0 ?_; (repeat clear hK K); repeat (refine Kq.mk ?_; intro K hK))
   refine cyz ?_
   (refine wk0 ?_; (repeat clear hK K); repeat (refine Kq.mk ?_; intro K hK))
   refine aw_le (le_nilt 8 1 ?_) ?_
   ·simp only [go_sem]
   refine aw_loop (fun i : Nat => { tm := [(2, .i e), (3, .a (.c (.p 0 0))), (7, .a (.c (.s 2 L.length))), (8, .a (.c (.t 1 (tInts (tgI R (M.take i) e []))))), (9, .i i)], hp := [.r ⟨25, 1, false, [.t 1 (tRows R)]⟩, .d, .r ⟨3, 1, true, cInts L⟩], n := 88, pin := 0 }) (fun i => i ≤ L.length) (fun i => L.length - i) 0 ?_ ?_ ?_
   ·omega
   ·simp only [List.take_zero, tgI, List.foldl_nil, tInts_nil]
    exact lmz
   ·rintro i hi K hK
    by_cases hlt : i < L.length
    ·have d1 : decide ((i : Int) < (L.length : Int)) = true := by simpa using hlt
     have hiM : i < M.length := by omega
     have gL : (cInts L)[i]? = some (.v (.int .i64 (M[i] : Int))) := cInts_get (by rw [hLM, List.getElem?_map, List.getElem?_eq_getElem hiM]; rfl)
     have hul := hMl.1 _ (List.getElem_mem hiM)
     have hTk : M.take (i + 1) = M.take i ++ [M[i]] := List.take_succ_eq_append_getElem hiM
     have hsub : ∀ v ∈ M.take i, v < R.length := fun v hv => hMl.1 v (List.mem_of_mem_take hv)
     generalize M[i] = u at *
     have hgR := List.getElem?_eq_getElem hul
     have hrl := hr _ (List.getElem_mem hul)
     have hRu : R.getD u [] = R[u] := by rw [List.getD_eq_getElem?_getD, hgR]; rfl
     have hbr := hbd _ (List.getElem_mem hul)
     generalize hrr : R[u] = row at *
     have hacc : Asc (tgI R (M.take i) e []) ∧ ∀ x ∈ tgI R (M.take i) e [], 0 ≤ x ∧ x < (R.length : Int) := by
      refine ⟨tgI_asc _ _ List.Pairwise.nil, fun x hx => ?_⟩
      rw [mem_tgI] at hx
      rcases hx with h | ⟨s, hs, a, ha, _, rfl⟩
      ·simp at h
      ·have hsl2 := hsub s hs
       rw [List.getD_eq_getElem?_getD, List.getElem?_eq_getElem hsl2, Option.getD_some] at ha
       have := hbd _ (List.getElem_mem hsl2) a ha
       exact ⟨this.2.2.1, this.2.2.2⟩
     have hnx : tgI R (M.take (i + 1)) e [] = tgi1 row e (tgI R (M.take i) e []) := by rw [hTk, tgI_snoc, hRu]
     generalize tgI R (M.take i) e [] = acc at *
     have hKo := hK
     (refine wk1 (an @d1 @cInts_len) ?_; (repeat clear hK K); repeat (refine Kq.mk ?_; intro K hK))
     refine cxz ?_
     (refine wk0 ?_; (repeat clear hK K); repeat (refine Kq.mk ?_; intro K hK))
     refine aw_loop (fun k : Nat => { tm := [(2, .i e), (3, .a (.c (.p 0 0))), (7, .a (.c (.s 2 L.length))), (8, .a (.c (.t 1 (tInts (tgi1 (row.take k) e acc))))), (9, .i i), (10, .i k)], hp := [.r ⟨25, 1, false, [.t 1 (tRows R)]⟩, .d, .r ⟨3, 1, true, cInts L⟩], n := 88, pin := 0 }) (fun k => k ≤ row.length) (fun k => row.length - k) 0 ?_ ?_ ?_
     ·omega
     ·simp only [List.take_zero, tgi1, List.foldl_nil]
      exact lmz
     ·rintro k hk K hK
      by_cases hlt2 : k < row.length
      ·have d2 : decide ((k : Int) < (row.length : Int)) = true := by simpa using hlt2
       have ha0 := tArcs_c0 hlt2
       have ha1 := tArcs_c1 hlt2
       have hsn := tgi1_snoc (row.take k) e acc row[k]
       rw [← List.take_succ_eq_append_getElem hlt2] at hsn
       have hql : (tgi1 (row.take k) e acc).length ≤ R.length := asc_bd (tgi1_asc _ _ hacc.1) fun x hx => by
        rw [mem_tgi1] at hx
        rcases hx with h | ⟨a, ha, _, rfl⟩
        ·exact hacc.2 x h
        ·have := hbr a (List.mem_of_mem_take ha)
         exact ⟨this.2.2.1, this.2.2.2⟩
       generalize tgi1 (row.take k) e acc = q at *
       (refine wk0 ?_; (repeat clear hK K); repeat (refine Kq.mk ?_; intro K hK))
       (refine aw_regionU 10 [(0, 0), (1, 0), (2, 1), (3, 0), (4, 0), (5, 0), (6, 1), (7, 0), (8, 1), (9, 0), (10, 2)] (by kernel_rfl) (by kernel_rfl) (by intro c st h; simp [ThenA, InBl, Ret] at h) ?_)
       (refine uk1 (an @tRows_len (an (tRows_get hgR) (an @cInts_len (an @gL (an @tArcs_len (an @half2 @d2)))))) ?_; repeat clear hK K)
       refine cxz ?_
       (refine wk0 ?_; (repeat clear hK K); repeat (refine Kq.mk ?_; intro K hK))
       by_cases hae : row[k].1 = e
       ·have d3 : (row[k].1 == e) = true := by simpa using hae
        rw [if_pos hae] at hsn
        (refine aw_regionU 13 [(0, 0), (1, 1), (2, 0), (3, 0), (4, 0), (5, 1), (6, 0), (7, 1), (8, 0), (9, 0), (10, 0), (11, 1), (12, 0), (13, 2)] (by kernel_rfl) (by kernel_rfl) (by intro c st h; simp [ThenA, InBl, Ret] at h) ?_)
        (refine uk1 (an @tRows_len (an (tRows_get hgR) (an @cInts_len (an @gL (an @tArcs_len (an @half2 (an @ha0 @d3))))))) ?_; repeat clear hK K)
        refine cxz ?_
        (refine wk0 ?_; (repeat clear hK K); repeat (refine Kq.mk ?_; intro K hK))
        (refine aw_regionU 13 [(0, 0), (1, 0), (2, 1), (3, 0), (4, 0), (5, 0), (6, 1), (7, 0), (8, 1), (9, 0), (10, 0), (11, 0), (12, 1), (13, 2), (14, 0)] (by kernel_rfl) (by kernel_rfl) (by intro c st h; simp [ThenA, InBl, Ret] at h) ?_)
        (refine uk1 (an @tRows_len (an (tRows_get hgR) (an @cInts_len (an @gL (an @tArcs_len (an @half2 @ha1)))))) ?_; repeat clear hK K)
        (refine uckz (addT_fc q row[k].2 (by omega)) ?_; intro K1 hK1)
        rintro _ _ ⟨rfl, rfl⟩
        (refine bkz ?_; clear hK1 K1)
        (refine uk0 ?_; repeat clear hK K)
        (refine wk0 ?_; (repeat clear hK K); repeat (refine Kq.mk ?_; intro K hK))
        refine rnz ?_
        refine hK _ (k + 1) (by omega) (by omega) ?_
        rw [hsn]
        exact lmz
       ·have d3 : (row[k].1 == e) = false := by simpa using hae
        rw [if_neg hae] at hsn
        (refine aw_regionU 13 [(0, 0), (1, 1), (2, 0), (3, 0), (4, 0), (5, 1), (6, 0), (7, 1), (8, 0), (9, 0), (10, 0), (11, 1), (12, 0), (13, 2)] (by kernel_rfl) (by kernel_rfl) (by intro c st h; simp [ThenA, InBl, Ret] at h) ?_)
        (refine uk1 (an @tRows_len (an (tRows_get hgR) (an @cInts_len (an @gL (an @tArcs_len (an @half2 (an @ha0 @d3))))))) ?_; repeat clear hK K)
        refine cyz ?_
        (refine wk0 ?_; (repeat clear hK K); repeat (refine Kq.mk ?_; intro K hK))
        refine rnz ?_
        refine hK _ (k + 1) (by omega) (by omega) ?_
        rw [hsn]
        exact lmz
      ·have d2 : decide ((k : Int) < (row.length : Int)) = false := by simpa using hlt2
       have htr : row.take k = row := List.take_of_length_le (by omega)
       rw [htr, ← hnx]
       (refine wk0 ?_; (repeat clear hK K); repeat (refine Kq.mk ?_; intro K hK))
       (refine aw_regionU 10 [(0, 0), (1, 0), (2, 1), (3, 0), (4, 0), (5, 0), (6, 1), (7, 0), (8, 1), (9, 0), (10, 2)] (by kernel_rfl) (by kernel_rfl) (by intro c st h; simp [ThenA, InBl, Ret] at h) ?_)
       (refine uk1 (an @tRows_len (an (tRows_get hgR) (an @cInts_len (an @gL (an @tArcs_len (an @half2 @d2)))))) ?_; repeat clear hK K)
       refine cyz ?_
       (refine ekz ?_; repeat clear hK K)
       (refine wk0 ?_; (repeat clear hK K); repeat (refine Kq.mk ?_; intro K hK))
       refine rnz ?_
       refine hKo _ (i + 1) (by omega) (by omega) ?_
       exact lmz
    ·have d1 : decide ((i : Int) < (L.length : Int)) = false := by simpa using hlt
     have htM : M.take i = M := List.take_of_length_le (by omega)
     rw [htM]
     (refine wk1 (an @d1 @cInts_len) ?_; (repeat clear hK K); repeat (refine Kq.mk ?_; intro K hK))
     refine cyz ?_
     (refine ekz ?_; repeat clear hK K)
     (refine wk0 ?_; (repeat clear hK K); repeat (refine Kq.mk ?_; intro K hK))
     ((try refine aw_ret ?_); (try simp only [ThenA, InBl]); refine ret_le (le_pick [] rfl rfl) ?_; (try simp only [List.set_nil, List.take_nil, List.take_zero, List.map_append, go_sem]); ((try refine aw_ret ?_); (try refine lst_nil ?_); (try simp only [ThenA, InBl]); refine ret_mk (by first | exact .inl rfl | exact .inr rfl) rfl ?_; simp only [rtn, resA, resL, resV, Tryz.results70, go_sem, true_and, and_true]))
     obtain ⟨p, hp1, hp2⟩ := tgI_eq (e := e) (fun r h a ha => by have := hbd r h a ha; exact ⟨this.2.2.1, this.2.2.2⟩) hMl.1
     exact ⟨_, .inr ⟨hok, M, hM, .inr ⟨he, p, hp1, hp2⟩⟩, rfl⟩
def evI (acc : List Int) (r : List Ar) : List Int := r.foldl (fun acc a => addI a.1 acc) acc
def evG (R : List (List Ar)) (k : Nat) : List Int := (R.take k).foldl evI [0]
theorem evI_snoc (acc : List Int) (r : List Ar) (a : Ar) : evI acc (r ++ [a]) = addI a.1 (evI acc r) := by unfold evI; rw [List.foldl_append]; rfl
theorem evG_succ {R : List (List Ar)} {k : Nat} (h : k < R.length) : evG R (k + 1) = evI (evG R k) R[k] := by
 unfold evG
 rw [List.take_succ_eq_append_getElem h, List.foldl_append]; rfl
theorem mem_evI {x : Int} : ∀ (r : List Ar) (acc : List Int), x ∈ evI acc r ↔ x ∈ acc ∨ ∃ a ∈ r, a.1 = x
 | [], acc => by simp [evI]
 | a :: r, acc => by
  show x ∈ evI (addI a.1 acc) r ↔ _
  rw [mem_evI r, mem_addI]
  simp only [List.mem_cons, exists_eq_or_imp]
  constructor
  ·rintro ((rfl | h) | h)
   ·exact .inr (.inl rfl)
   ·exact .inl h
   ·exact .inr (.inr h)
  ·rintro (h | h | h)
   ·exact .inl (.inr h)
   ·exact .inl (.inl h.symm)
   ·exact .inr h
theorem evI_asc : ∀ (r : List Ar) (acc : List Int), Asc acc → Asc (evI acc r)
 | [], _, h => h
 | _ :: r, _, h => evI_asc r _ (addI_asc h)
theorem evG_ok {R : List (List Ar)} (hb : ∀ r ∈ R, ∀ a ∈ r, 0 ≤ a.1 ∧ a.1 ≤ 1025) (k : Nat) : k ≤ R.length → Asc (evG R k) ∧ (∀ x ∈ evG R k, 0 ≤ x ∧ x < 1026) ∧ (0 : Int) ∈ evG R k ∧ ∀ r ∈ R.take k, ∀ a ∈ r, a.1 ∈ evG R k := by
 induction k with
 | zero => intro _; exact ⟨by simp [evG, Asc], by simp [evG], by simp [evG], by simp⟩
 | succ k ih =>
  intro hk
  obtain ⟨h1, h2, h3, h4⟩ := ih (by omega)
  have hkl : k < R.length := hk
  rw [evG_succ hkl]
  refine ⟨evI_asc _ _ h1, fun x hx => ?_, (mem_evI _ _).2 (.inl h3), fun r hr a ha => ?_⟩
  ·rcases (mem_evI _ _).1 hx with h | ⟨a, ha, rfl⟩
   ·exact h2 x h
   ·have := hb _ (List.getElem_mem hkl) a ha; omega
  ·rw [mem_evI]
   rw [List.take_succ_eq_append_getElem hkl] at hr
   rcases List.mem_append.1 hr with h | h
   ·exact .inl (h4 r h a ha)
   ·simp at h; subst h; exact .inr ⟨a, ha, rfl⟩
noncomputable def sgc (R : List (List Ar)) (s : Nat) : List Nat := ordN R.length (fun u => @decide (Rc (Adj true R) s u) (Classical.propDecidable _))
noncomputable def dAL (R : List (List Ar)) (s : Nat) (e : Int) : List Int := if e = 0 then (sgc R s).map Int.ofNat else (ordN R.length (fun u => decide (u ∈ tg R (sgc R s) e))).map Int.ofNat
theorem dAL_ok {R : List (List Ar)} (hv : valB R = true) {s : Nat} {e : Int} (hs : s < R.length) (h0 : 0 ≤ e) (h1 : e ≤ 1025) : dArr R s e (dAL R s e) := by
 have hre : reS R s (sgc R s) := ⟨_, fun u _ => by simp, rfl⟩
 refine .inr ⟨?_, sgc R s, by rw [Int.toNat_natCast]; exact hre, ?_⟩
 ·unfold arrOk
  rw [hv, decide_eq_true (show (0 : Int) ≤ s by omega), decide_eq_true (show (s : Int) < R.length by omega), decide_eq_true h0, decide_eq_true h1]; rfl
 ·unfold dAL
  by_cases e0 : e = 0
  ·exact .inl ⟨e0, by rw [if_pos e0]⟩
  ·exact .inr ⟨e0, fun u => decide (u ∈ tg R (sgc R s) e), fun u _ => by rw [decide_eq_true_iff], by rw [if_neg e0]⟩
theorem dAL_bd {R : List (List Ar)} (hlo : looB R = true) {s : Nat} {e : Int} (hs : s < R.length) : (dAL R s e).length ≤ R.length ∧ ∀ x ∈ dAL R s e, 0 ≤ x ∧ x < (R.length : Int) := by
 have hl : ∀ p : Nat → Bool, (ordN R.length p).length ≤ R.length := fun p => by
  unfold ordN
  exact Nat.le_trans (List.length_filter_le _ _) (by simp)
 refine ⟨?_, fun x hx => ?_⟩
 ·unfold dAL
  split <;> rw [List.length_map] <;> exact hl _
 ·unfold dAL at hx
  split at hx
  ·obtain ⟨u, hu, rfl⟩ := List.mem_map.1 hx
   have := (mem_ordN.1 hu).1
   simp only [Int.ofNat_eq_natCast]; omega
  ·obtain ⟨u, hu, rfl⟩ := List.mem_map.1 hx
   have := (mem_ordN.1 hu).1
   simp only [Int.ofNat_eq_natCast]; omega
noncomputable def saE (R : List (List Ar)) (s : Nat) (e : Int) : List Ar := (dAL R s e).map fun u => (e, u)
noncomputable def saP (R : List (List Ar)) (Ev : List Int) (s k : Nat) : List Ar := (Ev.take k).flatMap (saE R s)
noncomputable def saR (R : List (List Ar)) (Ev : List Int) (s : Nat) : List Ar := saP R Ev s Ev.length
noncomputable def saL (R : List (List Ar)) (Ev : List Int) (k : Nat) : List (List Ar) := (List.range k).map (saR R Ev)
theorem saL_len (R : List (List Ar)) (Ev : List Int) (k : Nat) : (saL R Ev k).length = k := by simp [saL]
theorem saP_succ {R : List (List Ar)} {Ev : List Int} {s k : Nat} (h : k < Ev.length) : saP R Ev s (k + 1) = saP R Ev s k ++ saE R s Ev[k] := by
 unfold saP
 rw [List.take_succ_eq_append_getElem h, List.flatMap_append]
 simp
theorem saP_len {R : List (List Ar)} (hlo : looB R = true) {Ev : List Int} {s : Nat} (hs : s < R.length) : ∀ k, k ≤ Ev.length → (saP R Ev s k).length ≤ k * R.length := by
 intro k
 induction k with
 | zero => intro _; simp [saP]
 | succ k ih =>
  intro hk
  have h1 := ih (by omega)
  have h2 := (dAL_bd hlo (e := Ev[k]) hs).1
  rw [saP_succ hk, List.length_append, saE, List.length_map, Nat.succ_mul]
  omega
noncomputable def satR (R : List (List Ar)) : List (List Ar) := saL R (evG R R.length) R.length
theorem satR_bd {R : List (List Ar)} (hv : valB R = true) (hn : R.length ≤ 100) : (satR R).length = R.length ∧ ∀ r ∈ satR R, r.length ≤ 1000000 ∧ ∀ a ∈ r, 0 ≤ a.2 ∧ a.2 < (R.length : Int) := by
 have hlo : looB R = true := decide_eq_true (of_decide_eq_true hv).1
 have hl : (satR R).length = R.length := saL_len _ _ _
 have hev := evG_ok (R := R) (fun r hr a ha => by have := (of_decide_eq_true hlo).2.2.2 r hr a ha; omega) R.length (Nat.le_refl _)
 have hevl : (evG R R.length).length ≤ 1026 := asc_bd hev.1 (by simpa using hev.2.1)
 refine ⟨hl, fun r hr => ?_⟩
 obtain ⟨s, hs, rfl⟩ := List.mem_map.1 hr
 rw [List.mem_range] at hs
 have h1 := saP_len hlo (Ev := evG R R.length) hs _ (Nat.le_refl _)
 have h2 : (evG R R.length).length * R.length ≤ 1026 * 100 := Nat.mul_le_mul hevl hn
 refine ⟨by unfold saR; omega, fun a ha => ?_⟩
 unfold saR saP at ha
 obtain ⟨e, _, h⟩ := List.mem_flatMap.1 ha
 obtain ⟨x, hx, rfl⟩ := List.mem_map.1 h
 exact (dAL_bd hlo hs).2 x hx
def dv0 (B : List Bool) (s : Nat) : Int := if B.getD s false = B.getD 0 false then 0 else 1
def dvC (B : List Bool) (n : Nat) : List Int := (List.range n).map (dv0 B)
theorem dvC_len (B : List Bool) (n : Nat) : (dvC B n).length = n := by simp [dvC]
theorem dvC_get {B : List Bool} {n s : Nat} (h : s < n) : (dvC B n).getD s 0 = dv0 B s := by simp [dvC, List.getD_eq_getElem?_getD, h]
theorem dv_nm {B : List Bool} : ∀ n, 1 ≤ n → (nmG (fun s => B.getD s false) n).1 = dvC B n ∧ ((nmG (fun s => B.getD s false) n).2 = 1 ∧ (∀ s, s < n → B.getD s false = B.getD 0 false) ∨ (nmG (fun s => B.getD s false) n).2 = 2 ∧ ∃ s, s < n ∧ B.getD s false ≠ B.getD 0 false) := by
 intro n
 induction n with
 | zero => intro h; omega
 | succ n ih =>
  intro _
  by_cases h0 : n = 0
  ·subst h0
   refine ⟨?_, .inl ⟨rfl, fun s hs => by rw [show s = 0 by omega]⟩⟩
   show ([] ++ [((0 : Nat) : Int)]) = _
   simp [dvC, dv0]
  ·obtain ⟨h1, h2⟩ := ih (by omega)
   have hd : dvC B (n + 1) = dvC B n ++ [dv0 B n] := by simp [dvC, List.range_succ]
   rcases nm_cases (fun s => B.getD s false) n with ⟨t, a1, a2, a3, a4⟩ | ⟨a3, a4⟩
   ·rw [a4, hd, h1, dvC_get a1]
    have e1 : dv0 B t = dv0 B n := by unfold dv0; rw [a2]
    refine ⟨by rw [e1], ?_⟩
    rcases h2 with ⟨b1, b2⟩ | ⟨b1, s, b2, b3⟩
    ·refine .inl ⟨b1, fun s hs => ?_⟩
     by_cases e : s = n
     ·subst e; rw [← a2]; exact b2 t a1
     ·exact b2 s (by omega)
    ·exact .inr ⟨b1, s, by omega, b3⟩
   ·have hne := a3 0 (by omega)
    have hone : (nmG (fun s => B.getD s false) n).2 = 1 := by
     rcases h2 with ⟨b1, _⟩ | ⟨_, s, b2, b3⟩
     ·exact b1
     ·exfalso
      have c1 := a3 s b2
      revert hne c1 b3
      generalize B.getD s false = x
      generalize B.getD 0 false = y
      generalize B.getD n false = z
      cases x <;> cases y <;> cases z <;> simp
    rw [a4, hd, h1, hone]
    refine ⟨by unfold dv0; rw [if_neg (Ne.symm hne)]; rfl, .inr ⟨rfl, n, by omega, Ne.symm hne⟩⟩
theorem dvC_nrm (B : List Bool) {n : Nat} (h : 1 ≤ n) : Nrm n (dvC B n) := by
 rw [← (dv_nm n h).1]
 exact nrm_nm _ _
def DlC (R : List (List Ar)) (c : List Int) : Prop := ∃ B, DvL R B ∧ FxS (satR R) (dvC B R.length) c
theorem hasB_succ {c : List Int} {row : List Ar} {e x : Int} {k : Nat} (h : k < row.length) : hasB c (row.take (k + 1)) e x = (hasB c (row.take k) e x || (row[k].1 == e && c.getD row[k].2.toNat 0 == x)) := by
 unfold hasB
 rw [List.take_succ_eq_append_getElem h, List.any_append]
 simp
theorem hasA_fc (row : List Ar) (c : List Int) (e x : Int) (hn : row.length ≤ 140737488355328) (hc : c.length ≤ 140737488355328) (hb : ∀ a ∈ row, 0 ≤ a.2 ∧ a.2 < (c.length : Int)) : FC Tryz.prog 99 [aArcs row, aInts c, .i e, .i x] [] (fun r o => o = [] ∧ r = .b (hasB c row e x)) := by
 refine fc_intro Tryz.func99 rfl (by rw [Tryz.ntmps99]; simp) ?_
 rw [Tryz.ntmps99]
 simp only [enum, aArcs, aInts]
 (refine wk0 ?_; (repeat clear hK K); repeat (refine Kq.mk ?_; intro K hK))
 refine aw_loop (fun k : Nat => { tm := [(0, .a (.c (.t 2 (tArcs row)))), (1, .a (.c (.t 1 (tInts c)))), (2, .i e), (3, .i x), (9, .i k)], hp := [], n := 35, pin := 0 }) (fun k => k ≤ row.length ∧ hasB c (row.take k) e x = false) (fun k => row.length - k) 0 ?_ ?_ ?_
 ·exact ⟨by omega, by simp [hasB]⟩
 ·exact lmz
 ·rintro k ⟨hk, hno⟩ K hK
  by_cases hlt : k < row.length
  ·have d1 : decide ((k : Int) < (row.length : Int)) = true := by simpa using hlt
   have hmem := List.getElem_mem hlt
   have hba := hb _ hmem
   have g0 := tArcs_c0 hlt
   have g1 := tArcs_c1 hlt
   have hst := hasB_succ (c := c) (e := e) (x := x) hlt
   have hall : hasB c (row.take (k + 1)) e x = true → hasB c row e x = true := fun h => by
    unfold hasB at h ⊢
    rw [List.any_eq_true] at h ⊢
    obtain ⟨y, h1, h2⟩ := h
    exact ⟨y, List.mem_of_mem_take h1, h2⟩
   generalize row[k] = a at *
   obtain ⟨e0, t⟩ := a
   simp only at g0 g1 hba hst
   obtain ⟨tn, rfl⟩ : ∃ tn : Nat, t = (tn : Int) := ⟨t.toNat, by omega⟩
   have htn : tn < c.length := by omega
   have gc := tInts_get (List.getElem?_eq_getElem htn)
   rw [hno, Bool.false_or, Int.toNat_natCast, List.getD_eq_getElem?_getD, List.getElem?_eq_getElem htn, Option.getD_some] at hst
   (refine wk1 (an @tArcs_len (an @half2 @d1)) ?_; (repeat clear hK K); repeat (refine Kq.mk ?_; intro K hK))
   refine cxz ?_
   by_cases he : e0 = e
   ·have d2 : (e0 == e) = true := by simpa using he
    by_cases hx : c[tn] = x
    ·have d3 : (c[tn] == x) = true := by simpa using hx
     (refine wk1 (an @tArcs_len (an @half2 (an @g0 (an @g1 (an @d2 (an @tInts_len (an @gc @d3))))))) ?_; (repeat clear hK K); repeat (refine Kq.mk ?_; intro K hK))
     refine cxz ?_
     (refine wk0 ?_; (repeat clear hK K); repeat (refine Kq.mk ?_; intro K hK))
     ((try refine aw_ret ?_); (try refine lst_nil ?_); (try simp only [ThenA, InBl]); refine ret_mk (by first | exact .inl rfl | exact .inr rfl) rfl ?_; simp only [rtn, resA, resL, resV, Tryz.results99, go_sem])
     rw [hall (by rw [hst, d2, d3]; rfl)]
    ·have d3 : (c[tn] == x) = false := by simpa using hx
     (refine wk1 (an @tArcs_len (an @half2 (an @g0 (an @g1 (an @d2 (an @tInts_len (an @gc @d3))))))) ?_; (repeat clear hK K); repeat (refine Kq.mk ?_; intro K hK))
     refine cyz ?_
     (refine wk0 ?_; (repeat clear hK K); repeat (refine Kq.mk ?_; intro K hK))
     refine rnz ?_
     refine hK _ (k + 1) ⟨by omega, by rw [hst, d2, d3]; rfl⟩ (by omega) ?_
     exact lmz
   ·have d2 : (e0 == e) = false := by simpa using he
    (refine wk1 (an @tArcs_len (an @half2 (an @g0 (an @g1 @d2)))) ?_; (repeat clear hK K); repeat (refine Kq.mk ?_; intro K hK))
    refine cyz ?_
    (refine wk0 ?_; (repeat clear hK K); repeat (refine Kq.mk ?_; intro K hK))
    refine rnz ?_
    refine hK _ (k + 1) ⟨by omega, by rw [hst, d2]; rfl⟩ (by omega) ?_
    exact lmz
  ·have d1 : decide ((k : Int) < (row.length : Int)) = false := by simpa using hlt
   rw [List.take_of_length_le (by omega)] at hno
   (refine wk1 (an @tArcs_len (an @half2 @d1)) ?_; (repeat clear hK K); repeat (refine Kq.mk ?_; intro K hK))
   refine cyz ?_
   (refine ekz ?_; repeat clear hK K)
   (refine wk0 ?_; (repeat clear hK K); repeat (refine Kq.mk ?_; intro K hK))
   ((try refine aw_ret ?_); (try refine lst_nil ?_); (try simp only [ThenA, InBl]); refine ret_mk (by first | exact .inl rfl | exact .inr rfl) rfl ?_; simp only [rtn, resA, resL, resV, Tryz.results99, go_sem])
   rw [hno]
theorem covB_succ {c : List Int} {row b : List Ar} {k : Nat} (h : k < row.length) : covB c (row.take (k + 1)) b = (covB c (row.take k) b && hasB c b row[k].1 (c.getD row[k].2.toNat 0)) := by
 unfold covB
 rw [List.take_succ_eq_append_getElem h, List.all_append]
 simp
theorem cov_fc (row b : List Ar) (c : List Int) (hn : row.length ≤ 140737488355328) (hbn : b.length ≤ 140737488355328) (hc : c.length ≤ 140737488355328) (hb : ∀ a ∈ row, 0 ≤ a.2 ∧ a.2 < (c.length : Int)) (hb2 : ∀ a ∈ b, 0 ≤ a.2 ∧ a.2 < (c.length : Int)) : FC Tryz.prog 80 [aArcs row, aArcs b, aInts c] [] (fun r o => o = [] ∧ r = .b (covB c row b)) := by
 refine fc_intro Tryz.func80 rfl (by rw [Tryz.ntmps80]; simp) ?_
 rw [Tryz.ntmps80]
 simp only [enum, aArcs, aInts]
 (refine wk0 ?_; (repeat clear hK K); repeat (refine Kq.mk ?_; intro K hK))
 refine aw_loop (fun k : Nat => { tm := [(0, .a (.c (.t 2 (tArcs row)))), (1, .a (.c (.t 2 (tArcs b)))), (2, .a (.c (.t 1 (tInts c)))), (7, .i k)], hp := [], n := 31, pin := 0 }) (fun k => k ≤ row.length ∧ covB c (row.take k) b = true) (fun k => row.length - k) 0 ?_ ?_ ?_
 ·exact ⟨by omega, by simp [covB]⟩
 ·exact lmz
 ·rintro k ⟨hk, hno⟩ K hK
  by_cases hlt : k < row.length
  ·have d1 : decide ((k : Int) < (row.length : Int)) = true := by simpa using hlt
   have hmem := List.getElem_mem hlt
   have hba := hb _ hmem
   have g0 := tArcs_c0 hlt
   have g1 := tArcs_c1 hlt
   have hst := covB_succ (c := c) (b := b) hlt
   have hall : covB c (row.take (k + 1)) b = false → covB c row b = false := fun h => by
    unfold covB at h ⊢
    rw [List.all_eq_false] at h ⊢
    obtain ⟨y, h1, h2⟩ := h
    exact ⟨y, List.mem_of_mem_take h1, h2⟩
   generalize row[k] = a at *
   obtain ⟨e0, t⟩ := a
   simp only at g0 g1 hba hst
   obtain ⟨tn, rfl⟩ : ∃ tn : Nat, t = (tn : Int) := ⟨t.toNat, by omega⟩
   have htn : tn < c.length := by omega
   have gc := tInts_get (List.getElem?_eq_getElem htn)
   rw [hno, Bool.true_and, Int.toNat_natCast, List.getD_eq_getElem?_getD, List.getElem?_eq_getElem htn, Option.getD_some] at hst
   (refine wk1 (an @tArcs_len (an @half2 @d1)) ?_; (repeat clear hK K); repeat (refine Kq.mk ?_; intro K hK))
   refine cxz ?_
   (refine wk0 ?_; (repeat clear hK K); repeat (refine Kq.mk ?_; intro K hK))
   (refine aw_regionU 15 [(0, 0), (1, 0), (2, 0), (3, 0), (4, 0), (5, 0), (6, 1), (7, 0), (8, 0), (9, 0), (10, 0), (11, 0), (12, 1), (13, 0), (14, 1), (15, 2), (16, 0)] (by kernel_rfl) (by kernel_rfl) (by intro c st h; simp [ThenA, InBl, Ret] at h) ?_)
   (refine uk1 (an @tArcs_len (an @half2 (an @g0 (an @g1 (an @tInts_len @gc))))) ?_; repeat clear hK K)
   (refine uckz (hasA_fc b c e0 c[tn] hbn hc hb2) ?_; intro K1 hK1)
   rintro _ _ ⟨rfl, rfl⟩
   (refine bkz ?_; clear hK1 K1)
   cases hh : hasB c b e0 c[tn] with
   | true =>
    rw [hh] at hst
    (refine uk1 @Bool.not_true ?_; repeat clear hK K)
    refine cyz ?_
    (refine wk0 ?_; (repeat clear hK K); repeat (refine Kq.mk ?_; intro K hK))
    refine rnz ?_
    refine hK _ (k + 1) ⟨by omega, hst⟩ (by omega) ?_
    exact lmz
   | false =>
    rw [hh] at hst
    (refine uk1 @Bool.not_false ?_; repeat clear hK K)
    refine cxz ?_
    (refine wk0 ?_; (repeat clear hK K); repeat (refine Kq.mk ?_; intro K hK))
    ((try refine aw_ret ?_); (try refine lst_nil ?_); (try simp only [ThenA, InBl]); refine ret_mk (by first | exact .inl rfl | exact .inr rfl) rfl ?_; simp only [rtn, resA, resL, resV, Tryz.results80, go_sem])
    rw [hall hst]
  ·have d1 : decide ((k : Int) < (row.length : Int)) = false := by simpa using hlt
   rw [List.take_of_length_le (by omega)] at hno
   (refine wk1 (an @tArcs_len (an @half2 @d1)) ?_; (repeat clear hK K); repeat (refine Kq.mk ?_; intro K hK))
   refine cyz ?_
   (refine ekz ?_; repeat clear hK K)
   (refine wk0 ?_; (repeat clear hK K); repeat (refine Kq.mk ?_; intro K hK))
   ((try refine aw_ret ?_); (try refine lst_nil ?_); (try simp only [ThenA, InBl]); refine ret_mk (by first | exact .inl rfl | exact .inr rfl) rfl ?_; simp only [rtn, resA, resL, resV, Tryz.results80, go_sem])
   rw [hno]
def bsL {α : Type} [DecidableEq α] (g : Nat → α) (n s : Nat) : List Int := (nmG g s).1 ++ List.replicate (n - s) 0
theorem bsL_len {α : Type} [DecidableEq α] (g : Nat → α) {n s : Nat} (h : s ≤ n) : (bsL g n s).length = n := by simp [bsL, (nmG_ok g s).len]; omega
theorem bsL_lt {α : Type} [DecidableEq α] (g : Nat → α) {n s t : Nat} (h : t < s) (hs : s ≤ n) : (bsL g n s)[t]? = some ((nmG g s).1.getD t 0) := by
 have hl := (nmG_ok g s).len
 unfold bsL
 rw [List.getElem?_append_left (by omega), List.getD_eq_getElem?_getD, List.getElem?_eq_getElem (by omega)]; rfl
theorem bsL_set {α : Type} [DecidableEq α] (g : Nat → α) {n s : Nat} (h : s < n) {v : Int} {L : List Int} {m : Nat} (hn : nmG g (s + 1) = (L ++ [v], m)) (hL : L = (nmG g s).1) : (bsL g n s).set s v = bsL g n (s + 1) := by
 obtain ⟨q, hq⟩ : ∃ q, n - s = q + 1 := ⟨n - s - 1, by omega⟩
 have hq2 : n - (s + 1) = q := by omega
 have hl := (nmG_ok g s).len
 unfold bsL
 rw [hn, hq, hq2, List.replicate_succ, List.set_append_right _ _ (by omega), hl, Nat.sub_self, List.set_cons_zero, hL]
 simp
theorem bsL_end {α : Type} [DecidableEq α] (g : Nat → α) (n : Nat) : bsL g n n = (nmG g n).1 := by simp [bsL]
set_option maxHeartbeats 8000000 in
theorem split_fc (S : List (List Ar)) (c : List Int) (hn : S.length ≤ 1000000) (hr : ∀ r ∈ S, r.length ≤ 1000000) (hc : c.length = S.length) (hb : ∀ r ∈ S, ∀ a ∈ r, 0 ≤ a.2 ∧ a.2 < (S.length : Int)) : FC Tryz.prog 67 [.a (.c (.t 1 (tRows S))), aInts c] [] (fun r o => r = .a (.c (.s 0 S.length)) ∧ o = [.r ⟨3, 1, true, cInts (nxS S c)⟩]) := by
 refine fc_intro Tryz.func67 rfl (by rw [Tryz.ntmps67]; simp) ?_
 rw [Tryz.ntmps67]
 simp only [enum, aInts]
 have hnx : nxS S c = (nmG (ftS S c) S.length).1 := rfl
 have hgd : ∀ s, s < S.length → S.getD s [] = S[s]?.getD [] := fun s _ => List.getD_eq_getElem?_getD
 have hfeq : ∀ s t, s < S.length → t < S.length → (ftS S c t = ftS S c s ↔ c.getD t 0 = c.getD s 0 ∧ covB c (S.getD s []) (S.getD t []) = true ∧ covB c (S.getD t []) (S.getD s []) = true) := fun s t _ _ => by
  unfold ftS
  rw [Prod.mk.injEq, eq_comm (a := imR S c t), cov_iff]
 (refine wk1 @tRows_len ?_; (repeat clear hK K); repeat (refine Kq.mk ?_; intro K hK))
 have e0 : List.replicate S.length (C.v (.int .i64 0)) = cInts (bsL (ftS S c) S.length 0) := by simp [cInts, bsL, nmG]
 rw [e0]
 refine aw_loop (fun s : Nat => { tm := [(0, .a (.c (.t 1 (tRows S)))), (1, .a (.c (.t 1 (tInts c)))), (5, .a (.c (.s 0 S.length))), (6, .i (nmG (ftS S c) s).2), (7, .i s)], hp := [.r ⟨3, 1, true, cInts (bsL (ftS S c) S.length s)⟩], n := 85, pin := 0 }) (fun s => s ≤ S.length) (fun s => S.length - s) 0 ?_ ?_ ?_
 ·omega
 ·simp only [nmG]
  exact lmz
 ·rintro s hs K hK
  by_cases hlt : s < S.length
  ·have d1 : decide ((s : Int) < (S.length : Int)) = true := by simpa using hlt
   have hgS := List.getElem?_eq_getElem hlt
   have hrl := hr _ (List.getElem_mem hlt)
   have hbs := hb _ (List.getElem_mem hlt)
   have hsc : s < c.length := by rw [hc]; exact hlt
   have hcs : c[s]? = some c[s] := List.getElem?_eq_getElem hsc
   have gcs := tInts_get hcs
   have hlb := bsL_len (ftS S c) hs
   have hbl := fun t (h : t < s) => bsL_lt (ftS S c) (n := S.length) h hs
   have hok := nmG_ok (ftS S c) s
   have hcnt := hok.cnt
   have hset := fun v L m => bsL_set (ftS S c) (n := S.length) hlt (v := v) (L := L) (m := m)
   have hS1 : S.getD s [] = S[s] := by rw [List.getD_eq_getElem?_getD, hgS]; rfl
   generalize hB : bsL (ftS S c) S.length s = B at *
   have hset2 : ∀ v w : Int, (B.set s v).set s w = B.set s w := fun v w => by simp
   (refine wk1 (an @tRows_len @d1) ?_; (repeat clear hK K); repeat (refine Kq.mk ?_; intro K hK))
   refine cxz ?_
   (refine wks1 (an @cInts_len (an @hlb @cInts_set)) ?_; (repeat clear hK K); repeat (refine Kq.mk ?_; intro K hK))
   refine aw_loop (fun x : Nat × Int => { tm := [(0, .a (.c (.t 1 (tRows S)))), (1, .a (.c (.t 1 (tInts c)))), (5, .a (.c (.s 0 S.length))), (6, .i (nmG (ftS S c) s).2), (7, .i s), (8, .i x.1)], hp := [.r ⟨3, 1, true, cInts (B.set s x.2)⟩], n := 85, pin := 0 }) (fun x => x.1 ≤ s ∧ ((x.2 = -1 ∧ ∀ u, u < x.1 → ftS S c u ≠ ftS S c s) ∨ ∃ t, x.1 = t + 1 ∧ ftS S c t = ftS S c s ∧ (∀ u, u < t → ftS S c u ≠ ftS S c s) ∧ x.2 = (nmG (ftS S c) s).1.getD t 0)) (fun x => s - x.1) (0, -1) ?_ ?_ ?_
   ·exact ⟨by simp, .inl ⟨rfl, fun u h => by simp at h⟩⟩
   ·exact lmz
   ·rintro ⟨t, v⟩ ⟨ht, hv⟩ K hK
    simp only at ht hv
    have gv : (cInts (B.set s v))[s]? = some (.v (.int .i64 v)) := cInts_get (List.getElem?_set_self (by omega))
    by_cases hgo : t < s ∧ v < 0
    ·obtain ⟨hts, hv0⟩ := hgo
     obtain ⟨hve, hno⟩ : v = -1 ∧ ∀ u, u < t → ftS S c u ≠ ftS S c s := by
      rcases hv with h | ⟨t', h1, _, _, h4⟩
      ·exact h
      ·have := hok.rng t' (by omega); omega
     have d2 : decide ((t : Int) < (s : Int)) = true := by simpa using hts
     have d3 : decide (v < 0) = true := by simpa using hv0
     have htl : t < S.length := by omega
     have hgT := List.getElem?_eq_getElem htl
     have hrt := hr _ (List.getElem_mem htl)
     have hbt := hb _ (List.getElem_mem htl)
     have gct := tInts_get (List.getElem?_eq_getElem (show t < c.length by omega))
     have hS2 : S.getD t [] = S[t] := by rw [List.getD_eq_getElem?_getD, hgT]; rfl
     have gvt : (cInts (B.set s v))[t]? = some (.v (.int .i64 ((nmG (ftS S c) s).1.getD t 0))) := cInts_get (by rw [List.getElem?_set_ne (by omega)]; exact hbl t hts)
     have hfe := hfeq s t hlt htl
     rw [hS1, hS2, List.getD_eq_getElem?_getD, List.getD_eq_getElem?_getD, List.getElem?_eq_getElem (show t < c.length by omega), hcs, Option.getD_some, Option.getD_some] at hfe
     have hgetS := tRows_get hgS
     have hgetT := tRows_get hgT
     generalize S[s] = rs at *
     generalize S[t] = rt at *
     (refine wk1 (an @d2 (an @cInts_len (an @List.length_set.{0} (an @hlb (an @gv @d3))))) ?_; (repeat clear hK K); repeat (refine Kq.mk ?_; intro K hK))
     refine cxz ?_
     (refine wk0 ?_; (repeat clear hK K); repeat (refine Kq.mk ?_; intro K hK))
     (refine aw_regionV [] [(0, 0, 0), (1, 0, 0), (2, 0, 0), (3, 1, 19), (4, 0, 0), (5, 0, 0), (6, 0, 0), (7, 1, 19), (8, 0, 0), (9, 0, 0), (10, 0, 0), (11, 0, 0), (12, 0, 0), (13, 1, 19), (14, 0, 0), (15, 0, 0), (16, 0, 0), (17, 1, 19), (18, 0, 0), (19, 2, 0), (20, 0, 0), (21, 0, 0), (22, 0, 0), (23, 0, 0), (24, 0, 0), (25, 1, 31), (26, 0, 0), (27, 0, 0), (28, 0, 0), (29, 1, 31), (30, 0, 0), (31, 2, 0), (32, 0, 0)] (by kernel_rfl) (by kernel_rfl) (by intro c st h; simp [ThenA, InBl, Ret] at h) ?_)
     by_cases q1 : c[t] = c[s]
     ·have d4 : (c[t] == c[s]) = true := by simpa using q1
      (refine vk1 (an @tInts_len (an @hc (an @gct (an @gcs (an @d4 (an @tRows_len (an @hgetS @hgetT))))))) ?_; repeat clear hK K)
      (refine v_2g rfl rfl rfl (by simp only [go_sem] <;> rfl) ?_; intro K1 hK1; refine stpX_mono ?_; refine stpX_call (ids := []) [] (cov_fc rs rt c (by omega) (by omega) (by omega) (by rw [hc]; exact hbs) (by rw [hc]; exact hbt)) rfl rfl (by simp only [go_sem]) (by kernel_rfl) rfl rfl rfl (by (simp only [List.map_append, List.append_nil, go_sem]) <;> rfl) (by (simp only [pkh, go_sem]) <;> rfl) ?_ ?_)
      ·rintro _ _ ⟨rfl, rfl⟩ i o hi hl; simp at hl
      rintro _ _ ⟨rfl, rfl⟩
      (refine bkz ?_; clear hK1 K1)
      cases q2 : covB c rs rt with
      | true =>
       (refine vk1 (an @tInts_len (an @hc (an @gct (an @gcs (an @d4 (an @tRows_len (an @hgetS @hgetT))))))) ?_; repeat clear hK K)
       (refine v_2g rfl rfl rfl (by simp only [go_sem] <;> rfl) ?_; intro K1 hK1; refine stpX_mono ?_; refine stpX_call (ids := []) [] (cov_fc rt rs c (by omega) (by omega) (by omega) (by rw [hc]; exact hbt) (by rw [hc]; exact hbs)) rfl rfl (by simp only [go_sem]) (by kernel_rfl) rfl rfl rfl (by (simp only [List.map_append, List.append_nil, go_sem]) <;> rfl) (by (simp only [pkh, go_sem]) <;> rfl) ?_ ?_)
       ·rintro _ _ ⟨rfl, rfl⟩ i o hi hl; simp at hl
       rintro _ _ ⟨rfl, rfl⟩
       (refine bkz ?_; clear hK1 K1)
       cases q3 : covB c rt rs with
       | true =>
        have hyes := hfe.2 ⟨q1, q2, q3⟩
        (refine vk0 ?_; repeat clear hK K)
        refine cxz ?_
        (refine wks1 (an @cInts_len (an @List.length_set.{0} (an @hlb (an @gvt (an @cInts_set @List.set_set.{0}))))) ?_; (repeat clear hK K); repeat (refine Kq.mk ?_; intro K hK))
        refine rnz ?_
        refine hK _ (t + 1, (nmG (ftS S c) s).1.getD t 0) ⟨by simp only; omega, .inr ⟨t, rfl, hyes, hno, rfl⟩⟩ (by simp only; omega) ?_
        exact lmz
       | false =>
        (refine vk0 ?_; repeat clear hK K)
        refine cyz ?_
        (refine wk0 ?_; (repeat clear hK K); repeat (refine Kq.mk ?_; intro K hK))
        refine rnz ?_
        refine hK _ (t + 1, v) ⟨by simp only; omega, .inl ⟨hve, fun u hu e => ?_⟩⟩ (by simp only; omega) ?_
        ·simp only at hu
         by_cases eu : u = t
         ·subst eu
          have h3 := hfe.1 e
          have h4 := q3
          simp [h3] at h4
         ·exact hno u (by omega) e
        ·exact lmz
      | false =>
       (refine vk0 ?_; repeat clear hK K)
       refine cyz ?_
       (refine wk0 ?_; (repeat clear hK K); repeat (refine Kq.mk ?_; intro K hK))
       refine rnz ?_
       refine hK _ (t + 1, v) ⟨by simp only; omega, .inl ⟨hve, fun u hu e => ?_⟩⟩ (by simp only; omega) ?_
       ·simp only at hu
        by_cases eu : u = t
        ·subst eu
         have h3 := hfe.1 e
         have h4 := q2
         simp [h3] at h4
        ·exact hno u (by omega) e
       ·exact lmz
     ·have d4 : (c[t] == c[s]) = false := by simpa using q1
      (refine vk1 (an @tInts_len (an @hc (an @gct (an @gcs @d4)))) ?_; repeat clear hK K)
      refine cyz ?_
      (refine wk0 ?_; (repeat clear hK K); repeat (refine Kq.mk ?_; intro K hK))
      refine rnz ?_
      refine hK _ (t + 1, v) ⟨by simp only; omega, .inl ⟨hve, fun u hu e => ?_⟩⟩ (by simp only; omega) ?_
      ·simp only at hu
       by_cases eu : u = t
       ·subst eu
        have h3 := hfe.1 e
        have h4 := q1
        simp [h3] at h4
       ·exact hno u (by omega) e
      ·exact lmz
    ·have hcond : (decide ((t : Int) < (s : Int)) = true ∧ decide (v < 0) = false) ∨ decide ((t : Int) < (s : Int)) = false := by
      by_cases hts : t < s
      ·left; exact ⟨by simpa using hts, by simp; exact Int.not_lt.1 fun h => hgo ⟨hts, h⟩⟩
      ·right; simpa using hts
     rcases hcond with ⟨d2, d3⟩ | d2
     ·(refine wk1 (an @d2 (an @cInts_len (an @List.length_set.{0} (an @hlb (an @gv @d3))))) ?_; (repeat clear hK K); repeat (refine Kq.mk ?_; intro K hK))
      refine cyz ?_
      (refine ekz ?_; repeat clear hK K)
      rcases hv with ⟨hve, hno⟩ | ⟨t', h1, h2, h3, h4⟩
      ·have hts : t = s := by
        rcases Nat.lt_or_ge t s with h | h
        ·exact absurd ⟨h, by omega⟩ hgo
        ·omega
       rw [hts] at hno
       have hnm := nmG_none (nm_find_none hno)
       have hst := hset _ _ _ hnm rfl
       have d4 : decide (v < 0) = true := by simp; omega
       (refine wk1 (an @cInts_len (an @List.length_set.{0} (an @hlb (an @gv @d4)))) ?_; (repeat clear hK K); repeat (refine Kq.mk ?_; intro K hK))
       refine cxz ?_
       (refine wks1 (an @cInts_len (an @List.length_set.{0} (an @hlb (an @cInts_set (an @List.set_set.{0} @hst))))) ?_; (repeat clear hK K); repeat (refine Kq.mk ?_; intro K hK))
       refine rnz ?_
       refine hK _ (s + 1) (by omega) (by omega) ?_
       rw [hnm]
       exact lmz
      ·have hnm := nmG_some (nm_find_some (f := ftS S c) (show t' < s by omega) h2 h3)
       have hst := hset _ _ _ hnm rfl
       rw [← h4] at hst
       have h0 := hok.rng t' (by omega)
       have d4 : decide (v < 0) = false := by simp; omega
       rw [hst]
       rw [hst] at gv
       have hlb2 := bsL_len (ftS S c) (n := S.length) (s := s + 1) (by omega)
       (refine wk1 (an @cInts_len (an @hlb2 (an @gv @d4))) ?_; (repeat clear hK K); repeat (refine Kq.mk ?_; intro K hK))
       refine cyz ?_
       (refine wk0 ?_; (repeat clear hK K); repeat (refine Kq.mk ?_; intro K hK))
       refine rnz ?_
       refine hK _ (s + 1) (by omega) (by omega) ?_
       rw [hnm]
       exact lmz
     ·(refine wk1 @d2 ?_; (repeat clear hK K); repeat (refine Kq.mk ?_; intro K hK))
      refine cyz ?_
      (refine ekz ?_; repeat clear hK K)
      rcases hv with ⟨hve, hno⟩ | ⟨t', h1, h2, h3, h4⟩
      ·have hts : t = s := by
        rcases Nat.lt_or_ge t s with h | h
        ·exact absurd ⟨h, by omega⟩ hgo
        ·omega
       rw [hts] at hno
       have hnm := nmG_none (nm_find_none hno)
       have hst := hset _ _ _ hnm rfl
       have d4 : decide (v < 0) = true := by simp; omega
       (refine wk1 (an @cInts_len (an @List.length_set.{0} (an @hlb (an @gv @d4)))) ?_; (repeat clear hK K); repeat (refine Kq.mk ?_; intro K hK))
       refine cxz ?_
       (refine wks1 (an @cInts_len (an @List.length_set.{0} (an @hlb (an @cInts_set (an @List.set_set.{0} @hst))))) ?_; (repeat clear hK K); repeat (refine Kq.mk ?_; intro K hK))
       refine rnz ?_
       refine hK _ (s + 1) (by omega) (by omega) ?_
       rw [hnm]
       exact lmz
      ·have hnm := nmG_some (nm_find_some (f := ftS S c) (show t' < s by omega) h2 h3)
       have hst := hset _ _ _ hnm rfl
       rw [← h4] at hst
       have h0 := hok.rng t' (by omega)
       have d4 : decide (v < 0) = false := by simp; omega
       rw [hst]
       rw [hst] at gv
       have hlb2 := bsL_len (ftS S c) (n := S.length) (s := s + 1) (by omega)
       (refine wk1 (an @cInts_len (an @hlb2 (an @gv @d4))) ?_; (repeat clear hK K); repeat (refine Kq.mk ?_; intro K hK))
       refine cyz ?_
       (refine wk0 ?_; (repeat clear hK K); repeat (refine Kq.mk ?_; intro K hK))
       refine rnz ?_
       refine hK _ (s + 1) (by omega) (by omega) ?_
       rw [hnm]
       exact lmz
  ·have d1 : decide ((s : Int) < (S.length : Int)) = false := by simpa using hlt
   have hse : s = S.length := by omega
   rw [hse] at d1
   rw [hse, bsL_end, ← hnx]
   (refine wk1 (an @tRows_len @d1) ?_; (repeat clear hK K); repeat (refine Kq.mk ?_; intro K hK))
   refine cyz ?_
   (refine ekz ?_; repeat clear hK K)
   (refine wk0 ?_; (repeat clear hK K); repeat (refine Kq.mk ?_; intro K hK))
   ((try refine aw_ret ?_); (try simp only [ThenA, InBl]); refine ret_le (le_pick [0] rfl rfl) ?_; (try simp only [List.set_nil, List.take_nil, List.take_zero, List.map_append, go_sem]); ((try refine aw_ret ?_); (try refine lst_nil ?_); (try simp only [ThenA, InBl]); refine ret_mk (by first | exact .inl rfl | exact .inr rfl) rfl ?_; simp only [rtn, resA, resL, resV, Tryz.results67, go_sem, true_and, and_true, cInts_ren]))
def WA (R : List (List Ar)) (s : Nat) (e : Int) (u : Nat) : Prop := (e = 0 ∧ Rc (Adj true R) s u) ∨ (e ≠ 0 ∧ ∃ t, Rc (Adj true R) s t ∧ ∃ a ∈ R.getD t [], a.1 = e ∧ Rc (Adj true R) a.2.toNat u)
def wArr (R : List (List Ar)) (s : Nat) (e : Int) (L : List Int) : Prop := ∃ B : List Bool, B.length = R.length ∧ L = rL R.length B ∧ ∀ u, u < R.length → (seenB B u = true ↔ WA R s e u)
theorem toNat_map {l : List Int} (h : ∀ x ∈ l, 0 ≤ x) : (l.map Int.toNat).map Int.ofNat = l := by
 rw [List.map_map]
 have : ∀ x ∈ l, (Int.ofNat ∘ Int.toNat) x = id x := fun x hx => by
  have := h x hx
  simp only [Function.comp_apply, Int.ofNat_eq_natCast, id_eq]; omega
 rw [List.map_congr_left this, List.map_id]
set_option maxHeartbeats 4000000 in
theorem aft_fc (R : List (List Ar)) (sn : Nat) (e : Int) (hv : valB R = true) (hsl : sn < R.length) (h3 : 0 ≤ e) (h4 : e ≤ 1025) (hn : R.length ≤ 1000000) (hr : ∀ r ∈ R, r.length ≤ 1000000) : FC Tryz.prog 82 [aLts R, .a (.c (.t 1 (tInts [(sn : Int)]))), .i e] [] (fun r o => ∃ L, wArr R sn e L ∧ o = [] ∧ r = aInts L) := by
 refine fc_intro Tryz.func82 rfl (by rw [Tryz.ntmps82]; simp) ?_
 rw [Tryz.ntmps82]
 simp only [enum, aLts]
 have hlo : looB R = true := decide_eq_true (of_decide_eq_true hv).1
 have hbd := (of_decide_eq_true hlo).2.2.2
 have c3 : decide (e < 0) = false := decide_eq_false (by omega)
 have c4 : decide (e > 1025) = false := decide_eq_false (by omega)
 (refine wk0 ?_; (repeat clear hK K); repeat (refine Kq.mk ?_; intro K hK))
 (refine ckz (validR_fc R (by omega) (fun r h => by have := hr r h; omega)) ?_; intro K1 hK1)
 rintro _ _ ⟨rfl, rfl⟩
 (refine bkz ?_; clear hK1 K1)
 (refine wk1 (an @hv @Bool.not_true) ?_; (repeat clear hK K); repeat (refine Kq.mk ?_; intro K hK))
 (refine lst_goU rfl rfl (by simp only [go_sem] <;> rfl) ?_; intro K1 hK1; refine (stp_call0 (ids := []) (inSt_fc R [(sn : Int)] (by simpa using hsl) hn (by simp)) rfl rfl (by simp only [go_sem]) (by kernel_rfl) (by (simp only [List.append_nil, go_sem]) <;> rfl) ?_).stp)
 rintro _ _ ⟨rfl, rfl⟩
 (refine bkz ?_; clear hK1 K1)
 (refine wk1 (an @Bool.not_true (an @c3 @c4)) ?_; (repeat clear hK K); repeat (refine Kq.mk ?_; intro K hK))
 refine cyz ?_
 (refine wk0 ?_; (repeat clear hK K); repeat (refine Kq.mk ?_; intro K hK))
 (refine ckz (reT_fc R [sn] hv (by simpa using hsl) (by simp) hn hr) ?_; intro K1 hK1)
 rintro _ _ ⟨B, hB, rfl, rfl⟩
 (refine bkz ?_; clear hK1 K1)
 have hBr : ∀ u, seenB B u = true ↔ Rc (Adj true R) sn u := fun u => by rw [hB.2]; simp
 by_cases he : e = 0
 ·have d0 : (e == 0) = true := by simp [he]
  (refine wk1 @d0 ?_; (repeat clear hK K); repeat (refine Kq.mk ?_; intro K hK))
  refine cxz ?_
  (refine wk0 ?_; (repeat clear hK K); repeat (refine Kq.mk ?_; intro K hK))
  ((try refine aw_ret ?_); (try simp only [ThenA, InBl]); refine ret_le (le_pick [] rfl rfl) ?_; (try simp only [List.set_nil, List.take_nil, List.take_zero, List.map_append, go_sem]); ((try refine aw_ret ?_); (try refine lst_nil ?_); (try simp only [ThenA, InBl]); refine ret_mk (by first | exact .inl rfl | exact .inr rfl) rfl ?_; simp only [rtn, resA, resL, resV, Tryz.results82, go_sem, true_and, and_true]))
  refine ⟨_, ⟨B, hB.1, rfl, fun u _ => ?_⟩, rfl⟩
  rw [hBr]
  unfold WA
  simp [he]
 ·have d0 : (e == 0) = false := by simpa using he
  obtain ⟨M, hM⟩ : ∃ M, M = (List.range R.length).filter (seenB B) := ⟨_, rfl⟩
  have hLM : rL R.length B = M.map Int.ofNat := by rw [hM]; rfl
  have hMm : ∀ v, v ∈ M ↔ v < R.length ∧ Rc (Adj true R) sn v := fun v => by rw [hM, List.mem_filter, List.mem_range, hBr]
  have hMl : M.length ≤ R.length := by have := rL_len R.length B; rw [hLM, List.length_map] at this; exact this
  rw [hLM]
  clear hM hLM
  (refine wk1 @d0 ?_; (repeat clear hK K); repeat (refine Kq.mk ?_; intro K hK))
  refine cyz ?_
  (refine wk0 ?_; (repeat clear hK K); repeat (refine Kq.mk ?_; intro K hK))
  refine aw_le (le_nilt 8 1 ?_) ?_
  ·simp only [go_sem]
  have htn : tInts ([] : List Int) = [] := rfl
  refine aw_loop (fun i : Nat => { tm := [(2, .i e), (3, .a (.c (.p 0 0))), (7, .a (.c (.t 1 (tInts (M.map Int.ofNat))))), (8, .a (.c (.t 1 (tInts (tgI R (M.take i) e []))))), (9, .i i)], hp := [.r ⟨25, 1, false, [.t 1 (tRows R)]⟩], n := 84, pin := 0 }) (fun i => i ≤ M.length) (fun i => M.length - i) 0 ?_ ?_ ?_
  ·omega
  ·simp only [List.take_zero, tgI, List.foldl_nil, htn]
   exact lmz
  ·rintro i hi K hK
   by_cases hlt : i < M.length
   ·have d1 : decide ((i : Int) < (M.length : Int)) = true := by simpa using hlt
    have gL : (tInts (M.map Int.ofNat))[i]? = some (.v (.int .i64 (M[i] : Int))) := tInts_get (by rw [List.getElem?_map, List.getElem?_eq_getElem hlt]; rfl)
    have hul := ((hMm _).1 (List.getElem_mem hlt)).1
    have hTk : M.take (i + 1) = M.take i ++ [M[i]] := List.take_succ_eq_append_getElem hlt
    have hsub : ∀ v ∈ M.take i, v < R.length := fun v hv => ((hMm v).1 (List.mem_of_mem_take hv)).1
    generalize M[i] = u at *
    have hgR := List.getElem?_eq_getElem hul
    have hrl := hr _ (List.getElem_mem hul)
    have hRu : R.getD u [] = R[u] := by rw [List.getD_eq_getElem?_getD, hgR]; rfl
    have hbr := hbd _ (List.getElem_mem hul)
    generalize hrr : R[u] = row at *
    have hacc : Asc (tgI R (M.take i) e []) ∧ ∀ x ∈ tgI R (M.take i) e [], 0 ≤ x ∧ x < (R.length : Int) := by
     refine ⟨tgI_asc _ _ List.Pairwise.nil, fun x hx => ?_⟩
     rw [mem_tgI] at hx
     rcases hx with h | ⟨s, hs, a, ha, _, rfl⟩
     ·simp at h
     ·have hsl2 := hsub s hs
      rw [List.getD_eq_getElem?_getD, List.getElem?_eq_getElem hsl2, Option.getD_some] at ha
      have := hbd _ (List.getElem_mem hsl2) a ha
      exact ⟨this.2.2.1, this.2.2.2⟩
    have hnx : tgI R (M.take (i + 1)) e [] = tgi1 row e (tgI R (M.take i) e []) := by rw [hTk, tgI_snoc, hRu]
    generalize tgI R (M.take i) e [] = acc at *
    have hKo := hK
    (refine wk1 (an @d1 (an @tInts_len @List.length_map.{0, 0})) ?_; (repeat clear hK K); repeat (refine Kq.mk ?_; intro K hK))
    refine cxz ?_
    (refine wk0 ?_; (repeat clear hK K); repeat (refine Kq.mk ?_; intro K hK))
    refine aw_loop (fun k : Nat => { tm := [(2, .i e), (3, .a (.c (.p 0 0))), (7, .a (.c (.t 1 (tInts (M.map Int.ofNat))))), (8, .a (.c (.t 1 (tInts (tgi1 (row.take k) e acc))))), (9, .i i), (10, .i k)], hp := [.r ⟨25, 1, false, [.t 1 (tRows R)]⟩], n := 84, pin := 0 }) (fun k => k ≤ row.length) (fun k => row.length - k) 0 ?_ ?_ ?_
    ·omega
    ·simp only [List.take_zero, tgi1, List.foldl_nil]
     exact lmz
    ·rintro k hk K hK
     by_cases hlt2 : k < row.length
     ·have d2 : decide ((k : Int) < (row.length : Int)) = true := by simpa using hlt2
      have ha0 := tArcs_c0 hlt2
      have ha1 := tArcs_c1 hlt2
      have hsn := tgi1_snoc (row.take k) e acc row[k]
      rw [← List.take_succ_eq_append_getElem hlt2] at hsn
      have hql : (tgi1 (row.take k) e acc).length ≤ R.length := asc_bd (tgi1_asc _ _ hacc.1) fun x hx => by
       rw [mem_tgi1] at hx
       rcases hx with h | ⟨a, ha, _, rfl⟩
       ·exact hacc.2 x h
       ·have := hbr a (List.mem_of_mem_take ha)
        exact ⟨this.2.2.1, this.2.2.2⟩
      generalize tgi1 (row.take k) e acc = q at *
      (refine wk0 ?_; (repeat clear hK K); repeat (refine Kq.mk ?_; intro K hK))
      (refine aw_regionU 10 [(0, 0), (1, 0), (2, 1), (3, 0), (4, 0), (5, 0), (6, 1), (7, 0), (8, 1), (9, 0), (10, 2)] (by kernel_rfl) (by kernel_rfl) (by intro c st h; simp [ThenA, InBl, Ret] at h) ?_)
      (refine uk1 (an @tRows_len (an (tRows_get hgR) (an @tInts_len (an @List.length_map.{0, 0} (an @gL (an @tArcs_len (an @half2 @d2))))))) ?_; repeat clear hK K)
      refine cxz ?_
      (refine wk0 ?_; (repeat clear hK K); repeat (refine Kq.mk ?_; intro K hK))
      by_cases hae : row[k].1 = e
      ·have d3 : (row[k].1 == e) = true := by simpa using hae
       rw [if_pos hae] at hsn
       (refine aw_regionU 13 [(0, 0), (1, 1), (2, 0), (3, 0), (4, 0), (5, 1), (6, 0), (7, 1), (8, 0), (9, 0), (10, 0), (11, 1), (12, 0), (13, 2)] (by kernel_rfl) (by kernel_rfl) (by intro c st h; simp [ThenA, InBl, Ret] at h) ?_)
       (refine uk1 (an @tRows_len (an (tRows_get hgR) (an @tInts_len (an @List.length_map.{0, 0} (an @gL (an @tArcs_len (an @half2 (an @ha0 @d3)))))))) ?_; repeat clear hK K)
       refine cxz ?_
       (refine wk0 ?_; (repeat clear hK K); repeat (refine Kq.mk ?_; intro K hK))
       (refine aw_regionU 13 [(0, 0), (1, 0), (2, 1), (3, 0), (4, 0), (5, 0), (6, 1), (7, 0), (8, 1), (9, 0), (10, 0), (11, 0), (12, 1), (13, 2), (14, 0)] (by kernel_rfl) (by kernel_rfl) (by intro c st h; simp [ThenA, InBl, Ret] at h) ?_)
       (refine uk1 (an @tRows_len (an (tRows_get hgR) (an @tInts_len (an @List.length_map.{0, 0} (an @gL (an @tArcs_len (an @half2 @ha1))))))) ?_; repeat clear hK K)
       (refine uckz (addT_fc q row[k].2 (by omega)) ?_; intro K1 hK1)
       rintro _ _ ⟨rfl, rfl⟩
       (refine bkz ?_; clear hK1 K1)
       (refine uk0 ?_; repeat clear hK K)
       (refine wk0 ?_; (repeat clear hK K); repeat (refine Kq.mk ?_; intro K hK))
       refine rnz ?_
       refine hK _ (k + 1) (by omega) (by omega) ?_
       rw [hsn]
       exact lmz
      ·have d3 : (row[k].1 == e) = false := by simpa using hae
       rw [if_neg hae] at hsn
       (refine aw_regionU 13 [(0, 0), (1, 1), (2, 0), (3, 0), (4, 0), (5, 1), (6, 0), (7, 1), (8, 0), (9, 0), (10, 0), (11, 1), (12, 0), (13, 2)] (by kernel_rfl) (by kernel_rfl) (by intro c st h; simp [ThenA, InBl, Ret] at h) ?_)
       (refine uk1 (an @tRows_len (an (tRows_get hgR) (an @tInts_len (an @List.length_map.{0, 0} (an @gL (an @tArcs_len (an @half2 (an @ha0 @d3)))))))) ?_; repeat clear hK K)
       refine cyz ?_
       (refine wk0 ?_; (repeat clear hK K); repeat (refine Kq.mk ?_; intro K hK))
       refine rnz ?_
       refine hK _ (k + 1) (by omega) (by omega) ?_
       rw [hsn]
       exact lmz
     ·have d2 : decide ((k : Int) < (row.length : Int)) = false := by simpa using hlt2
      have htr : row.take k = row := List.take_of_length_le (by omega)
      rw [htr, ← hnx]
      (refine wk0 ?_; (repeat clear hK K); repeat (refine Kq.mk ?_; intro K hK))
      (refine aw_regionU 10 [(0, 0), (1, 0), (2, 1), (3, 0), (4, 0), (5, 0), (6, 1), (7, 0), (8, 1), (9, 0), (10, 2)] (by kernel_rfl) (by kernel_rfl) (by intro c st h; simp [ThenA, InBl, Ret] at h) ?_)
      (refine uk1 (an @tRows_len (an (tRows_get hgR) (an @tInts_len (an @List.length_map.{0, 0} (an @gL (an @tArcs_len (an @half2 @d2))))))) ?_; repeat clear hK K)
      refine cyz ?_
      (refine ekz ?_; repeat clear hK K)
      (refine wk0 ?_; (repeat clear hK K); repeat (refine Kq.mk ?_; intro K hK))
      refine rnz ?_
      refine hKo _ (i + 1) (by omega) (by omega) ?_
      exact lmz
   ·have d1 : decide ((i : Int) < (M.length : Int)) = false := by simpa using hlt
    have htM : M.take i = M := List.take_of_length_le (by omega)
    rw [htM]
    have htm : ∀ x, x ∈ tgI R M e [] ↔ ∃ s ∈ M, ∃ a ∈ R.getD s [], a.1 = e ∧ a.2 = x := fun x => by rw [mem_tgI]; simp
    have htb : ∀ x ∈ tgI R M e [], 0 ≤ x ∧ x < (R.length : Int) := fun x hx => by
     obtain ⟨s, hs, a, ha, _, rfl⟩ := (htm x).1 hx
     have hsl2 := ((hMm s).1 hs).1
     rw [List.getD_eq_getElem?_getD, List.getElem?_eq_getElem hsl2, Option.getD_some] at ha
     have := hbd _ (List.getElem_mem hsl2) a ha
     exact ⟨this.2.2.1, this.2.2.2⟩
    have htl := asc_bd (tgI_asc (R := R) (e := e) M [] List.Pairwise.nil) htb
    generalize tgI R M e [] = T at *
    obtain ⟨F, hF⟩ : ∃ F : List Nat, F = T.map Int.toNat := ⟨_, rfl⟩
    have hFT : T = F.map Int.ofNat := by rw [hF, toNat_map fun x hx => (htb x hx).1]
    have hFl : F.length ≤ R.length := by rw [hF, List.length_map]; exact htl
    have hFm : ∀ v, v ∈ F ↔ (v : Int) ∈ T := fun v => by
     rw [hF, List.mem_map]
     constructor
     ·rintro ⟨x, hx, rfl⟩
      have := htb x hx
      rw [show ((x.toNat : Nat) : Int) = x by omega]; exact hx
     ·intro h; exact ⟨_, h, by simp⟩
    rw [hFT]
    (refine wk1 (an @d1 (an @tInts_len @List.length_map.{0, 0})) ?_; (repeat clear hK K); repeat (refine Kq.mk ?_; intro K hK))
    refine cyz ?_
    (refine ekz ?_; repeat clear hK K)
    (refine wk0 ?_; (repeat clear hK K); repeat (refine Kq.mk ?_; intro K hK))
    (refine ckz (reT_fc R F hv (fun v hv => by have := htb _ ((hFm v).1 hv); omega) (by omega) hn hr) ?_; intro K1 hK1)
    rintro _ _ ⟨B2, hB2, rfl, rfl⟩
    (refine bkz ?_; clear hK1 K1)
    (refine wk0 ?_; (repeat clear hK K); repeat (refine Kq.mk ?_; intro K hK))
    ((try refine aw_ret ?_); (try simp only [ThenA, InBl]); refine ret_le (le_pick [] rfl rfl) ?_; (try simp only [List.set_nil, List.take_nil, List.take_zero, List.map_append, go_sem]); ((try refine aw_ret ?_); (try refine lst_nil ?_); (try simp only [ThenA, InBl]); refine ret_mk (by first | exact .inl rfl | exact .inr rfl) rfl ?_; simp only [rtn, resA, resL, resV, Tryz.results82, go_sem, true_and, and_true]))
    refine ⟨_, ⟨B2, hB2.1, rfl, fun u _ => ?_⟩, rfl⟩
    rw [hB2.2]
    unfold WA
    constructor
    ·rintro ⟨v, h5, h6⟩
     obtain ⟨s, hs, a, ha, hae, hav⟩ := (htm _).1 ((hFm v).1 h5)
     refine .inr ⟨he, s, ((hMm s).1 hs).2, a, ha, hae, ?_⟩
     rw [hav, Int.toNat_natCast]; exact h6
    ·rintro (⟨h5, _⟩ | ⟨_, s, h5, a, ha, hae, h6⟩)
     ·exact absurd h5 he
     ·have hsr := h5.lt hsl (adj_lt true hlo)
      refine ⟨a.2.toNat, (hFm _).2 ((htm _).2 ⟨s, (hMm s).2 ⟨hsr, h5⟩, a, ha, hae, ?_⟩), h6⟩
      rw [List.getD_eq_getElem?_getD, List.getElem?_eq_getElem hsr, Option.getD_some] at ha
      have := hbd _ (List.getElem_mem hsr) a ha
      omega
theorem warr_fc (R : List (List Ar)) (sn : Nat) (e : Int) (hv : valB R = true) (hsl : sn < R.length) (h3 : 0 ≤ e) (h4 : e ≤ 1025) (hn : R.length ≤ 1000000) (hr : ∀ r ∈ R, r.length ≤ 1000000) : FC Tryz.prog 69 [aLts R, .i sn, .i e] [] (fun r o => ∃ L, wArr R sn e L ∧ o = [] ∧ r = aInts L) := by
 refine fc_intro Tryz.func69 rfl (by rw [Tryz.ntmps69]; simp) ?_
 rw [Tryz.ntmps69]
 simp only [enum, aLts]
 have c1 : decide ((sn : Int) < 0) = false := decide_eq_false (by omega)
 have c2 : decide ((sn : Int) ≥ (R.length : Int)) = false := decide_eq_false (by omega)
 have c3 : decide (e < 0) = false := decide_eq_false (by omega)
 have c4 : decide (e > 1025) = false := decide_eq_false (by omega)
 (refine wk0 ?_; (repeat clear hK K); repeat (refine Kq.mk ?_; intro K hK))
 (refine ckz (validR_fc R (by omega) (fun r h => by have := hr r h; omega)) ?_; intro K1 hK1)
 rintro _ _ ⟨rfl, rfl⟩
 (refine bkz ?_; clear hK1 K1)
 (refine wk1 (an @hv (an @Bool.not_true (an @c1 (an @c2 (an @c3 (an @c4 @tRows_len)))))) ?_; (repeat clear hK K); repeat (refine Kq.mk ?_; intro K hK))
 refine cyz ?_
 (refine wk0 ?_; (repeat clear hK K); repeat (refine Kq.mk ?_; intro K hK))
 (refine lst_le (le_frz (r := ⟨3, 1, true, cInts [(sn : Int)]⟩) 1 (tInts [(sn : Int)]) rfl (fz_c _) (show 0 < (1 : Nat) by omega)) ?_; simp only [ST.frz, A0.frz, AV.frz, C.frz, Nat.le_refl, List.set_cons_zero, List.set_cons_succ, go_sem, tInts_one])
 (refine wk0 ?_; (repeat clear hK K); repeat (refine Kq.mk ?_; intro K hK))
 (refine ckz (aft_fc R sn e hv hsl h3 h4 hn hr) ?_; intro K1 hK1)
 rintro _ _ ⟨L, hL, rfl, rfl⟩
 (refine bkz ?_; clear hK1 K1)
 (refine wk0 ?_; (repeat clear hK K); repeat (refine Kq.mk ?_; intro K hK))
 ((try refine aw_ret ?_); (try simp only [ThenA, InBl]); refine ret_le (le_pick [] rfl rfl) ?_; (try simp only [List.set_nil, List.take_nil, List.take_zero, List.map_append, go_sem]); ((try refine aw_ret ?_); (try refine lst_nil ?_); (try simp only [ThenA, InBl]); refine ret_mk (by first | exact .inl rfl | exact .inr rfl) rfl ?_; simp only [rtn, resA, resL, resV, Tryz.results69, go_sem, true_and, and_true]))
 exact ⟨L, hL, rfl⟩
end Go.Proofs.YtahnebicgbjonaaGreat
