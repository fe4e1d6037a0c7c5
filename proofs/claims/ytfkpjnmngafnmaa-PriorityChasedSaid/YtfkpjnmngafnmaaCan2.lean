/- The reference's Canonical walked. -/
import Derived.Test.YtfkpjnmngafnmaaCan1
namespace Go.Proofs.Ytfkpjnmngafnmaa
set_option linter.unusedVariables false
set_option linter.unusedSimpArgs false
open Go.RowKit

theorem T_ints : ET Try.prog 22 3 1 8 := ⟨Try.underlying22, by
  have h : (Try.prog.info? 3).map (fun i => (i.zero, i.size, i.bytes)) = some (some (.int .i64 0), 1, 8) := by kernel_rfl
  obtain ⟨i, h1, h2, h3, h4⟩ := info_parts h
  exact ⟨i, _, h1, h2, h3, h4, rfl⟩, by omega⟩
theorem T_ints_info : (Try.prog.info? 3).map (fun i => (i.zero, i.size, i.bytes)) = some (some (.int .i64 0), 1, 8) := by kernel_rfl
theorem T_rows : ET Try.prog 23 44 1 24 := ⟨Try.underlying23, by
  have h : (Try.prog.info? 44).map (fun i => (i.zero, i.size, i.bytes)) = some (some (.slice none 0 0), 1, 24) := by kernel_rfl
  obtain ⟨i, h1, h2, h3, h4⟩ := info_parts h
  exact ⟨i, _, h1, h2, h3, h4, rfl⟩, by omega⟩
theorem one_cv_slice (A : Option Addr) (n c : Nat) : ∀ u ∈ [Value.slice A n c], u.oneCell' = true := by intro u hu; simp at hu; subst hu; rfl

def filled (n k : Nat) : List Int := List.replicate k (-1) ++ List.replicate (n - k) 0
theorem filled_get {n k : Nat} (h : k < n) : ((filled n k).map (Value.int .i64))[k]? = some (.int .i64 0) := by
  simp [filled, List.getElem?_append, List.getElem?_replicate]; omega
theorem filled_set {n k : Nat} (h : k < n) : ((filled n k).map (Value.int .i64)).set k (.int .i64 (-1)) = (filled n (k + 1)).map (Value.int .i64) := by
  apply List.ext_getElem?
  intro i
  rw [List.getElem?_set]
  simp only [filled, List.length_map, List.length_append, List.length_replicate, List.getElem?_map, List.getElem?_append, List.getElem?_replicate]
  by_cases h1 : k = i
  · subst h1; simp [show k < k + (n - k) by omega]
  · simp only [h1, if_false]
    by_cases h2 : i < k
    · simp [h2, show i < k + 1 by omega]
    · simp only [h2, if_false, show ¬ i < k + 1 by omega]
      by_cases h3 : i - k < n - k
      · simp [h3, show i - (k + 1) < n - (k + 1) by omega]
      · simp [h3, show ¬ i - (k + 1) < n - (k + 1) by omega]
theorem filled_all (n : Nat) : filled n n = List.replicate n (-1) := by simp [filled]
theorem filled_zero (n : Nat) : (filled n 0).map (Value.int .i64) = List.replicate n (.int .i64 0) := by simp [filled]

theorem canGo_stop {rows : List (List Arc)} {f i : Nat} {num old : List Int} {out : List (List Arc)} (h : old.length ≤ i) : canGo rows f i num old out = (out, old) := by
  cases f with
  | zero => rfl
  | succ f => simp [canGo, List.getElem?_eq_none h]
theorem canGo_step {rows : List (List Arc)} {n i : Nat} {num old : List Int} {out : List (List Arc)} {s : Int} {r : List Arc} (hi : i < n) (hs : old[i]? = some s) (hr : rows[s.toNat]? = some r) {row : List Arc} (hrow : row = rowOf r) :
    canGo rows (n - i) i num old out = canGo rows (n - (i + 1)) (i + 1) (rowGo row num old []).1 (rowGo row num old []).2.1 (out ++ [(rowGo row num old []).2.2]) := by
  obtain ⟨m, hm⟩ : ∃ m, n - i = m + 1 := ⟨n - i - 1, by omega⟩
  have hm' : n - (i + 1) = m := by omega
  rw [hm, hm', canGo, hs, hrow]
  have : rows.getD s.toNat [] = r := by simp [List.getD, hr]
  simp only [this]

theorem can_app {X : List Nat} {w wa w2 : World} {i0 : Nat} {A Av An : Option Addr} {n c L cv' nr cr nn cn q rb ro tn : Nat} {rows outs : List (List Arc)} {num old : List Int} {vout v2 : Value} {acc nxt : List Arc} {e t x : Int}
    (hC : CI X w wa i0 A n c rows num old L (.slice Av L cv') vout outs) (own2 : Own w2 (i0 + 3) 3 1 v2 (L + 1) (old.flatMap ci ++ [.int .i64 t])) (f2 : Fr (bl (.slice Av L cv')) wa w2)
    (hv2 : v2.ownBlock = (Value.slice Av L cv').ownBlock ∨ v2.ownBlock = some wa.heap.size) (hr : Pairs (MB X (.slice Av L cv') vout i0) wa (some ⟨rb, ro, none⟩) nr cr acc) (hn : Pairs (MB X (.slice Av L cv') vout i0) wa An nn cn nxt)
    (hm : acc[q]? = some (e, t)) (hq : q < nr) (hx : num[tn]? = some x) :
    CI X w w2 i0 A n c rows num (old ++ [t]) (L + 1) v2 vout outs ∧ Pairs (MB X v2 vout i0) w2 (some ⟨rb, ro, none⟩) nr cr acc ∧ Pairs (MB X v2 vout i0) w2 An nn cn nxt ∧
      w2.cell? ⟨rb, ro + q * 2, none⟩ = some (.int .i64 e) ∧ w2.cell? ⟨rb, ro + q * 2 + 1, none⟩ = some (.int .i64 t) ∧ w2.cell? ⟨i0 + 2, tn, none⟩ = some (.int .i64 x) ∧ rb < w2.heap.size ∧ i0 + 2 < w2.heap.size := by
  have hC6 := hC.app own2 f2 hv2
  have hMs : ∀ b ∈ bl (.slice Av L cv'), b ∈ MB X (.slice Av L cv') vout i0 := fun b hb => mem_MB.2 (.inl hb)
  have hsub : ∀ m ∈ MB X v2 vout i0, m ∈ bl v2 ++ MB X (.slice Av L cv') vout i0 := by
    intro m hm
    rw [List.mem_append, mem_MB]
    rcases mem_MB.1 hm with hm | hm | hm | hm | hm | hm <;> simp [hm]
  have hr6 := (hr.app hMs f2 hv2).sub hsub
  have hn6 := (hn.app hMs f2 hv2).sub hsub
  obtain ⟨b1, o1, e1, t1, hA1, _, hb1, hm2, _, x1, x2⟩ := hr6.getp hq
  injection hA1 with hA1; injection hA1 with q1 q2; subst q1; subst q2
  rw [hm] at hm2; injection hm2 with hm2; injection hm2 with q3 q4; subst q3; subst q4
  exact ⟨hC6, hr6, hn6, x1, x2, hC6.bn.cellS (by rw [List.getElem?_map, hx]; rfl), hb1, hC6.bn.lt⟩

theorem rowGo_neg {tl : List Arc} {num old : List Int} {nxt : List Arc} {e x : Int} {tn L : Nat} (hx : num[tn]? = some x) (hneg : x < 0) (hL : old.length = L) :
    rowGo ((e, (tn : Int)) :: tl) num old nxt = rowGo tl (num.set tn L) (old ++ [(tn : Int)]) (ins (e, (L : Int)) nxt) := by
  have hl : tn < num.length := (List.getElem?_eq_some_iff.1 hx).1
  have h1 : numOne num old (tn : Int) = (num.set tn L, old ++ [(tn : Int)]) := by
    simp only [numOne, Int.toNat_natCast, List.getD, hx, Option.getD_some, if_pos hneg, hL]
  simp only [rowGo, h1, Int.toNat_natCast]
  congr 3
  simp [List.getD, hl]
theorem rowGo_pos {tl : List Arc} {num old : List Int} {nxt : List Arc} {e x : Int} {tn : Nat} (hx : num[tn]? = some x) (hpos : ¬ x < 0) :
    rowGo ((e, (tn : Int)) :: tl) num old nxt = rowGo tl num old (ins (e, x) nxt) := by
  have h1 : numOne num old (tn : Int) = (num, old) := by
    simp only [numOne, Int.toNat_natCast, List.getD, hx, Option.getD_some, if_neg hpos]
  simp only [rowGo, h1, Int.toNat_natCast, List.getD, hx, Option.getD_some]

set_option maxRecDepth 100000 in
set_option maxHeartbeats 16000000 in
theorem canonical_any (X : List Nat) (A : Option Addr) (n c : Nat) (rows : List (List Arc)) (w : World) (hX : ∀ x ∈ X, x < w.heap.size) (hr : Ll cp 2 X w A n c rows) (hs : Small rows) (hl : looseB rows = true) :
    Calls Try.prog 14 #[.agg #[.slice A n c]] w fun e w' => ∃ A' n' c' B' m' d', e = .returned (.tuple #[.agg #[.slice A' n' c'], .slice B' m' d']) ∧ Ll cp 2 X w' A' n' c' (canonR rows).1 ∧ Ints X w' B' m' d' (canonR rows).2 ∧ Fr [] w w' := by
  have hn : rows.length = n := hr.n_eq
  have hn1 : n ≤ 10000 := by rw [← hn]; exact hs.n
  have hn0 : 0 < n := by simp [looseB] at hl; omega
  have hok : ∀ r ∈ rows, ∀ a ∈ r, 0 ≤ a.2 ∧ a.2 < n := by
    intro r hr a ha
    have h2 := hl
    simp only [looseB, Bool.and_eq_true, List.all_eq_true] at h2
    have := h2.2 r hr a ha
    simp [arcOkB] at this
    omega
  have HN := Lib.hid hn
  have HOK := Lib.hid hok
  have HX := Lib.hid hX
  clear hn hok hl hX
  have hmk := fun W => run_mk1 (P := Try.prog) Try.underlying22 T_ints_info rfl n (by omega) (by omega) W
  have hn0' : (0 : Int) < (n : Int) := by omega
  go_enter Try.func14, Try.ntmps14
  go_wp2_with fail
  have hbase : Blk (((w.alloc (.cells #[.slice A n c] 25)).alloc (.cells #[.slice none 0 0] 25)).alloc (.cells (List.replicate n (.int .i64 0)).toArray 3)) (w.heap.size + 2) 3 ((filled n 0).map (Value.int .i64)) := by
    rw [filled_zero]
    have := Blk.new ((w.alloc (.cells #[.slice A n c] 25)).alloc (.cells #[.slice none 0 0] 25)) 3 (List.replicate n (.int .i64 0))
    simpa using this
  clear hmk
  go_loopw [5] (fun i wr => ∃ k : Nat, k ≤ n ∧ i = .int .i64 k ∧ Blk wr (w.heap.size + 2) 3 ((filled n k).map (Value.int .i64)) ∧ Hid (wr.heap.size = w.heap.size + 3) ∧ Fr [w.heap.size + 2] (((w.alloc (.cells #[.slice A n c] 25)).alloc (.cells #[.slice none 0 0] 25)).alloc (.cells (List.replicate n (.int .i64 0)).toArray 3)) wr)
    (fun i _ => n - (intOf i).toNat)
  case atStart => exact ⟨0, by omega, rfl, hbase, by simp [Hid], Fr.refl _ _⟩
  case round =>
    obtain ⟨k, hk, rfl, hB, hz, hF⟩ := hrel
    by_cases hlt : k < n
    · have hlt' : (k : Int) < (n : Int) := by omega
      have c1 := hB.cellS (filled_get hlt)
      have f1 := hB.frozen k
      go_wp2_with fail
      go_roundw
      case rel => exact ⟨k + 1, by omega, by go_num, by rw [← filled_set hlt]; exact hB.set_ k _, by unfold Hid; rw [size_setCell]; exact hz.out, hF.setCell (.inl (by simp)) _⟩
      case measure => simp [intOf]; omega
    · have hkn : k = n := by omega
      subst hkn
      rw [filled_all] at hB
      have hge : decide ((k : Int) < (k : Int)) = false := by simp
      have c1 : wr.cell? ⟨w.heap.size + 2, 0, none⟩ = some (.int .i64 (-1)) := hB.cellS (by simp [List.getElem?_replicate]; omega)
      have f1 := hB.frozen 0
      have hz' := hz.out
      have hC0 : CI X w (((wr.setCell ⟨w.heap.size + 2, 0, none⟩ (.int .i64 0)).alloc (.cells #[.int .i64 0] 3)).alloc (.cells #[.slice none 0 0] 25)) w.heap.size A k c rows ((List.replicate k (-1)).set 0 0) [0] 1
          (.slice (some ⟨w.heap.size + 3, 0, none⟩) 1 1) (.slice none 0 0) [] := by
        have hz2 : (wr.setCell ⟨w.heap.size + 2, 0, none⟩ (.int .i64 0)).heap.size = w.heap.size + 3 := by rw [size_setCell]; exact hz'
        have hG := hF.setCell (p := ⟨w.heap.size + 2, 0, none⟩) (.inl (by simp)) (.int .i64 0)
        have b0 : Blk (((w.alloc (.cells #[.slice A k c] 25)).alloc (.cells #[.slice none 0 0] 25)).alloc (.cells (List.replicate k (.int .i64 0)).toArray 3)) w.heap.size 25 [.slice A k c] := ((Blk.new w 25 [.slice A k c]).alloc _).alloc _
        have b1 : Blk (((w.alloc (.cells #[.slice A k c] 25)).alloc (.cells #[.slice none 0 0] 25)).alloc (.cells (List.replicate k (.int .i64 0)).toArray 3)) (w.heap.size + 1) 25 [.slice none 0 0] := by
          have := (Blk.new (w.alloc (.cells #[.slice A k c] 25)) 25 [.slice none 0 0]).alloc (.cells (List.replicate k (.int .i64 0)).toArray 3)
          simpa using this
        have hFw : Fr [] w (wr.setCell ⟨w.heap.size + 2, 0, none⟩ (.int .i64 0)) := ((((((Fr.refl [w.heap.size + 2] w).alloc _).alloc _).alloc _).trans hG)).drop (by omega)
        have hl0 : Sl [] ((wr.setCell ⟨w.heap.size + 2, 0, none⟩ (.int .i64 0)).alloc (.cells #[.int .i64 0] 3)) (some ⟨w.heap.size + 3, 0, none⟩) 1 1 1 [.int .i64 0] := by
          have := Sl.lit [] (wr.setCell ⟨w.heap.size + 2, 0, none⟩ (.int .i64 0)) 3 #[.int .i64 0] 1 1 1 rfl (by omega) (by simp)
          rw [hz2] at this
          exact this
        refine ⟨rfl, rfl, HX.out, ((b0.fr hG (by simp)).alloc _).alloc _, ((b1.fr hG (by simp)).alloc _).alloc _, ?_, ?_, .inr ⟨_, rfl, hl0.keep ((Fr.refl _ _).alloc _), fun a ha => ?_⟩, ⟨[], Own.nil _ _ _ _, LRel.nil⟩, ?_, (hFw.alloc _).alloc _, ?_⟩
        · have := ((hB.set_ 0 (.int .i64 0)).alloc (.cells #[.int .i64 0] 3)).alloc (.cells #[.slice none 0 0] 25)
          rwa [← List.map_set] at this
        · have := Blk.new ((wr.setCell ⟨w.heap.size + 2, 0, none⟩ (.int .i64 0)).alloc (.cells #[.int .i64 0] 3)) 25 [.slice none 0 0]
          simpa [hz2] using this
        · cases ha; simp [hz2]
        · have h1 := ((((hr.new (m := w.heap.size + 4) (by omega)).new (m := w.heap.size + 2) (by omega)).new (m := w.heap.size + 3) (by omega)).new (m := w.heap.size + 1) (by omega))
          refine (h1.sub (M' := MB X (.slice (some ⟨w.heap.size + 3, 0, none⟩) 1 1) (.slice none 0 0) w.heap.size) (by intro m hm; simp [MB, bl, Value.ownBlock] at hm ⊢; rcases hm with h | h | h | h | h <;> simp [h])).keep (Fr.any ((hFw.alloc _).alloc _))
        · intro b hb; simp [bl, Value.ownBlock] at hb ⊢; omega
      have hN0 : NumOk k ((List.replicate k (-1)).set 0 0) [0] := NumOk.start hn0
      have HC0 : Hid (canGo rows (k - 0) 0 ((List.replicate k (-1)).set 0 0) [0] [] = canonR rows) := by unfold Hid canonR; rw [HN.out]; rfl
      clear hB hF
      go_wp2_with fail
      simp only [Nat.add_assoc, Nat.reduceAdd]
      clear hz' hz c1 f1 hge hn0'
      generalize w.heap.size = i0 at *
      go_loopw [6, 8, 9, 10, 11, 12] (fun vo iv _ _ _ _ wr => ∃ (i : Nat) (num old : List Int) (L : Nat) (vout : Value) (outs : List (List Arc)), i ≤ L ∧ L ≤ k ∧ iv = .int .i64 i ∧ CI X w wr i0 A k c rows num old L vo vout outs ∧ NumOk k num old ∧
          outs.length ≤ i ∧ Hid (canGo rows (k - i) i num old outs = canonR rows)) (fun _ iv _ _ _ _ _ => k + 1 - (intOf iv).toNat)
      case atStart => exact ⟨0, _, _, 1, _, _, by omega, by omega, rfl, hC0, hN0, by simp, HC0⟩
      case round =>
        clear hC0 hN0 HC0
        obtain ⟨i, num, old, L, vout, outs, hiL, hLk, rfl, hC, hN, hol, hI⟩ := hrel
        obtain ⟨Ao, co, rfl, hco⟩ := hC.old.form
        have hosl := hC.old.sl (M := []) (by simp)
        have hol2 : Ints [] wr Ao L co old := ⟨hosl, hC.hl⟩
        have c0 := hC.bi.cellS (i := 0) rfl
        by_cases hlt : i < L
        · have hlt' : (i : Int) < (L : Int) := by omega
          obtain ⟨bo, oo, s, rfl, _, hbo, hs1, _, c1⟩ := hol2.geti hlt
          have hsr := hN.st s (List.mem_of_getElem? hs1)
          obtain ⟨sn, rfl⟩ : ∃ sn : Nat, s = sn := ⟨s.toNat, by omega⟩
          have hsk : sn < k := by omega
          have hsk' : (sn : Int) < (k : Int) := by omega
          obtain ⟨b, off, B, m, d, r, rfl, hbM, hb, hm1, _, c2, hrow⟩ := hC.rows.get hsk
          have hrm : r ∈ rows := List.mem_of_getElem? hm1
          have hm2 : m ≤ 200000 := by rw [← hrow.n_eq]; exact Small.row ‹_› hrm
          have hrok := HOK.out r hrm
          have HS : Hid (∀ row, row = rowOf r → canGo rows (k - (i + 1)) (i + 1) (rowGo row num old []).1 (rowGo row num old []).2.1 (outs ++ [(rowGo row num old []).2.2]) = canonR rows) := by
            intro row hrow'
            rw [← hI.out]
            exact (canGo_step (by omega) hs1 (by simpa using hm1) hrow').symm
          have HR := Lib.hid hrok
          clear hrok hs1 hm1 hsr hrm
          go_wp2_with fail
          obtain ⟨wo, rfl⟩ : ∃ wo : World, wo = wr := ⟨_, rfl⟩
          go_loopw [9, 10] (fun vr kv wr => ∃ (q : Nat) (acc : List Arc) (Ar : Option Addr) (nr cr : Nat), q ≤ m ∧ kv = .int .i64 q ∧ vr = .slice Ar nr cr ∧ Pairs (MB X (.slice (some ⟨bo, oo, none⟩) L co) vout i0) wr Ar nr cr acc ∧ nr ≤ q ∧ Fr [] wo wr ∧ Hid ((r.drop q).foldl (fun acc a => ins a acc) acc = rowOf r))
            (fun _ kv _ => m - (intOf kv).toNat)
          case atStart => exact ⟨0, [], none, 0, 0, by omega, rfl, rfl, Ls.nil _ _ _ _, Nat.le_refl _, Fr.refl _ _, rfl⟩
          case round =>
            obtain ⟨q, acc, Ar, nr, cr, hq, rfl, rfl, hacc, hnr, hH, hJ⟩ := hrel
            have hC1 := hC.pure hH
            have e0 := (hH.cell (p := ⟨i0, 0, none⟩) hC.bi.lt (by simp)).trans c0
            have e1 := (hH.cell (p := ⟨bo, oo + i, none⟩) hbo (by simp)).trans c1
            have e2 := (hH.cell (p := ⟨b, off + sn, none⟩) hb (by simp)).trans c2
            by_cases hlq : q < m
            · have hlq' : (q : Int) < (m : Int) := by omega
              obtain ⟨b', off', x, y, rfl, _, hb', hm1, hrd, a1, a2⟩ := (hrow.keep hH.any).getp hlq
              have HD : Hid ((r.drop (q + 1)).foldl (fun acc a => ins a acc) (ins (x, y) acc) = rowOf r) := by
                have := hJ.out
                rw [hrd] at this
                exact this
              have hlt1 := hC1.mlt
              have hbl : b' < wr.heap.size := hb'
              have hbo1 := Nat.lt_of_lt_of_le hbo hH.size
              have hb1 := Nat.lt_of_lt_of_le hb hH.size
              have hi1 := hC1.bi.lt
              clear hrd hm1
              go_wp2_with fail
              go_quiet (fail)
              go_wp2_with fail
              go_region_held3 (fun w' => w'.cell? ⟨i0, 0, none⟩ = some (.slice (some ⟨b, off, none⟩) k c) ∧ w'.cell? ⟨bo, oo + i, none⟩ = some (.int .i64 (sn : Int)) ∧ w'.cell? ⟨b, off + sn, none⟩ = some (.slice (some ⟨b', off', none⟩) m d) ∧
                  w'.cell? ⟨b', off' + q * 2, none⟩ = some (.int .i64 x) ∧ w'.cell? ⟨b', off' + q * 2 + 1, none⟩ = some (.int .i64 y))
                ((first | exact ⟨e0, e1, e2, a1, a2⟩ | exact ⟨g0, g1, g2, g3, g4⟩))
                ((go_at_call 19; refine (insert_any (MB X (.slice (some ⟨bo, oo, none⟩) L co) vout i0) Ar nr cr acc x y _ (by exact hlt1) (hacc.keep (Fr.any (by repeat (first | exact Fr.refl _ _ | with_reducible assumption | with_reducible apply Fr.drewN | with_reducible apply Fr.drew | with_reducible apply Fr.alloc)))) (by omega)).mono ?_; rintro e w1 ⟨A', n', c', rfl, hr1, hf1⟩
                  have hf0 : Fr [] wr w1 := Fr.trans (by repeat (first | exact Fr.refl _ _ | with_reducible assumption | with_reducible apply Fr.drewN | with_reducible apply Fr.drew | with_reducible apply Fr.alloc)) hf1
                  have g0 := (hf0.cell (p := ⟨i0, 0, none⟩) hi1 (by simp)).trans e0
                  have g1 := (hf0.cell (p := ⟨bo, oo + i, none⟩) hbo1 (by simp)).trans e1
                  have g2 := (hf0.cell (p := ⟨b, off + sn, none⟩) hb1 (by simp)).trans e2
                  have g3 := (hf0.cell (p := ⟨b', off' + q * 2, none⟩) hbl (by simp)).trans a1
                  have g4 := (hf0.cell (p := ⟨b', off' + q * 2 + 1, none⟩) hbl (by simp)).trans a2))
              go_wp2_with fail
              go_roundw
              case rel => exact ⟨q + 1, ins (x, y) acc, _, _, _, by omega, by go_num, rfl, hr1, by have h1 := hr1.n_eq; have h2 := hacc.n_eq; have h3 := ins_len (x, y) acc; omega, hH.trans hf0, HD⟩
              case measure => simp [intOf]; omega
            · have hge : decide ((q : Int) < (m : Int)) = false := by simp; omega
              have hrowe : acc = rowOf r := by
                have := hJ.out
                rw [List.drop_eq_nil_of_le (by rw [hrow.n_eq]; omega)] at this
                exact this
              have HE := Lib.hid hrowe
              clear hrowe
              go_wp2_with fail
              go_quiet (fail)
              go_wp2_with fail
              have hrowk := hacc.keep (Fr.any (M := MB X (.slice (some ⟨bo, oo, none⟩) L co) vout i0) ((Fr.refl [] wr).drewN (nq + 0)))
              have hnm : nr ≤ 200000 := by have h1 := hacc.n_eq; have h2 := len_rowOf r; have h3 := hrow.n_eq; rw [HE.out] at h1; omega
              clear e0 e1 e2 c0 c1 c2 hosl hol2
              go_loopw [6, 11, 12] (fun vo vn kv wr4 => ∃ (q : Nat) (num' old' : List Int) (L' : Nat) (nxt : List Arc) (An : Option Addr) (nn cn : Nat), q ≤ nr ∧ kv = .int .i64 q ∧ vn = .slice An nn cn ∧ CI X w wr4 i0 (some ⟨b, off, none⟩) k c rows num' old' L' vo vout outs ∧ NumOk k num' old' ∧
                  Pairs (MB X vo vout i0) wr4 An nn cn nxt ∧ Pairs (MB X vo vout i0) wr4 Ar nr cr acc ∧ nn ≤ q ∧ L ≤ L' ∧ Hid (rowGo (acc.drop q) num' old' nxt = rowGo acc num old [])) (fun _ _ kv _ => nr - (intOf kv).toNat)
              case atStart => exact ⟨0, num, old, L, [], none, 0, 0, by omega, rfl, rfl, hC1.pure (by repeat (first | exact Fr.refl _ _ | with_reducible assumption | with_reducible apply Fr.drewN | with_reducible apply Fr.drew | with_reducible apply Fr.alloc)), hN, Ls.nil _ _ _ _, hacc.keep (Fr.any (by repeat (first | exact Fr.refl _ _ | with_reducible assumption | with_reducible apply Fr.drewN | with_reducible apply Fr.drew | with_reducible apply Fr.alloc))), Nat.le_refl _, Nat.le_refl _, rfl⟩
              case round =>
                obtain ⟨q, num', old', L', nxt, An, nn, cn, hq, rfl, rfl, hC4, hN4, hnxt, hrow4, hnq, hLL, hK⟩ := hrel
                obtain ⟨Av, cv', rfl, hcv⟩ := hC4.old.form
                have hL4 : L' ≤ k := by have h1 := hN4.le; have h2 := hC4.hl; omega
                by_cases hlq : q < nr
                · have hlq' : (q : Int) < (nr : Int) := by omega
                  obtain ⟨rb, ro, e, t, rfl, hrbM, hrb, hm1, hrd, a1, a2⟩ := hrow4.getp hlq
                  have htr : 0 ≤ t ∧ t < k := by
                    have h1 : ((e, t) : Arc) ∈ acc := List.mem_of_getElem? hm1
                    rw [HE.out, mem_rowOf] at h1
                    exact HR.out _ h1
                  obtain ⟨tn, rfl⟩ : ∃ tn : Nat, t = tn := ⟨t.toNat, by omega⟩
                  have htk : tn < k := by omega
                  have htk' : (tn : Int) < (k : Int) := by omega
                  obtain ⟨x, hx, _, hx1, hx2⟩ := hN4.get htr.1 htr.2
                  rw [Int.toNat_natCast] at hx
                  have n1 : wr.cell? ⟨i0 + 2, tn, none⟩ = some (.int .i64 x) := hC4.bn.cellS (by rw [List.getElem?_map, hx]; rfl)
                  have hrne : rb ≠ i0 + 2 := fun h => hrbM (mem_MB.2 (.inr (.inr (.inl h))))
                  have hb4 := hC4.bo.lt
                  have hb2 := hC4.bn.lt
                  have hmlt := hC4.mlt
                  have hN5 := hN4.one htr.1 htr.2
                  by_cases hneg : x < 0
                  · have HD : Hid (rowGo (acc.drop (q + 1)) (num'.set tn L') (old' ++ [(tn : Int)]) (ins (e, (L' : Int)) nxt) = rowGo acc num old []) := by
                      have := hK.out
                      rw [hrd, rowGo_neg hx hneg hC4.hl] at this
                      exact this
                    have hC5 := hC4.num_ tn (L' : Int)
                    have hN6 : NumOk k (num'.set tn L') (old' ++ [(tn : Int)]) := by
                      have h1 : numOne num' old' (tn : Int) = (num'.set tn L', old' ++ [(tn : Int)]) := by
                        simp only [numOne, Int.toNat_natCast, List.getD, hx, Option.getD_some, if_pos hneg, hC4.hl]
                      rw [h1] at hN5; exact hN5
                    have hset : (num'.set tn (L' : Int))[tn]? = some (L' : Int) := by simp [(List.getElem?_eq_some_iff.1 hx).1]
                    have HSET := Lib.hid hset
                    have z1 := hC4.bn.frozen tn
                    have hF5 : Fr (MB X (.slice Av L' cv') vout i0) wr (wr.setCell ⟨i0 + 2, tn, none⟩ (.int .i64 (L' : Int))) := (Fr.refl _ wr).setCell (.inl (mem_MB.2 (.inr (.inr (.inl rfl))))) _
                    have hr5 := hrow4.keep hF5
                    have hn5 := hnxt.keep hF5
                    have y1 : (wr.setCell ⟨i0 + 2, tn, none⟩ (.int .i64 (L' : Int))).cell? ⟨rb, ro + q * 2, none⟩ = some (.int .i64 e) := by rw [World.cell?_setCell_far _ _ _ _ (by show i0 + 2 ≠ rb; omega)]; exact a1
                    have y2 : (wr.setCell ⟨i0 + 2, tn, none⟩ (.int .i64 (L' : Int))).cell? ⟨rb, ro + q * 2 + 1, none⟩ = some (.int .i64 (tn : Int)) := by rw [World.cell?_setCell_far _ _ _ _ (by show i0 + 2 ≠ rb; omega)]; exact a2
                    have hsz1 : (wr.setCell ⟨i0 + 2, tn, none⟩ (.int .i64 (L' : Int))).heap.size = wr.heap.size := size_setCell _ _ _
                    have HSZ := Lib.hid hsz1
                    have hge5 : i0 + 4 < wr.heap.size := by omega
                    have HM1 := Lib.hid hm1
                    clear hx hrd hm1 hset hsz1 hN5 hmlt
                    have hCa := hC5.pure (w' := (wr.setCell ⟨i0 + 2, tn, none⟩ (.int .i64 (L' : Int))).alloc (.cells #[.int .i64 (tn : Int)] 3)) ((Fr.refl _ _).alloc _)
                    have hr5' := hr5.keep (w' := (wr.setCell ⟨i0 + 2, tn, none⟩ (.int .i64 (L' : Int))).alloc (.cells #[.int .i64 (tn : Int)] 3)) ((Fr.refl _ _).alloc _)
                    have hn5' := hn5.keep (w' := (wr.setCell ⟨i0 + 2, tn, none⟩ (.int .i64 (L' : Int))).alloc (.cells #[.int .i64 (tn : Int)] 3)) ((Fr.refl _ _).alloc _)
                    have hS : Sl [] ((wr.setCell ⟨i0 + 2, tn, none⟩ (.int .i64 (L' : Int))).alloc (.cells #[.int .i64 (tn : Int)] 3)) (some ⟨wr.heap.size, 0, none⟩) 1 1 1 [.int .i64 (tn : Int)] := Sl.litg [] _ 3 #[.int .i64 (tn : Int)] 1 1 1 _ rfl (by omega) (size_setCell _ _ _) (by simp)
                    have hBz : i0 + 3 ≤ ((wr.setCell ⟨i0 + 2, tn, none⟩ (.int .i64 (L' : Int))).alloc (.cells #[.int .i64 (tn : Int)] 3)).heap.size := by simp [size_setCell]; omega
                    have hrbz : rb < ((wr.setCell ⟨i0 + 2, tn, none⟩ (.int .i64 (L' : Int))).alloc (.cells #[.int .i64 (tn : Int)] 3)).heap.size := by simp [size_setCell]; omega
                    have hone : ∀ u ∈ [Value.int .i64 (tn : Int)], u.oneCell' = true := by simp [Value.oneCell']
                    have hb1 : (L' + 1) * 8 ≤ 140737488355328 := by omega
                    have hb2' : L' + 1 ≤ 140737488355328 := by omega
                    have HCA := Lib.hid hCa
                    clear hC5 hr5 hn5 hF5
                    go_wp2_with ((at_builtin; refine app_blk rfl rfl T_ints HCA.out.old hS rfl rfl hone hb1 hb2' hBz ?_))
                    intro v2 w2 own2 f2 hv2
                    obtain ⟨hC6, hr6, hn6, x1, x2, n2, hrb6, hnb6⟩ := can_app HCA.out own2 f2 (hv2.imp id (fun h => by rw [h]; simp [size_setCell])) hr5' hn5' HM1.out hlq HSET.out
                    have hmlt6 := hC6.mlt
                    clear own2 f2 hv2
                    go_wp2_with fail
                    go_region_held3 (fun w' => w'.cell? ⟨rb, ro + q * 2, none⟩ = some (.int .i64 e) ∧ w'.cell? ⟨rb, ro + q * 2 + 1, none⟩ = some (.int .i64 (tn : Int)) ∧ w'.cell? ⟨i0 + 2, tn, none⟩ = some (.int .i64 (L' : Int)))
                      ((first | exact ⟨x1, x2, n2⟩ | exact ⟨g0, g1, g2⟩))
                      ((go_at_call 19; refine (insert_any (MB X v2 vout i0) An nn cn nxt e (L' : Int) _ (by exact hmlt6) (hn6.keep (Fr.any (by repeat (first | exact Fr.refl _ _ | with_reducible assumption | with_reducible apply Fr.drewN | with_reducible apply Fr.drew | with_reducible apply Fr.alloc)))) (by omega)).mono ?_; rintro e' w3 ⟨A', n', c', rfl, hr3, hf3⟩
                        have hf0 : Fr [] w2 w3 := Fr.trans (by repeat (first | exact Fr.refl _ _ | with_reducible assumption | with_reducible apply Fr.drewN | with_reducible apply Fr.drew | with_reducible apply Fr.alloc)) hf3
                        have g0 := (hf0.cell (p := ⟨rb, ro + q * 2, none⟩) hrb6 (by simp)).trans x1
                        have g1 := (hf0.cell (p := ⟨rb, ro + q * 2 + 1, none⟩) hrb6 (by simp)).trans x2
                        have g2 := (hf0.cell (p := ⟨i0 + 2, tn, none⟩) hnb6 (by simp)).trans n2))
                    go_wp2_with fail
                    go_roundw
                    case rel => exact ⟨q + 1, _, _, L' + 1, _, A', n', c', by omega, by go_num, rfl, hC6.pure hf0, hN6, hr3, hr6.keep hf0.any, by have h1 := hr3.n_eq; have h2 := hnxt.n_eq; have h3 := ins_len (e, (L' : Int)) nxt; omega, by omega, HD⟩
                    case measure => simp [intOf]; omega
                  · have HD : Hid (rowGo (acc.drop (q + 1)) num' old' (ins (e, x) nxt) = rowGo acc num old []) := by
                      have := hK.out
                      rw [hrd, rowGo_pos hx hneg] at this
                      exact this
                    have hx0 : 0 ≤ x := by omega
                    clear hx hrd hm1 hN5
                    go_wp2_with fail
                    go_region_held3 (fun w' => w'.cell? ⟨rb, ro + q * 2, none⟩ = some (.int .i64 e) ∧ w'.cell? ⟨rb, ro + q * 2 + 1, none⟩ = some (.int .i64 (tn : Int)) ∧ w'.cell? ⟨i0 + 2, tn, none⟩ = some (.int .i64 x))
                      ((first | exact ⟨a1, a2, n1⟩ | exact ⟨g0, g1, g2⟩))
                      ((go_at_call 19; refine (insert_any (MB X (.slice Av L' cv') vout i0) An nn cn nxt e x _ (by exact hmlt) (hnxt.keep (Fr.any (by repeat (first | exact Fr.refl _ _ | with_reducible assumption | with_reducible apply Fr.drewN | with_reducible apply Fr.drew | with_reducible apply Fr.alloc)))) (by omega)).mono ?_; rintro e' w3 ⟨A', n', c', rfl, hr3, hf3⟩
                        have hf0 : Fr [] wr w3 := Fr.trans (by repeat (first | exact Fr.refl _ _ | with_reducible assumption | with_reducible apply Fr.drewN | with_reducible apply Fr.drew | with_reducible apply Fr.alloc)) hf3
                        have g0 := (hf0.cell (p := ⟨rb, ro + q * 2, none⟩) hrb (by simp)).trans a1
                        have g1 := (hf0.cell (p := ⟨rb, ro + q * 2 + 1, none⟩) hrb (by simp)).trans a2
                        have g2 := (hf0.cell (p := ⟨i0 + 2, tn, none⟩) hb2 (by simp)).trans n1))
                    go_wp2_with fail
                    go_roundw
                    case rel => exact ⟨q + 1, _, _, L', _, A', n', c', by omega, by go_num, rfl, hC4.pure hf0, hN4, hr3, hrow4.keep hf0.any, by have h1 := hr3.n_eq; have h2 := hnxt.n_eq; have h3 := ins_len (e, x) nxt; omega, by omega, HD⟩
                    case measure => simp [intOf]; omega
                · have hge : decide ((q : Int) < (nr : Int)) = false := by simp; omega
                  have hend : rowGo acc num old [] = (num', old', nxt) := by
                    have := hK.out
                    rw [List.drop_eq_nil_of_le (by rw [hrow4.n_eq]; omega)] at this
                    exact this.symm
                  have HFin : Hid (canGo rows (k - (i + 1)) (i + 1) num' old' (outs ++ [nxt]) = canonR rows) := by
                    have := HS.out acc HE.out
                    rw [hend] at this
                    exact this
                  obtain ⟨vs, hov, hrel⟩ := hC4.out
                  have hobz := hC4.bo.cellS (i := 0) rfl
                  have hobf := hC4.bo.frozen 0
                  have hoblt := hC4.bo.lt
                  have hone := one_cv_slice An nn cn
                  have hov' := hov.fr (M := []) (w' := wr.alloc (.cells #[.slice An nn cn] 44)) ((Fr.refl _ _).alloc _) (by simp)
                  have hS : Sl [] (wr.alloc (.cells #[.slice An nn cn] 44)) (some ⟨wr.heap.size, 0, none⟩) 1 1 1 [.slice An nn cn] := Sl.lit [] wr 44 #[.slice An nn cn] 1 1 1 rfl (by omega) (by simp)
                  have hob1 : (outs.length + 1) * 24 ≤ 140737488355328 := by omega
                  have hob2 : outs.length + 1 ≤ 140737488355328 := by omega
                  have hob3 : i0 + 5 ≤ (wr.alloc (.cells #[.slice An nn cn] 44)).heap.size := by simp; omega
                  have hbvo := hov.blt
                  have HRel := Lib.hid hrel
                  have HEnd := Lib.hid hend
                  clear hend hrel hov
                  go_wp2_with ((at_builtin; refine app_blk rfl rfl T_rows hov' hS rfl rfl hone hob1 hob2 hob3 ?_))
                  intro v2 w2 own2 f2 hv2
                  obtain ⟨A2, c2, rfl, hc2⟩ := own2.form
                  have hv2' : (Value.slice A2 (outs.length + 1) c2).ownBlock = vout.ownBlock ∨ (Value.slice A2 (outs.length + 1) c2).ownBlock = some (wr.alloc (.cells #[.slice An nn cn] 44)).heap.size := hv2.imp id (fun h => by rw [h]; simp)
                  have hCp := (hC4.pure (w' := wr.alloc (.cells #[.slice An nn cn] 44)) ((Fr.refl _ _).alloc _)).push (HRel.out.imp fun _ _ h => h.keep ((Fr.refl _ _).alloc _)) ⟨An, nn, cn, rfl, hnxt.keep ((Fr.refl _ _).alloc _)⟩ own2 f2 hv2'
                  have hnb : i0 + 4 ∉ bl vout := fun hin => by have := (hbvo _ hin).1; omega
                  have k1 : w2.cell? ⟨i0 + 4, 0, none⟩ = some vout := by
                    rw [f2.cell (by simp; omega) hnb, World.cell?_alloc_lt _ _ _ hoblt]; exact hobz
                  have k2 : w2.frozen? ⟨i0 + 4, 0, none⟩ = false := by
                    have := ((hC4.bo.alloc (.cells #[.slice An nn cn] 44)).fr f2 hnb).frozen 0
                    exact this
                  clear own2 f2 hv2 hv2' hobz hobf
                  go_wp2_with fail
                  go_roundw
                  case rel => exact ⟨i + 1, num', old', L', _, outs ++ [nxt], by omega, by omega, by go_num, hCp, hN4, by simp; omega, HFin⟩
                  case measure => simp [intOf]; omega
        · have hge : decide ((i : Int) < (L : Int)) = false := by simp; omega
          have hfin : canonR rows = (outs, old) := by rw [← hI.out]; exact canGo_stop (by rw [hC.hl]; omega)
          obtain ⟨vs, hov, hrel⟩ := hC.out
          obtain ⟨Ax, cx, rfl, hcx⟩ := hov.form
          have hobz := hC.bo.cellS (i := 0) rfl
          have hbr := hC.br.cellS (i := 0) rfl
          have hbrf := hC.br.frozen 0
          have hbrl := hC.br.lt
          have HFin := Lib.hid hfin
          clear hfin
          go_wp2_with fail
          have hF : Fr [i0 + 1] wr (wr.setCell ⟨i0 + 1, 0, none⟩ (.slice Ax outs.length cx)) := (Fr.refl _ _).setCell (.inl (by simp)) _
          refine bodyPost_ret (v := .tuple #[.agg #[.slice Ax outs.length cx], .slice Ao L co]) (by simp [results, Try.results14, go_sem, hbr]) rfl ?_
          have hw := hC.sz
          refine ⟨_, _, _, _, _, _, rfl, ?_, ?_, hC.fr.setCell (.inr (by rw [hw]; show i0 ≤ i0 + 1; omega)) _⟩
          · rw [HFin.out]
            have hfl : vs.flatMap cv = vs := by show vs.flatMap (fun x => [x]) = vs; simp
            have hMB : i0 + 1 ∈ MB X (.slice Ao L co) (.slice Ax outs.length cx) i0 := mem_MB.2 (.inr (.inr (.inr (.inr (.inl rfl)))))
            have hXX : ∀ x ∈ X, x < i0 + 3 := fun x hx => by have := hC.hX x hx; omega
            exact ⟨vs, ⟨(hov.fr hF (by simp)).sl (fun m hm => by have := hXX m hm; omega), hrel.1⟩, hrel.imp fun _ _ h => (h.keep (hF.mono (by simp; intro _; exact hMB))).sub (fun m hm => mem_MB.2 (.inr (.inr (.inr (.inr (.inr hm))))))⟩
          · rw [HFin.out]
            exact ⟨(hC.old.fr hF (by simp)).sl (fun m hm => by have := hC.hX m hm; omega), hC.hl⟩
end Go.Proofs.Ytfkpjnmngafnmaa
