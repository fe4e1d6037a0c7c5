/- The program's Stable (flow) and Chase. -/
import Derived.Test.YtfkpjnmngafnmaaCanl2
import Derived.Test.YtfkpjnmngafnmaaPri2
namespace Go.Proofs.Ytfkpjnmngafnmaa
set_option linter.unusedVariables false
set_option linter.unusedSimpArgs false
open Go.RowKit Go.Shelf Go.Sort

def stabB : List Arc → Bool
  | a :: _ => a.1 != 0
  | [] => true
set_option maxRecDepth 100000 in
set_option maxHeartbeats 4000000 in
theorem stable_any (A : Option Addr) (n c s : Nat) (rows : List (List Arc)) (r : List Arc) (w : World) (hr : Ll cp 2 [] w A n c rows) (hs : rows[s]? = some r) (hn1 : n ≤ 200000) :
    Calls Try.prog 33 #[.agg #[.slice A n c], .int .i64 s] w fun e w' => e = .returned (.bool (stabB r)) ∧ Fr [] w w' := by
  have hsn : s < n := by rw [← hr.n_eq]; exact (List.getElem?_eq_some_iff.1 hs).1
  have hsn' : (s : Int) < (n : Int) := by omega
  obtain ⟨b, off, C, m, e, r', rfl, _, hb, hm1, hrd, c1, hrow⟩ := hr.get hsn
  rw [hs] at hm1
  injection hm1 with hm1
  subst hm1
  clear hs hrd
  cases r with
  | nil =>
    have hm : m = 0 := by rw [← hrow.n_eq]; rfl
    subst hm
    clear hrow
    go_enter Try.func33, Try.ntmps33
    go_wp2_with fail
    go_ret
    exact ⟨rfl, (by repeat (first | exact Fr.refl _ _ | with_reducible assumption | with_reducible apply Fr.drewN | with_reducible apply Fr.drew | with_reducible apply Fr.alloc))⟩
  | cons a tl =>
    have hm : m = tl.length + 1 := by rw [← hrow.n_eq]; rfl
    obtain ⟨b', off', x, y, rfl, _, hb', hx, _, a1, a2⟩ := hrow.getp (i := 0) (by omega)
    simp at hx
    subst hx
    simp only [Nat.zero_mul, Nat.add_zero] at a1 a2
    have h1 : ((m : Int) == 0) = false := by simp; omega
    have h2 : (0 : Int) < (m : Int) := by omega
    have hst : stabB ((x, y) :: tl) = (x != 0) := rfl
    rw [hst]
    clear hst hm hrow
    go_enter Try.func33, Try.ntmps33
    go_wp2_with fail
    go_ret
    exact ⟨rfl, (by repeat (first | exact Fr.refl _ _ | with_reducible assumption | with_reducible apply Fr.drewN | with_reducible apply Fr.drew | with_reducible apply Fr.alloc))⟩

theorem chase_step_t {rows : List (List Arc)} {k : Nat} {r : List Arc} (hr : rows[k]? = some r) : (chaseR (rows.take k) ++ rows.drop k).set k (chaseRow r) = chaseR (rows.take (k + 1)) ++ rows.drop (k + 1) := by
  have hl := (List.getElem?_eq_some_iff.1 hr).1
  have hd : rows.drop k = r :: rows.drop (k + 1) := by
    rw [List.drop_eq_getElem_cons hl]; congr 1
    rw [List.getElem?_eq_getElem hl] at hr; exact Option.some.inj hr
  rw [hd, set_mid _ _ _ _ k (by simp [chaseR]; omega), List.take_add_one, hr]
  simp [chaseR]
theorem chaseRow_stable {r : List Arc} (h : stabB r = true) : chaseRow r = r := by
  cases r with
  | nil => rfl
  | cons a tl => simp [stabB] at h; simp [chaseRow, h]
theorem chaseRow_un {r : List Arc} (h : stabB r = false) : chaseRow r = r.take 1 ∧ 1 ≤ r.length := by
  cases r with
  | nil => simp [stabB] at h
  | cons a tl => simp [stabB] at h; simp [chaseRow, h]

set_option maxRecDepth 100000 in
set_option maxHeartbeats 16000000 in
theorem chase_any (X : List Nat) (A : Option Addr) (n c : Nat) (rows : List (List Arc)) (w : World) (hX : ∀ x ∈ X, x < w.heap.size) (hr : Ll cp 2 [] w A n c rows) (hs : Small rows) (hv : validB rows = true) :
    Calls Try.prog 17 #[.agg #[.slice A n c]] w fun e w' => ∃ A' n' c', e = .returned (.tuple #[.agg #[.slice A' n' c'], .int .i64 0]) ∧ Ll cp 2 X w' A' n' c' (canonR (chaseR rows)).1 ∧ Fr [] w w' := by
  have hn : rows.length = n := hr.n_eq
  have hn1 : n ≤ 10000 := by rw [← hn]; exact hs.n
  have hn0 : 0 < n := by rw [← hn]; exact ((validB_iff rows).1 hv).1
  have hl : looseB rows = true := validB_loose hv
  have HN := Lib.hid hn
  have HV := Lib.hid hv
  have HL := Lib.hid hl
  have HX := Lib.hid hX
  obtain ⟨W0, hW0⟩ : ∃ W0, W0 = (w.alloc (.cells #[.slice A n c] 25)).alloc (.cells #[.slice none 0 0] 25) := ⟨_, rfl⟩
  have b0 : Blk W0 w.heap.size 25 [.slice A n c] := by rw [hW0]; exact (Blk.new w 25 [.slice A n c]).alloc _
  have b2 : Blk W0 (w.heap.size + 1) 25 [.slice none 0 0] := by
    have := Blk.new (w.alloc (.cells #[.slice A n c] 25)) 25 [.slice none 0 0]
    rw [hW0]; simpa using this
  have hF0 : Fr [] w W0 := by rw [hW0]; exact ((Fr.refl _ _).alloc _).alloc _
  have hrW := hr.keep hF0
  have hsW : W0.heap.size = w.heap.size + 2 := by rw [hW0]; simp
  obtain ⟨vs, hvs, hvr⟩ := hrW.ex
  have hfl : vs.flatMap cv = vs := by show vs.flatMap (fun x => [x]) = vs; simp
  have hvsl : vs.length = n := hvs.n_eq
  have hsl := hvs.sl
  rw [hfl] at hsl
  have HSL := Lib.hid hsl
  have HVR := Lib.hid hvr
  clear hn hv hl hX hvs hvr hsl
  go_enter Try.func17, Try.ntmps17
  go_wp2_with (first
    | (go_at_call 24; refine (rvalid_any A n c rows _ (hr.keep (by repeat (first | exact Fr.refl _ _ | with_reducible assumption | with_reducible apply Fr.drewN | with_reducible apply Fr.drew | with_reducible apply Fr.alloc))) hs).mono ?_; rw [HV.out]; rintro e w1 ⟨rfl, hf1⟩; rw [← hW0] at hf1; have t0 := (b0.fr hf1 (by simp)).cellS (i := 0) rfl)
    | (go_at_call 32; refine (cloneRows_any [] A n c vs _ (HSL.out.keep hf1) (by omega)).mono ?_; rintro e w2 ⟨vo, rfl, hvo, hf2⟩
       have hf12 := hf1.trans hf2
       have t1 := (b0.fr hf12 (by simp)).cellS (i := 0) rfl
       obtain ⟨Ao, co, hvoe, hco⟩ := hvo.own.form
       have HCO := Lib.hid hco
       clear hco
       subst hvoe))
  have hs12 := hf12.size
  have hs1 := hf1.size
  obtain ⟨g, rest, hAo, hgB, hBg⟩ : ∃ g rest, Ao = some ⟨g, 0, none⟩ ∧ W0.heap.size ≤ g ∧ Blk w2 g 44 (vs ++ rest) := by
    rcases hvo with ⟨h0, _⟩ | ⟨_, _, ⟨_, h0⟩ | ⟨g, cap, cur, he, hB, hh, hc1, hc2, hc3, hc4⟩⟩
    · omega
    · omega
    · injection he with he
      rw [Nat.mul_one] at hc4
      refine ⟨g, cur.toList.drop n, he, by omega, ?_⟩
      unfold Blk
      rw [← hc4, List.take_append_drop]; exact hh
  subst hAo
  clear hvo hf1 hf2 hW0 t0
  have hR0 : LRel (LsV cp 2 [g] w2) vs rows := HVR.out.imp fun _ _ h => (h.new (m := g) hgB).keep hf12.any
  go_loopw [18] (fun kv wr => ∃ (k : Nat) (us : List Value), kv = .int .i64 k ∧ k ≤ n ∧ Hid (Blk wr g 44 (us ++ rest)) ∧ Hid (us.length = n) ∧ Hid (LRel (LsV cp 2 [g] wr) us (chaseR (rows.take k) ++ rows.drop k)) ∧ Fr [] W0 wr) (fun kv _ => n - (intOf kv).toNat)
  case atStart => exact ⟨0, vs, rfl, by omega, hBg, hvsl, by simpa [chaseR, Hid] using hR0, hf12⟩
  case round =>
    clear hBg hR0 hf12 t1 hs12 hs1
    obtain ⟨k, us, rfl, hk, hB, hul, hR, hF⟩ := hrel
    have x0 := (b0.fr hF (by simp)).cellS (i := 0) rfl
    have l0 := (b0.fr hF (by simp)).lt
    have lg := hB.out.lt
    by_cases hlt : k < n
    · have hlt' : (k : Int) < (n : Int) := by omega
      obtain ⟨r, hrk⟩ : ∃ r, rows[k]? = some r := ⟨_, List.getElem?_eq_getElem (by rw [HN.out]; exact hlt)⟩
      have hst := stable_any A n c k rows r wr (hrW.keep hF) hrk (by omega)
      have hstep := chase_step_t hrk
      have hgk : (chaseR (rows.take k) ++ rows.drop k)[k]? = some r := by
        rw [List.getElem?_append_right (by have := HN.out; simp [chaseR]; omega)]
        have : k - (chaseR (rows.take k)).length = 0 := by have := HN.out; simp [chaseR]; omega
        rw [this, List.getElem?_drop]; simpa using hrk
      obtain ⟨u, huk, Au, mu, cu, hue, hul2⟩ := hR.out.get' hgk
      subst hue
      have y0 : wr.cell? ⟨g, k, none⟩ = some (.slice Au mu cu) := hB.out.cellS (by rw [List.getElem?_append_left (by rw [hul.out]; exact hlt)]; exact huk)
      have y1 := hB.out.frozen k
      cases hsb : stabB r with
      | true =>
        have hrr := hR.out
        have heq : chaseR (rows.take k) ++ rows.drop k = chaseR (rows.take (k + 1)) ++ rows.drop (k + 1) := by
          rw [← hstep, chaseRow_stable hsb]
          symm
          apply List.ext_getElem?
          intro j
          rw [List.getElem?_set]
          split
          · rename_i hj; subst hj
            rw [if_pos (List.getElem?_eq_some_iff.1 hgk).1, hgk]
          · rfl
        rw [heq] at hrr
        have HRR := Lib.hid hrr
        rw [hsb] at hst
        clear hrr heq hstep hgk hsb hrk hul2 huk
        go_wp2_with ((go_at_call 33; refine hst.mono ?_; rintro e w3 ⟨rfl, hf3⟩))
        go_roundw
        case rel => exact ⟨k + 1, us, by go_num, by omega, hB.out.fr hf3 (by simp), hul, HRR.out.imp fun _ _ h => h.keep hf3.any, hF.trans hf3⟩
        case measure => simp [intOf]; omega
      | false =>
        obtain ⟨hc1, hc2⟩ := chaseRow_un hsb
        have hmu : 1 ≤ mu := by rw [← hul2.n_eq]; exact hc2
        have hcap := hul2.sl.cap
        have hcut := fun W => run_cut_h T_arcs Au mu cu 1 (by omega) W
        have hpre := hul2.pre (fun _ => rfl) hmu
        have HPRE : Hid (LsV cp 2 [g] wr (.slice Au 1 cu) (chaseRow r)) := ⟨Au, 1, cu, rfl, by rw [hc1]; exact hpre⟩
        have HSTEP := Lib.hid hstep
        rw [hsb] at hst
        have h1n : (1 : Int) ≤ (cu : Int) := by omega
        clear hstep hgk hsb hrk hul2 huk hpre hc1 hc2
        go_wp2_with ((go_at_call 33; refine hst.mono ?_; rintro e w3 ⟨rfl, hf3⟩; have z0 := (hf3.cell (p := ⟨g, k, none⟩) lg (by simp)).trans y0; have z1 := (hB.out.fr hf3 (by simp)).frozen k; have z2 := (hB.out.fr hf3 (by simp)).lt))
        have hfs : Fr [g] w3 (w3.setCell ⟨g, k, none⟩ (.slice Au 1 cu)) := (Fr.refl _ _).setCell (.inl (by simp)) _
        go_roundw
        case rel =>
          refine ⟨k + 1, us.set k (.slice Au 1 cu), by go_num, by omega, ?_, by unfold Hid; simp [hul.out], ?_, (hF.trans hf3).setCell (.inr hgB) _⟩
          · have := (hB.out.fr hf3 (by simp)).set_ k (.slice Au 1 cu)
            rw [List.set_append_left _ _ (by rw [hul.out]; exact hlt)] at this
            exact this
          · unfold Hid
            rw [← HSTEP.out]
            exact ((hR.out.set k HPRE.out).imp fun _ _ h => h.keep (hf3.any)).imp fun _ _ h => h.keep hfs
        case measure => simp [intOf]; omega
    · have hge : decide ((k : Int) < (n : Int)) = false := by simp; omega
      have hkn : k = n := by omega
      have hrr := hR.out
      rw [hkn, List.take_of_length_le (by rw [HN.out]; omega), List.drop_eq_nil_of_le (by rw [HN.out]; omega), List.append_nil] at hrr
      have hLo : Ll cp 2 [] wr (some ⟨g, 0, none⟩) n co (chaseR rows) := by
        refine ⟨us, ⟨⟨?_, HCO.out, fun _ => ⟨g, 0, rfl, List.not_mem_nil, lg, fun j u hu => ?_⟩⟩, hul.out⟩, hrr.imp fun _ _ h => by obtain ⟨A, n, c, h1, h2⟩ := h; exact ⟨A, n, c, h1, h2.plain⟩⟩
        · have hfu : us.flatMap cv = us := by show us.flatMap (fun x => [x]) = us; simp
          rw [hfu, hul.out, Nat.mul_one]
        · have hfu : us.flatMap cv = us := by show us.flatMap (fun x => [x]) = us; simp
          rw [hfu] at hu
          rw [Nat.zero_add]
          exact hB.out.cellS (by rw [List.getElem?_append_left (List.getElem?_eq_some_iff.1 hu).1]; exact hu)
      have hl2 := chase_loose HL.out
      have hs2 := chase_small hs
      have hb2 := b2.fr hF (by simp)
      clear hrr hkn hB hR
      go_wp2_with ((go_at_call 30; refine (rcanonical_any ((w.heap.size + 1) :: X) (some ⟨g, 0, none⟩) n co (chaseR rows) _ (by intro q hq; rcases List.mem_cons.1 hq with rfl | hq; have := hF.size; omega; have := HX.out q hq; have := hF.size; omega) hLo hs2 hl2).mono ?_; rintro e' w6 ⟨A', n', c', B', m', d', rfl, hL6, hI6, hf6⟩; have z0 := hb2.fr hf6 (by simp); have z1 := z0.cellS (i := 0) rfl; have z2 := z0.frozen 0; have z3 := z0.lt))
      refine bodyPost_ret (v := .tuple #[.agg #[.slice A' n' c'], .int .i64 0]) (by simp [results, Try.results17, go_sem, z1, z2, z3]) rfl ?_
      have hF2 : Fr [w.heap.size + 1] w6 ((w6.setCell ⟨w.heap.size + 1, 0, none⟩ (.slice A' n' c')).alloc (.cells #[.slice A' n' c'] 25)) := ((Fr.refl _ _).setCell (.inl (by simp)) _).alloc _
      refine ⟨_, _, _, rfl, ?_, ?_⟩
      · exact (hL6.keep (hF2.mono (by simp))).sub (by simp; intro a ha; exact .inr ha)
      · exact (((hF0.trans hF).trans hf6).setCell (.inr (by show w.heap.size ≤ w.heap.size + 1; omega)) _).alloc _
end Go.Proofs.Ytfkpjnmngafnmaa
