/- slices.Compact at arcs: the walk. -/
import Derived.Test.YtfkpjnmngafnmaaCpt1
namespace Go.Proofs.Ytfkpjnmngafnmaa
set_option linter.unusedVariables false
set_option linter.unusedSimpArgs false
open Go.RowKit Go.Shelf Go.Sort

set_option maxRecDepth 100000 in
set_option maxHeartbeats 8000000 in
theorem compact_any (B : Nat) (v : Value) (n : Nat) (xs : List Arc) (w : World) (h : Row w B 46 2 v n (xs.flatMap cp)) (hn : xs.length = n) (hb : n ≤ 1000000000) :
    Calls Try.prog 48 #[v] w fun e w' => ∃ v', e = .returned v' ∧ Row w' B 46 2 v' (compL xs).length ((compL xs).flatMap cp) ∧ Fr (bl v) w w' ∧ (∀ b, v'.ownBlock = some b → v.ownBlock = some b) := by
  by_cases h2 : n < 2
  · have hc : compL xs = xs := by
      match xs, hn with
      | [], _ => rfl
      | [x], _ => rfl
      | _ :: _ :: _, hn => simp at hn; omega
    rw [hc, hn]
    have hlt : (n : Int) < 2 := by omega
    obtain ⟨A, c, rfl, _⟩ := h.own.form
    have H := Lib.hid h
    clear h hc
    go_enter Try.func48, Try.ntmps48
    go_wp2_with fail
    go_ret
    exact ⟨_, rfl, H.out, Fr.refl _ _, fun _ h => h⟩
  · have hge2 : decide ((n : Int) < 2) = false := by simp; omega
    obtain ⟨g, cap, rest, rfl, hB, hc1, hc2, hAB, hlen⟩ := AB.of_row h hn (by omega)
    have HROW := Lib.hid h
    have HN := Lib.hid hn
    clear h hn
    have hst := compL_start (xs := xs) (by rw [HN.out]; omega)
    go_enter Try.func48, Try.ntmps48
    go_wp2_with fail
    go_loopw [3] (fun kv wr => ∃ k : Nat, 1 ≤ k ∧ k ≤ n ∧ kv = .int .i64 k ∧ Fr [] w wr ∧ Hid (compL xs = xs.take k ++ compGo (xs.getD (k - 1) (0, 0)) (xs.drop k))) (fun kv _ => n - (intOf kv).toNat)
    case atStart => exact ⟨1, by omega, by omega, rfl, Fr.refl _ _, hst⟩
    case round =>
      clear hst
      obtain ⟨k, hk1, hk, rfl, hF, hI⟩ := hrel
      have hAw := hAB.fr hF (by simp)
      by_cases hlt : k < n
      · have hlt' : (k : Int) < (n : Int) := by omega
        obtain ⟨k', rfl⟩ : ∃ k', k = k' + 1 := ⟨k - 1, by omega⟩
        obtain ⟨x, y, hx, c1, c2⟩ := hAw.get hlt
        obtain ⟨u, z, hu, d1, d2⟩ := hAw.get (i := k') (by omega)
        have hsub : ((k' + 1 : Nat) : Int) - 1 = (k' : Int) := by omega
        have hlt2 : (k' : Int) < (n : Int) := by omega
        have hwk : IntKind.i64.wrap (k' : Int) = (k' : Int) := IntWalk.i64_in _ (by omega)
        have hstep := compGo_step hI.out (by omega) (by simpa using hu) hx
        by_cases he : (x, y) = (u, z)
        · have hq := eqArc x y u z
          rw [decide_eq_true he] at hq
          have HE := Lib.hid (hstep.1 he)
          clear hstep he hx hu hI
          go_wp2_with fail
          go_quiet (fail)
          have hAq : AB (wr.drewN nq) g xs rest n := hAw.fr ((Fr.refl [] wr).drewN nq) (by simp)
          have hFq : Fr [g] w (wr.drewN nq) := (hF.drewN nq).any
          have cut1 := fun W => run_cut_l T_arcs (some ⟨g, 0, none⟩) n cap (k' + 1) (by omega) W
          have hcut : cutA (some ⟨g, 0, none⟩) cap (k' + 1) 2 = some ⟨g, (k' + 1) * 2, none⟩ := by
            unfold cutA; rw [if_neg (by omega)]; simp [Addr.add]
          rw [hcut] at cut1
          clear hcut hq
          go_wp2_with fail
          go_loopw [3, 5] (fun kv qv wr => ∃ (k q : Nat) (ys : List Arc), k' + 1 ≤ k ∧ k ≤ k' + 1 + q ∧ k' + 1 + q < n ∧ kv = .int .i64 k ∧ qv = .int .i64 ((q + 1 : Nat) : Int) ∧ AB wr g ys rest n ∧ Fr [g] w wr ∧
            Hid (compL xs = ys.take k ++ compGo (ys.getD (k' + 1 + (q + 1) - 1) (0, 0)) (ys.drop (k' + 1 + (q + 1))))) (fun kv qv _ => n - (intOf qv).toNat)
          case atStart => exact ⟨k' + 1, 0, xs, by omega, by omega, by omega, rfl, rfl, hAq, hFq, HE.out⟩
          case round =>
            clear hAq hFq hlt hlt' hlt2 hsub hwk
            obtain ⟨k, q, ys, hk1, hk2, hq1, rfl, rfl, hA, hF, hI⟩ := hrel
            have hlt2 : (k : Int) < (n : Int) := by omega
            by_cases hq2 : k' + 1 + (q + 1) < n
            · have hlt' : ((q + 1 : Nat) : Int) < ((n - (k' + 1) : Nat) : Int) := by omega
              have hlt3 : (q : Int) < ((n - (k' + 1) : Nat) : Int) := by omega
              have hsub : ((q + 1 : Nat) : Int) - 1 = (q : Int) := by omega
              have hwk : IntKind.i64.wrap (q : Int) = (q : Int) := IntWalk.i64_in _ (by omega)
              obtain ⟨x, y, hx, c1, c2⟩ := hA.get hq2
              obtain ⟨u, z, hu, d1, d2⟩ := hA.get (i := k' + 1 + q) (by omega)
              have hstep := compGo_step hI.out (by omega) (by simpa using hu) hx
              rw [show (k' + 1 + (q + 1)) * 2 = (k' + 1) * 2 + (q + 1) * 2 by omega] at c1 c2
              rw [show (k' + 1 + q) * 2 = (k' + 1) * 2 + q * 2 by omega] at d1 d2
              by_cases he : (x, y) = (u, z)
              · have hq := neqArc x y u z
                rw [decide_eq_true he] at hq
                have HE := Lib.hid (hstep.1 he)
                clear hstep he hx hu hI
                go_wp2_with fail
                go_quiet (fail)
                go_wp2_with fail
                go_roundw
                case rel => exact ⟨k, q + 1, ys, hk1, by omega, by omega, rfl, by go_num, hA.fr ((Fr.refl [] _).drewN _) (by simp), hF.drewN _, HE⟩
                case measure => simp [intOf]; omega
              · have hq := neqArc x y u z
                rw [decide_eq_false he] at hq
                have HE := Lib.hid (hstep.2.1 he (by omega))
                have f1 := hA.b.frozen (k * 2)
                have f2 := hA.b.frozen (k * 2 + 1)
                have g1 := hA.b.lt
                obtain ⟨_, _, _, k1, k2⟩ := hA.get (i := k) (by omega)
                clear hstep he hx hu hI
                go_wp2_with fail
                go_quiet (fail)
                go_wp2_with fail
                go_roundw
                case rel => exact ⟨k + 1, q + 1, _, by omega, by omega, by omega, by go_num, by go_num, (hA.fr ((Fr.refl [] _).drewN nq) (by simp)).set_ (by omega) x y, ((hF.drewN nq).setCell (.inl (by simp)) _).setCell (.inl (by simp)) _, HE⟩
                case measure => simp [intOf]; omega
            · have hge : decide (((q + 1 : Nat) : Int) < ((n - (k' + 1) : Nat) : Int)) = false := by simp; omega
              have hfin := comp_end hI.out (by rw [hA.n_eq]; omega)
              have hlc : (compL xs).length = k := by rw [hfin, List.length_take, hA.n_eq]; omega
              have cut1 := fun W => run_cut_l T_arcs (some ⟨g, 0, none⟩) n cap k (by omega) W
              have cut2 := fun W => run_cut_h T_arcs (some ⟨g, 0, none⟩) n cap k (by omega) W
              have hcut : cutA (some ⟨g, 0, none⟩) cap k 2 = some ⟨g, k * 2, none⟩ := by
                unfold cutA; rw [if_neg (by omega)]; simp [Addr.add]; omega
              rw [hcut] at cut1
              have hfl := flat_len cp 2 (fun _ => rfl) ys
              have hyn := hA.n_eq
              have hfx := flat_len cp 2 (fun _ => rfl) xs
              have hxn := HN.out
              have hcl := fun ty => run_clear_at (P := Try.prog) wr 44 46 ty 46 _ 2 Try.underlying44 zero_arc rfl (by simp [Value.cells, Value.oneCell']) g (k * 2) (n - k) (cap - k) _ hA.b (by omega) (by rw [List.length_append, hfl, hyn]; omega)
              have hz : ∀ (A : Array Value), A.size = 2 → (Builtin.zeroCells A (n - k)).toList.length = (n - k) * 2 := fun A h => by simp [size_zeroCells, h]
              have hzl := hz _ (rfl : (Value.agg #[Value.int .i64 0, Value.int .i64 0]).cells.size = 2)
              generalize (Builtin.zeroCells (Value.agg #[Value.int .i64 0, Value.int .i64 0]).cells (n - k)).toList = zs at hcl hzl
              have hB2 := setRow_blk (cs' := (ys.flatMap cp ++ rest).take (k * 2) ++ zs ++ (ys.flatMap cp ++ rest).drop (k * 2 + (n - k) * 2)) hA.b
              have hF2 : Fr [g] w (wr.setRow g ((ys.flatMap cp ++ rest).take (k * 2) ++ zs ++ (ys.flatMap cp ++ rest).drop (k * 2 + (n - k) * 2)).toArray) := hF.trans setRow_fr
              have hlen2 : ((ys.flatMap cp ++ rest).take (k * 2) ++ zs ++ (ys.flatMap cp ++ rest).drop (k * 2 + (n - k) * 2)).length = cap * 2 := by
                rw [List.length_append, hfx, hxn] at hlen
                simp only [List.length_append, List.length_take, List.length_drop, hfl, hyn, hzl]
                omega
              have htk : ((ys.flatMap cp ++ rest).take (k * 2) ++ zs ++ (ys.flatMap cp ++ rest).drop (k * 2 + (n - k) * 2)).take (k * 2) = (ys.take k).flatMap cp := by
                rw [List.append_assoc, List.take_append_of_le_length (by rw [List.length_take, List.length_append, hfl, hyn]; omega), List.take_take, Nat.min_self, List.take_append_of_le_length (by rw [hfl, hyn]; omega), flat_take cp 2 (fun _ => rfl)]
              generalize hgen : (ys.flatMap cp ++ rest).take (k * 2) ++ zs ++ (ys.flatMap cp ++ rest).drop (k * 2 + (n - k) * 2) = NC at hcl hB2 hF2 hlen2 htk
              generalize wr.setRow g NC.toArray = w3 at hcl hB2 hF2
              have HFN := Lib.hid hfin
              clear hgen hzl hz hfin hI hcut
              go_wp2_with fail
              go_ret
              refine ⟨_, rfl, ?_, hF2, fun _ h => h⟩
              rw [hlc, HFN.out]
              exact .inr ⟨by omega, by rw [flat_len cp 2 (fun _ => rfl), List.length_take, hyn]; omega, .inr ⟨g, cap, NC.toArray, rfl, hB, hB2, by omega, hc2, by simpa using hlen2, by simpa using htk⟩⟩
        · have hq := eqArc x y u z
          rw [decide_eq_false he] at hq
          have HE := Lib.hid (hstep.2.2 he rfl)
          clear hstep he hx hu hI
          go_wp2_with fail
          go_quiet (fail)
          go_wp2_with fail
          go_roundw
          case rel => exact ⟨k' + 1 + 1, by omega, by omega, by go_num, hF.drewN _, HE⟩
          case measure => simp [intOf]; omega
      · have hge : decide ((k : Int) < (n : Int)) = false := by simp; omega
        have hfin := comp_end hI.out (by rw [HN.out]; omega)
        rw [List.take_of_length_le (by rw [HN.out]; omega)] at hfin
        have HF := Lib.hid hfin
        clear hfin
        go_wp2_with fail
        go_ret
        refine ⟨_, rfl, ?_, hF.any, fun _ h => h⟩
        rw [HF.out, HN.out]
        exact HROW.out.keep hF (by simp)
end Go.Proofs.Ytfkpjnmngafnmaa
