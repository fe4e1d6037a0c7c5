/- slices.Clone at arcs and at rows, slices.Repeat at ints. -/
import Derived.Test.YtfkpjnmngafnmaaSrt1
import Derived.Test.YtfkpjnmngafnmaaCan2
import Derived.Test.YtfkpjnmngafnmaaRegn
import Derived.Shelf.Bits.Mul64
import Derived.Laws.CopyRow
import Derived.Ground.NamesProg
namespace Go.Proofs.Ytfkpjnmngafnmaa
set_option linter.unusedVariables false
set_option linter.unusedSimpArgs false
open Go.RowKit Go.Shelf Go.Sort

set_option maxRecDepth 100000 in
set_option maxHeartbeats 2000000 in
theorem clone_any (M : List Nat) (A : Option Addr) (n c : Nat) (cs : List Value) (w : World) (hr : Sl M w A n c 2 cs) (hb : n ≤ 1000000000) :
    Calls Try.prog 46 #[.slice A n c] w fun e w' => ∃ v', e = .returned v' ∧ Row w' w.heap.size 46 2 v' n cs ∧ Fr [] w w' := by
  have q := fun W => Lib.run_eql_slice_nil (P := Try.prog) W _ _ A n c 0 0 Try.underlying44
  by_cases h0 : n = 0
  · subst h0
    have hcs : cs = [] := List.length_eq_zero_iff.1 (by simpa using hr.len)
    subst hcs
    cases A with
    | none =>
      clear hr
      go_enter Try.func46, Try.ntmps46
      go_wp2_with fail
      go_ret
      exact ⟨_, rfl, .inl ⟨rfl, rfl, none, rfl, by simp⟩, Fr.refl _ _⟩
    | some a =>
      have hr' : Sl M w.drew (some a) 0 c 2 [] := hr.keep (Fr.refl _ _).drew
      clear hr
      go_enter Try.func46, Try.ntmps46
      go_wp2_with fail
      go_ret
      exact ⟨_, rfl, .inl ⟨rfl, rfl, some ⟨w.heap.size, 0, none⟩, rfl, by simp⟩, (by repeat (first | exact Fr.refl _ _ | with_reducible assumption | with_reducible apply Fr.drewN | with_reducible apply Fr.drew | with_reducible apply Fr.alloc))⟩
  · have h0' : 0 < n := by omega
    obtain ⟨b, off, rfl, hbM, hbs, hc⟩ := hr.at_ h0'
    clear hc
    go_enter Try.func46, Try.ntmps46
    go_wp2_with ((at_builtin; refine app_lit (B := w.heap.size) rfl rfl T_arcs (hr.keep (Fr.any (by repeat (first | exact Fr.refl _ _ | with_reducible assumption | with_reducible apply Fr.drewN | with_reducible apply Fr.drew | with_reducible apply Fr.alloc)))) rfl rfl h0' (by omega) (by omega) (by simp) ?_))
    intro v1 w1 hrow hf1 _
    go_wp2_with fail
    go_ret
    exact ⟨v1, rfl, hrow, Fr.trans (by repeat (first | exact Fr.refl _ _ | with_reducible assumption | with_reducible apply Fr.drewN | with_reducible apply Fr.drew | with_reducible apply Fr.alloc)) hf1⟩
set_option maxRecDepth 100000 in
set_option maxHeartbeats 2000000 in
theorem cloneRows_any (M : List Nat) (A : Option Addr) (n c : Nat) (cs : List Value) (w : World) (hr : Sl M w A n c 1 cs) (hb : n ≤ 1000000000) :
    Calls Try.prog 32 #[.slice A n c] w fun e w' => ∃ v', e = .returned v' ∧ Row w' w.heap.size 44 1 v' n cs ∧ Fr [] w w' := by
  have q := fun W => Lib.run_eql_slice_nil (P := Try.prog) W _ _ A n c 0 0 Try.underlying23
  by_cases h0 : n = 0
  · subst h0
    have hcs : cs = [] := List.length_eq_zero_iff.1 (by simpa using hr.len)
    subst hcs
    cases A with
    | none =>
      clear hr
      go_enter Try.func32, Try.ntmps32
      go_wp2_with fail
      go_ret
      exact ⟨_, rfl, .inl ⟨rfl, rfl, none, rfl, by simp⟩, Fr.refl _ _⟩
    | some a =>
      have hr' : Sl M w.drew (some a) 0 c 1 [] := hr.keep (Fr.refl _ _).drew
      clear hr
      go_enter Try.func32, Try.ntmps32
      go_wp2_with fail
      go_ret
      exact ⟨_, rfl, .inl ⟨rfl, rfl, some ⟨w.heap.size, 0, none⟩, rfl, by simp⟩, (by repeat (first | exact Fr.refl _ _ | with_reducible assumption | with_reducible apply Fr.drewN | with_reducible apply Fr.drew | with_reducible apply Fr.alloc))⟩
  · have h0' : 0 < n := by omega
    obtain ⟨b, off, rfl, hbM, hbs, hc⟩ := hr.at_ h0'
    clear hc
    go_enter Try.func32, Try.ntmps32
    go_wp2_with ((at_builtin; refine app_lit (B := w.heap.size) rfl rfl T_rows (hr.keep (Fr.any (by repeat (first | exact Fr.refl _ _ | with_reducible assumption | with_reducible apply Fr.drewN | with_reducible apply Fr.drew | with_reducible apply Fr.alloc)))) rfl rfl h0' (by omega) (by omega) (by simp) ?_))
    intro v1 w1 hrow hf1 _
    go_wp2_with fail
    go_ret
    exact ⟨v1, rfl, hrow, Fr.trans (by repeat (first | exact Fr.refl _ _ | with_reducible assumption | with_reducible apply Fr.drewN | with_reducible apply Fr.drew | with_reducible apply Fr.alloc)) hf1⟩


theorem filled_fill {n k m : Nat} (h : k + m ≤ n) : (((filled n k).map (Value.int .i64)).toArray.toList.take k ++ (List.replicate m (.int .i64 (-1))) ++ ((filled n k).map (Value.int .i64)).toArray.toList.drop (k + m)) = (filled n (k + m)).map (Value.int .i64) := by
  simp only [filled]
  have h1 : (((List.replicate k (-1) ++ List.replicate (n - k) 0 : List Int).map (Value.int .i64)).take k) = List.replicate k (.int .i64 (-1)) := by simp
  have h2 : (((List.replicate k (-1) ++ List.replicate (n - k) 0 : List Int).map (Value.int .i64)).drop (k + m)) = List.replicate (n - (k + m)) (.int .i64 0) := by
    rw [List.map_append, ← List.drop_drop, List.drop_left' (by simp)]
    simp [Nat.sub_sub]
  rw [h1, h2]
  rw [List.replicate_append_replicate, List.map_append, List.map_replicate, List.map_replicate]
theorem wp_copy {P : Program} {o : Oper} {a : Act} {w w' : World} {K : Act → World → Prop} {Q : Exit → Act → World → Prop} {dT sT : TypeId} {s x : Operand} {v1 v2 u : Value}
    (ho : o.op = .call { callee := .builtin .copy, args := #[s, x], argTypes := #[dT, sT] }) (hs : a.eval s = v1) (hx : a.eval x = v2)
    (hrun : (Builtin.copy_ #[dT, sT] o.type #[v1, v2]).run P w = .ok u w') (h : K (a.put o.dst u) w') : o.wp P a w K Q := by
  unfold Oper.wp execOp
  simp only [ho, resolve, invoke, builtin, Sem.run_bind, Sem.run_pure, Result.andThen_ok, List.map_toArray, List.map_cons, List.map_nil, hs, hx, hrun]
  exact h
theorem setRow_blk {w : World} {g : Nat} {e : TypeId} {cs cs' : List Value} (h : Blk w g e cs) : Blk (w.setRow g cs'.toArray) g e cs' := setRow_heap w g _ _ _ _ h
theorem setRow_fr {w : World} {g : Nat} {cs : Array Value} : Fr [g] w (w.setRow g cs) := ⟨rfl, rfl, rfl, by simp, fun k _ hm => setRow_other _ _ _ _ (by simpa using hm)⟩
theorem filled_cell {n k j : Nat} {u : Value} {w : World} {g : Nat} {e : TypeId} {m : Nat} (h : Blk w g e ((filled n k).map (Value.int .i64))) (hm : m ≤ k) (hu : (List.replicate m (Value.int .i64 (-1)))[j]? = some u) : w.cell? ((⟨g, 0, none⟩ : Addr).add j) = some u := by
  rw [List.getElem?_replicate] at hu
  split at hu
  · cases hu
    have := h.cellS (i := j) (u := .int .i64 (-1)) (by rw [List.getElem?_map, filled, List.getElem?_append_left (by simp; omega)]; simp [List.getElem?_replicate]; omega)
    unfold Addr.add
    by_cases hj : j = 0
    · subst hj; simpa using this
    · simpa [hj] using this
  · cases hu
set_option maxRecDepth 100000 in
set_option maxHeartbeats 4000000 in
theorem repeat_any (b n : Nat) (w : World) (hb : w.cell? ⟨b, 0, none⟩ = some (.int .i64 (-1))) (h0 : 0 < n) (hn : n ≤ 1000000) :
    Calls Try.prog 45 #[.slice (some ⟨b, 0, none⟩) 1 1, .int .i64 n] w fun e w' => ∃ g, e = .returned (.slice (some ⟨g, 0, none⟩) n n) ∧ w.heap.size ≤ g ∧ Blk w' g 3 ((List.replicate n (-1 : Int)).map (Value.int .i64)) ∧ Fr [] w w' := by
  have hmul := fun W => Any.bits_Mul Try.bitsMul 1 n (by omega) (by omega) W
  change ∀ W, Calls Try.prog 54 _ W _ at hmul
  rw [Nat.one_mul, Nat.div_eq_of_lt (by omega : n < 18446744073709551616), Nat.mod_eq_of_lt (by omega : n < 18446744073709551616)] at hmul
  have hmul' : ∀ W, Calls Try.prog 54 #[.int .u64 1, .int .u64 n] W fun e w' => e = .returned (.tuple #[.int .u64 0, .int .u64 n]) ∧ W = w' := fun W => (hmul W).mono fun _ _ h => ⟨h.1, h.2.symm⟩
  clear hmul
  have hneg : decide ((n : Int) < 0) = false := by simp
  have hmk := fun W => run_mk1 (P := Try.prog) Try.underlying22 T_ints_info rfl n (by omega) (by omega) W
  have e1 : IntKind.u64.wrap (n : Int) = (n : Int) := IntWalk.u64_in _ (by omega)
  have e2 : IntKind.i64.wrap (n : Int) = (n : Int) := IntWalk.i64_in _ (by omega)
  have e3 : decide ((n : Int) > 9223372036854775807) = false := by simp; omega
  have hsz1 : (Try.prog.info? 3).map (·.size) = some 1 := by kernel_rfl
  have hB0 : Blk (w.alloc (.cells (Array.replicate n (.int .i64 0)) 3)) w.heap.size 3 ((filled n 0).map (Value.int .i64)) := by
    rw [filled_zero, ← List.toArray_replicate]; exact Blk.new w _ _
  have hbw : b < w.heap.size := by
    rcases Nat.lt_or_ge b w.heap.size with h | h
    · exact h
    · simp [World.cell?, Array.getElem?_eq_none h] at hb
  have hcp1 := run_copy_row (P := Try.prog) (w.alloc (.cells (Array.replicate n (.int .i64 0)) 3)) 22 22 3 3 w.heap.size 0 n n ⟨b, 0, none⟩ 1 1 _ 3 [.int .i64 (-1)] Try.underlying22 hsz1 hB0
    (by show 1 = min 1 n; omega) (by
      intro j v hv
      cases j with
      | zero => simp at hv; subst hv; rw [show (⟨b, 0, none⟩ : Addr).add 0 = ⟨b, 0, none⟩ from by simp [Addr.add]]; exact (((Fr.refl [] w).alloc _).cell hbw (by simp)).trans hb
      | succ j => simp at hv) (by simp [filled]; omega) (by simp [Value.oneCell'])
  have hff := filled_fill (n := n) (k := 0) (m := 1) (by omega)
  rw [show (List.replicate 1 (Value.int .i64 (-1))) = [.int .i64 (-1)] from rfl] at hff
  rw [show (0 : Nat) + [Value.int .i64 (-1)].length = 0 + 1 from rfl] at hcp1
  rw [hff] at hcp1
  have hB1 := setRow_blk (cs' := (filled n (0 + 1)).map (Value.int .i64)) hB0
  have hF1 : Fr [] w ((w.alloc (.cells (Array.replicate n (.int .i64 0)) 3)).setRow w.heap.size ((filled n (0 + 1)).map (Value.int .i64)).toArray) :=
    (((Fr.refl [] w).alloc (.cells (Array.replicate n (.int .i64 0)) 3)).any.trans setRow_fr).drop (Nat.le_refl _)
  generalize hw1 : (w.alloc (.cells (Array.replicate n (.int .i64 0)) 3)).setRow w.heap.size ((filled n (0 + 1)).map (Value.int .i64)).toArray = w1 at hcp1 hB1 hF1
  clear hw1 hff hB0
  go_enter Try.func45, Try.ntmps45
  go_wp2_with (first
    | (go_at_call 54; refine (hmul' _).mono ?_; rintro e w' ⟨rfl, rfl⟩)
    | (at_builtin; refine wpList_plain rfl (fun K hK => wp_copy rfl rfl rfl hcp1 (hK _ _ ?_))))
  clear hmul' hmk hcp1 e3 hneg
  go_wp2_with fail
  go_loopw [8] (fun kv wr => ∃ k : Nat, 1 ≤ k ∧ k ≤ n ∧ kv = .int .i64 k ∧ Blk wr w.heap.size 3 ((filled n k).map (Value.int .i64)) ∧ Fr [] w wr) (fun kv _ => n - (intOf kv).toNat)
  case atStart => exact ⟨1, by omega, by omega, rfl, hB1, hF1⟩
  case round =>
    clear hB1 hF1
    obtain ⟨k, hk1, hk, rfl, hB, hF⟩ := hrel
    by_cases hlt : k < n
    · have hlt' : (k : Int) < (n : Int) := by omega
      obtain ⟨m, hm⟩ : ∃ m, m = min k (n - k) := ⟨_, rfl⟩
      have hm1 : 1 ≤ m := by omega
      have hm2 : m ≤ k := by omega
      have hm3 : k + m ≤ n := by omega
      have c1 := fun W => run_cut_l T_ints (some ⟨w.heap.size, 0, none⟩) n n k (by omega) W
      have c2 := fun W => run_cut_h T_ints (some ⟨w.heap.size, 0, none⟩) n n k (by omega) W
      have hcut : cutA (some ⟨w.heap.size, 0, none⟩) n k 1 = some ⟨w.heap.size, k, none⟩ := by
        unfold cutA; rw [if_neg (by omega)]; simp [Addr.add]; omega
      rw [hcut] at c1
      have hB' := hB.drew
      have hcp := run_copy_row (P := Try.prog) wr.drew 22 22 3 3 w.heap.size k (n - k) (n - k) ⟨w.heap.size, 0, none⟩ k n _ 3 (List.replicate m (.int .i64 (-1))) Try.underlying22 hsz1 hB'
        (by simp [hm]) (fun j v hv => filled_cell hB' hm2 hv) (by simp [filled]; omega) (by intro v hv; rw [List.eq_of_mem_replicate hv]; rfl)
      rw [List.length_replicate, filled_fill hm3] at hcp
      have hB2 := setRow_blk (cs' := (filled n (k + m)).map (Value.int .i64)) hB'
      have hF2 : Fr [] w (wr.drew.setRow w.heap.size ((filled n (k + m)).map (Value.int .i64)).toArray) := (hF.drew.any.trans setRow_fr).drop (Nat.le_refl _)
      have hadd : IntKind.i64.wrap ((k : Int) + (m : Int)) = (k : Int) + (m : Int) := IntWalk.i64_in _ (by omega)
      clear hm
      generalize wr.drew.setRow w.heap.size ((filled n (k + m)).map (Value.int .i64)).toArray = w2 at hcp hB2 hF2
      go_wp2_with fail
      refine wp_region_T (fun w' => True) 9 [(0, true), (1, true), (2, true), (3, true), (4, true), (5, true), (6, true), (7, false), (8, true), (9, false)]
        (by kernel_rfl) (by kernel_rfl) (fun _ _ d _ _ h => by cases d <;> exact h) trivial ?_
      iterate 7 (apply wpT_pure'; simp only [List.getElem?_toArray, List.getElem?_cons_zero, List.getElem?_cons_succ]; rfl; rfl; apply Exists.intro; refine ⟨?_, ?_⟩; rintro w' ⟨⟩; go_simp; with_reducible rfl; simp only [Act.put, List.setIfInBounds_toArray, List.set_cons_zero, List.set_cons_succ])
      (apply wpT_eff; simp only [List.getElem?_toArray, List.getElem?_cons_zero, List.getElem?_cons_succ]; rfl; rfl; intro K hK; go_simp)
      (refine hK.out _ _ ⟨⟩ ?_; clear hK K; try simp only [Act.put, List.setIfInBounds_toArray, List.set_cons_zero, List.set_cons_succ])
      (apply wpT_pure'; simp only [List.getElem?_toArray, List.getElem?_cons_zero, List.getElem?_cons_succ]; rfl; rfl; apply Exists.intro; refine ⟨?_, ?_⟩; rintro w' ⟨⟩; go_simp; with_reducible rfl; simp only [Act.put, List.setIfInBounds_toArray, List.set_cons_zero, List.set_cons_succ])
      (apply wpT_last; simp only [List.getElem?_toArray, List.getElem?_cons_zero, List.getElem?_cons_succ]; rfl; rfl; go_simp)
      go_wp2_with fail
      go_roundw
      case rel => exact ⟨k + m, by omega, hm3, by go_num, hB2, hF2⟩
      case measure => simp [intOf]; omega
    · have hkn : k = n := by omega
      have hge : decide ((k : Int) < (n : Int)) = false := by simp; omega
      have hBn : Blk wr w.heap.size 3 ((List.replicate n (-1 : Int)).map (Value.int .i64)) := by rw [hkn, filled_all] at hB; exact hB
      clear hkn
      go_wp2_with fail
      go_ret
      exact ⟨w.heap.size, rfl, Nat.le_refl _, hBn, hF⟩
end Go.Proofs.Ytfkpjnmngafnmaa
