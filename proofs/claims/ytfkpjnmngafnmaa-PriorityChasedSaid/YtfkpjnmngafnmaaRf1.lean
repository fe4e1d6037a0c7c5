/- The reference's Less and Insert. -/
import Derived.Test.YtfkpjnmngafnmaaProg
import Derived.Test.YtfkpjnmngafnmaaBase
namespace Go.Proofs.Ytfkpjnmngafnmaa
set_option linter.unusedVariables false
set_option linter.unusedSimpArgs false
open Go.RowKit
abbrev Arc := Int × Int
def lessB (a b : Arc) : Bool := decide (a.1 < b.1 ∨ (a.1 = b.1 ∧ a.2 < b.2))
theorem less_any (a b c d : Int) (w : World) :
    Calls Try.prog 34 #[.agg #[.int .i64 a, .int .i64 b], .agg #[.int .i64 c, .int .i64 d]] w fun e w' => e = .returned (.bool (lessB (a, b) (c, d))) ∧ 
      w' = (w.alloc (.cells #[.int .i64 a, .int .i64 b] 46)).alloc (.cells #[.int .i64 c, .int .i64 d] 46) := by
  by_cases h1 : a < c
  · go_enter Try.func34, Try.ntmps34
    go_wp2_with fail
    go_ret
    exact ⟨by simp [lessB, h1], rfl⟩
  · by_cases h2 : a = c
    · subst h2
      go_enter Try.func34, Try.ntmps34
      go_wp2_with fail
      go_ret
      exact ⟨by simp [lessB], rfl⟩
    · have h3 : (a == c) = false := by simpa using h2
      go_enter Try.func34, Try.ntmps34
      go_wp2_with fail
      go_ret
      exact ⟨by simp [lessB, h1, h2], rfl⟩

theorem eqArc (a b c d : Int) (w : World) : (binOp .eql 46 (.agg #[.int .i64 a, .int .i64 b]) (.agg #[.int .i64 c, .int .i64 d])).run Try.prog w = .ok (.bool (decide ((a, b) = (c, d)))) w := by
  have ht : Try.prog.underlying 46 = some (.struct (Try.prog.fieldsOf 46)) := by kernel_rfl
  rw [run_eql_struct, run_equalIn_struct w 9999 _ _ _ ht (by kernel_rfl)]
  have hf : (Try.prog.fieldsOf 46).toList.map (fun f => (f.name, f.type, f.offset)) = [("Event", 3, 0), ("To", 3, 1)] := by kernel_rfl
  have hl : (Try.prog.fieldsOf 46).toList.length = 2 := by kernel_rfl
  match h : (Try.prog.fieldsOf 46).toList, hl with
  | [f, g], _ =>
    rw [h] at hf
    simp only [List.map_cons, List.map_nil, List.cons.injEq, Prod.mk.injEq, and_true] at hf
    obtain ⟨⟨n1, t1, o1⟩, n2, t2, o2⟩ := hf
    simp [Op.eqFields, n1, n2, t1, t2, o1, o2, go_sem, Try.underlying3]
    by_cases h1 : a = c <;> by_cases h2 : b = d <;> simp [h1, h2]

theorem neqArc (a b c d : Int) (w : World) : (binOp .neq 46 (.agg #[.int .i64 a, .int .i64 b]) (.agg #[.int .i64 c, .int .i64 d])).run Try.prog w = .ok (.bool (!decide ((a, b) = (c, d)))) w := by
  have h := eqArc a b c d w
  rw [run_eql_struct] at h
  rw [run_neq_struct]
  generalize (Op.equalIn 10000 46 (.agg #[.int .i64 a, .int .i64 b]) (.agg #[.int .i64 c, .int .i64 d])).run Try.prog w = r at *
  cases r with
  | ok v w' =>
    simp only [Result.andThen, Result.ok.injEq, Value.bool.injEq] at h ⊢
    obtain ⟨rfl, rfl⟩ := h
    simp
  | halt x w' => simp [Result.andThen] at h
def ins (x : Arc) : List Arc → List Arc
  | [] => [x]
  | y :: ys => if lessB y x then y :: ins x ys else if y = x then y :: ys else x :: y :: ys

theorem T_arcs : ET Try.prog 44 46 2 16 := ⟨Try.underlying44, by
  have h : (Try.prog.info? 46).map (fun i => (i.zero, i.size, i.bytes)) = some (some (.agg #[.int .i64 0, .int .i64 0]), 2, 16) := by kernel_rfl
  obtain ⟨i, h1, h2, h3, h4⟩ := info_parts h
  exact ⟨i, _, h1, h2, h3, h4, rfl⟩, by omega⟩

theorem ins_stop (x : Arc) (row : List Arc) (k : Nat) (h : row.take k ++ ins x (row.drop k) = ins x row) (h2 : row.drop k = [] ∨ ∃ y ys, row.drop k = y :: ys ∧ lessB y x = false ∧ y ≠ x) :
    (row.take k ++ [x]) ++ row.drop k = ins x row := by
  rw [← h]
  rcases h2 with h2 | ⟨y, ys, h2, h3, h4⟩
  · simp [h2, ins]
  · simp [h2, ins, h3, h4]
theorem ins_step (x y : Arc) (ys row : List Arc) (k : Nat) (h : row.take k ++ ins x (row.drop k) = ins x row) (hd : row.drop k = y :: row.drop (k+1)) (hl : lessB y x = true) :
    row.take (k+1) ++ ins x (row.drop (k+1)) = ins x row := by
  rw [← h, hd]
  have hk : row[k]? = some y := by
    have := congrArg List.head? hd
    simpa using this
  rw [List.take_add_one, hk]
  simp [ins, hl]
theorem ins_eq (x : Arc) (row : List Arc) (k : Nat) (h : row.take k ++ ins x (row.drop k) = ins x row) (hd : row.drop k = x :: row.drop (k+1)) (hl : lessB x x = false) : ins x row = row := by
  rw [← h, hd]
  simp only [ins, hl, if_true, Bool.false_eq_true, if_false]
  rw [← hd, List.take_append_drop]
theorem less_irrefl (x : Arc) : lessB x x = false := by simp [lessB]

set_option maxHeartbeats 2000000 in
theorem insert_any (M : List Nat) (A : Option Addr) (n c : Nat) (row : List Arc) (x y : Int) (w : World) (hM : ∀ m ∈ M, m < w.heap.size) (hr : Pairs M w A n c row) (hn : n ≤ 1000000) :
    Calls Try.prog 19 #[.slice A n c, .agg #[.int .i64 x, .int .i64 y]] w fun e w' => ∃ A' n' c', e = .returned (.slice A' n' c') ∧ Pairs M w' A' n' c' (ins (x, y) row) ∧ Fr [] w w' := by
  go_enter Try.func19, Try.ntmps19
  go_wp2_with fail
  go_loopw [5] (fun i wr => ∃ k : Nat, k ≤ n ∧ i = .int .i64 k ∧ Fr [] (w.alloc (.cells #[.int .i64 x, .int .i64 y] 46)) wr ∧ Hid (row.take k ++ ins (x, y) (row.drop k) = ins (x, y) row)) (fun i _ => n - (intOf i).toNat)
  case atStart => exact ⟨0, by omega, rfl, Fr.refl _ _, rfl⟩
  case round =>
    obtain ⟨k, hk, rfl, hF, hI⟩ := hrel
    have hsz : w.heap.size < wr.heap.size := by have := hF.size; simp at this; omega
    have b1 : wr.cell? ⟨w.heap.size, 0, none⟩ = some (.int .i64 x) := by
      rw [hF.cell (by simp) (by simp), World.cell?_alloc_at _ _ _ _ rfl]; rfl
    have b2 : wr.cell? ⟨w.heap.size, 1, none⟩ = some (.int .i64 y) := by
      rw [hF.cell (by simp) (by simp), World.cell?_alloc_at _ _ _ _ rfl]; rfl
    have hF0 : Fr [] w wr := ((Fr.refl [] w).alloc _).trans hF
    have hr' := hr.keep hF0.any
    have hcap := hr.sl.cap
    have hs1 := fun W => run_cut_h T_arcs A n c k (by omega) W
    have hs2 := fun W => run_cut_l T_arcs A n c k (by omega) W
    have hlen : ∀ m : Nat, min k n = k := by omega
    by_cases hlt : k < n
    · obtain ⟨b, off, x1, y1, rfl, hbM, hbs, _, hd, c1, c2⟩ := hr'.getp hlt
      have Hd := Lib.hid hd; clear hd
      have hlt' : (k : Int) < (n : Int) := by omega
      cases hls : lessB (x1, y1) (x, y) with
      | true =>
        have Hls := Lib.hid hls; clear hls
        go_wp2_with fail
        go_region_held3 (fun w' => w'.cell? ⟨b, off + k * 2, none⟩ = some (.int .i64 x1) ∧ w'.cell? ⟨b, off + k * 2 + 1, none⟩ = some (.int .i64 y1) ∧
          w'.cell? ⟨w.heap.size, 0, none⟩ = some (.int .i64 x) ∧ w'.cell? ⟨w.heap.size, 1, none⟩ = some (.int .i64 y)) (go_keep)
          ((go_at_call 34; refine (less_any _ _ _ _ _).mono ?_; rw [Hls.out]; rintro e w' ⟨rfl, rfl⟩))
        go_wp2_with fail
        go_roundw
        case rel => exact ⟨k + 1, by omega, by go_num, ((hF.alloc _).alloc _).drew, ins_step _ _ row row k hI.out Hd.out Hls.out⟩
        case measure => simp [intOf]; omega
      | false =>
        have Hls := Lib.hid hls; clear hls
        by_cases heq : (x1, y1) = (x, y)
        · have hE : ∀ W, (binOp .eql 46 (.agg #[.int .i64 x1, .int .i64 y1]) (.agg #[.int .i64 x, .int .i64 y])).run Try.prog W = .ok (.bool true) W := fun W => by rw [eqArc, decide_eq_true heq]
          have Heq := Lib.hid heq; clear heq
          go_wp2_with fail
          go_region_held3 (fun w' => w'.cell? ⟨b, off + k * 2, none⟩ = some (.int .i64 x1) ∧ w'.cell? ⟨b, off + k * 2 + 1, none⟩ = some (.int .i64 y1) ∧
            w'.cell? ⟨w.heap.size, 0, none⟩ = some (.int .i64 x) ∧ w'.cell? ⟨w.heap.size, 1, none⟩ = some (.int .i64 y)) (go_keep)
            ((go_at_call 34; refine (less_any _ _ _ _ _).mono ?_; rw [Hls.out]; rintro e w' ⟨rfl, rfl⟩))
          go_wp2_with fail
          go_quiet (fail)
          go_wp2_with fail
          go_ret
          have hI' := hI.out; have hd' := Hd.out; rw [Heq.out] at hd'
          refine ⟨_, _, _, rfl, ?_, (((hF0.alloc _).alloc _).drew).drewN _⟩
          rw [ins_eq _ row k hI' hd' (less_irrefl _)]
          exact hr'.keep ((((Fr.refl _ _).alloc _).alloc _).drew.drewN _)
        · have hE : ∀ W, (binOp .eql 46 (.agg #[.int .i64 x1, .int .i64 y1]) (.agg #[.int .i64 x, .int .i64 y])).run Try.prog W = .ok (.bool false) W := fun W => by rw [eqArc, decide_eq_false heq]
          have Hfin := Lib.hid (ins_stop (x, y) row k hI.out (.inr ⟨(x1, y1), _, Hd.out, Hls.out, heq⟩))
          clear heq
          go_wp2_with fail
          go_region_held3 (fun w' => w'.cell? ⟨b, off + k * 2, none⟩ = some (.int .i64 x1) ∧ w'.cell? ⟨b, off + k * 2 + 1, none⟩ = some (.int .i64 y1) ∧
            w'.cell? ⟨w.heap.size, 0, none⟩ = some (.int .i64 x) ∧ w'.cell? ⟨w.heap.size, 1, none⟩ = some (.int .i64 y)) (go_keep)
            ((go_at_call 34; refine (less_any _ _ _ _ _).mono ?_; rw [Hls.out]; rintro e w' ⟨rfl, rfl⟩))
          go_wp2_with fail
          go_quiet (fail)
          go_wp2_with (first
            | (at_builtin
               refine app_own rfl rfl T_arcs (Own.lit0 _ (w.heap.size + 1) 46 2 _ _ (by omega) (by simp)) ((hr.keep (Fr.any (by repeat (first | exact Fr.refl _ _ | with_reducible assumption | with_reducible apply Fr.drewN | with_reducible apply Fr.drew | with_reducible apply Fr.alloc)))).pre (fun _ => rfl) (by omega : k ≤ n)).sl rfl rfl (one_cp _) (by omega) (by omega) (by first | omega | (simp; omega) | (have := hG1.size; simp at this; simp; omega)) ?_
               intro v1 w1 own1 fr1
               have hG1 : Fr [] (w.alloc (.cells #[.int .i64 x, .int .i64 y] 46)) w1 := fr1 [] _ (by repeat (first | exact Fr.refl _ _ | with_reducible assumption | with_reducible apply Fr.drewN | with_reducible apply Fr.drew | with_reducible apply Fr.alloc)) (by simp)
               have hF1 : Fr [] w w1 := ((Fr.refl [] w).alloc _).trans hG1
               have d1 : w1.cell? ⟨w.heap.size, 0, none⟩ = some (.int .i64 x) := by rw [hG1.cell (by simp) (by simp), World.cell?_alloc_at _ _ _ _ rfl]; rfl
               have d2 : w1.cell? ⟨w.heap.size, 1, none⟩ = some (.int .i64 y) := by rw [hG1.cell (by simp) (by simp), World.cell?_alloc_at _ _ _ _ rfl]; rfl
               have hl : w.heap.size < w1.heap.size := by have := hG1.size; simp at this; omega
               have hz1 := hF1.size
               clear fr1)
            | (at_builtin
               refine app_own rfl rfl T_arcs (own1.fr (M := []) (by repeat (first | exact Fr.refl _ _ | with_reducible assumption | with_reducible apply Fr.drewN | with_reducible apply Fr.drew | with_reducible apply Fr.alloc)) (by simp)) (Sl.lit [] w1 46 #[.int .i64 x, .int .i64 y] 1 1 2 rfl (by omega) (by simp)) rfl rfl (by simp [Value.oneCell']) (by omega) (by omega) (by first | omega | (simp; omega) | (have := hG1.size; simp at this; simp; omega)) ?_
               intro v2 w2 own2 fr2
               have hG2 : Fr [] (w.alloc (.cells #[.int .i64 x, .int .i64 y] 46)) w2 := fr2 [] _ (by repeat (first | exact Fr.refl _ _ | with_reducible assumption | with_reducible apply Fr.drewN | with_reducible apply Fr.drew | with_reducible apply Fr.alloc)) (by simp)
               have hF2 : Fr [] w w2 := ((Fr.refl [] w).alloc _).trans hG2
               have hz2 := hF2.size
               clear fr2 own1)
            | (at_builtin
               refine app_own rfl rfl T_arcs own2 ((hr.keep (Fr.any (by repeat (first | exact Fr.refl _ _ | with_reducible assumption | with_reducible apply Fr.drewN | with_reducible apply Fr.drew | with_reducible apply Fr.alloc)))).suf (fun _ => rfl) (by omega) (by omega : k ≤ n)).sl rfl rfl (one_cp _) (by omega) (by omega) (by have := hG2.size; simp at this; omega) ?_
               intro v3 w3 own3 fr3
               have hG3 : Fr [] (w.alloc (.cells #[.int .i64 x, .int .i64 y] 46)) w3 := fr3 [] _ (by repeat (first | exact Fr.refl _ _ | with_reducible assumption | with_reducible apply Fr.drewN | with_reducible apply Fr.drew | with_reducible apply Fr.alloc)) (by simp)
               have hF3 : Fr [] w w3 := ((Fr.refl [] w).alloc _).trans hG3
               clear fr3 own2))
          go_ret
          have hfin := Hfin.out
          obtain ⟨A', c', rfl, h3⟩ := Own.ls (f := cp) (xs := ins (x, y) row) (M := M) (by rw [← hfin]; simpa [List.flatMap_append, cp] using own3) (by rw [← hfin]; simp [hr.n_eq]; omega) (fun m hm => Nat.lt_succ_of_lt (hM m hm))
          exact ⟨_, _, _, rfl, h3, hF3⟩
    · have hkn : k = n := by omega
      have Hfin := Lib.hid (ins_stop (x, y) row k hI.out (.inl (List.drop_eq_nil_of_le (by rw [hr.n_eq]; omega))))
      have hge : decide ((k : Int) < (n : Int)) = false := by simp; omega
      clear hkn
      go_wp2_with fail
      go_quiet (fail)
      go_wp2_with fail
      go_quiet (fail)
      go_wp2_with (first
        | (at_builtin
           refine app_own rfl rfl T_arcs (Own.lit0 _ (w.heap.size + 1) 46 2 _ _ (by omega) (by simp)) ((hr.keep (Fr.any (by repeat (first | exact Fr.refl _ _ | with_reducible assumption | with_reducible apply Fr.drewN | with_reducible apply Fr.drew | with_reducible apply Fr.alloc)))).pre (fun _ => rfl) (by omega : k ≤ n)).sl rfl rfl (one_cp _) (by omega) (by omega) (by first | omega | (simp; omega) | (have := hG1.size; simp at this; simp; omega)) ?_
           intro v1 w1 own1 fr1
           have hG1 : Fr [] (w.alloc (.cells #[.int .i64 x, .int .i64 y] 46)) w1 := fr1 [] _ (by repeat (first | exact Fr.refl _ _ | with_reducible assumption | with_reducible apply Fr.drewN | with_reducible apply Fr.drew | with_reducible apply Fr.alloc)) (by simp)
           have hF1 : Fr [] w w1 := ((Fr.refl [] w).alloc _).trans hG1
           have d1 : w1.cell? ⟨w.heap.size, 0, none⟩ = some (.int .i64 x) := by rw [hG1.cell (by simp) (by simp), World.cell?_alloc_at _ _ _ _ rfl]; rfl
           have d2 : w1.cell? ⟨w.heap.size, 1, none⟩ = some (.int .i64 y) := by rw [hG1.cell (by simp) (by simp), World.cell?_alloc_at _ _ _ _ rfl]; rfl
           have hl : w.heap.size < w1.heap.size := by have := hG1.size; simp at this; omega
           have hz1 := hF1.size
           clear fr1)
        | (at_builtin
           refine app_own rfl rfl T_arcs (own1.fr (M := []) (by repeat (first | exact Fr.refl _ _ | with_reducible assumption | with_reducible apply Fr.drewN | with_reducible apply Fr.drew | with_reducible apply Fr.alloc)) (by simp)) (Sl.lit [] w1 46 #[.int .i64 x, .int .i64 y] 1 1 2 rfl (by omega) (by simp)) rfl rfl (by simp [Value.oneCell']) (by omega) (by omega) (by first | omega | (simp; omega) | (have := hG1.size; simp at this; simp; omega)) ?_
           intro v2 w2 own2 fr2
           have hG2 : Fr [] (w.alloc (.cells #[.int .i64 x, .int .i64 y] 46)) w2 := fr2 [] _ (by repeat (first | exact Fr.refl _ _ | with_reducible assumption | with_reducible apply Fr.drewN | with_reducible apply Fr.drew | with_reducible apply Fr.alloc)) (by simp)
           have hF2 : Fr [] w w2 := ((Fr.refl [] w).alloc _).trans hG2
           have hz2 := hF2.size
           clear fr2 own1)
        | (at_builtin
           refine app_own rfl rfl T_arcs own2 ((hr.keep (Fr.any (by repeat (first | exact Fr.refl _ _ | with_reducible assumption | with_reducible apply Fr.drewN | with_reducible apply Fr.drew | with_reducible apply Fr.alloc)))).suf (fun _ => rfl) (by omega) (by omega : k ≤ n)).sl rfl rfl (one_cp _) (by omega) (by omega) (by have := hG2.size; simp at this; omega) ?_
           intro v3 w3 own3 fr3
           have hG3 : Fr [] (w.alloc (.cells #[.int .i64 x, .int .i64 y] 46)) w3 := fr3 [] _ (by repeat (first | exact Fr.refl _ _ | with_reducible assumption | with_reducible apply Fr.drewN | with_reducible apply Fr.drew | with_reducible apply Fr.alloc)) (by simp)
           have hF3 : Fr [] w w3 := ((Fr.refl [] w).alloc _).trans hG3
           clear fr3 own2))
      go_ret
      have hfin := Hfin.out
      obtain ⟨A', c', rfl, h3⟩ := Own.ls (f := cp) (xs := ins (x, y) row) (M := M) (by rw [← hfin]; simpa [List.flatMap_append, cp] using own3) (by rw [← hfin]; simp [hr.n_eq]; omega) (fun m hm => Nat.lt_succ_of_lt (hM m hm))
      exact ⟨_, _, _, rfl, h3, hF3⟩

end Go.Proofs.Ytfkpjnmngafnmaa
