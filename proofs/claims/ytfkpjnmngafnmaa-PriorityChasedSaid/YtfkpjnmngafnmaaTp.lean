/- The tape: New, Next, Event: numbers drawn, whatever they are. -/
import Derived.Test.YtfkpjnmngafnmaaRf1
namespace Go.Proofs.Ytfkpjnmngafnmaa
set_option linter.unusedVariables false
set_option linter.unusedSimpArgs false
open Go.RowKit

/-- the numbers of the tape, in a block before bt -/
structure Tz (bt : Nat) (w : World) (A : Option Addr) (n : Nat) (xs : List Int) : Prop where
  len : xs.length = n
  at_ : 0 < n → ∃ b off, A = some ⟨b, off, none⟩ ∧ b < bt ∧ ∀ j x, xs[j]? = some x → w.cell? ⟨b, off + j, none⟩ = some (.int .i64 x)
theorem Tz.keep {bt : Nat} {w w' : World} {A : Option Addr} {n : Nat} {xs : List Int} {M : List Nat} (h : Tz bt w A n xs) (hf : Fr M w w') (hb : bt ≤ w.heap.size) (hM : ∀ m ∈ M, bt ≤ m) : Tz bt w' A n xs :=
  ⟨h.len, fun hn => by
    obtain ⟨b, off, hA, hlt, hc⟩ := h.at_ hn
    exact ⟨b, off, hA, hlt, fun j x hx => (hf.cell (p := ⟨b, off + j, none⟩) (by show b < _; omega) (fun hin => by have := hM b hin; omega)).trans (hc j x hx)⟩⟩
theorem Tz.of {w : World} {A : Option Addr} {n c : Nat} {xs : List Int} (h : Ints [] w A n c xs) : Tz w.heap.size w A n xs :=
  ⟨h.n_eq, fun hn => by
    obtain ⟨b, off, hA, _, hb, hc⟩ := h.sl.at_ hn
    refine ⟨b, off, hA, hb, fun j x hx => hc j _ ?_⟩
    have := flat_get ci 1 (fun _ => rfl) xs j 0 x hx (by omega)
    simpa [ci] using this⟩
/-- block bt is a tape: at most q numbers have been taken -/
structure Tp (w : World) (bt : Nat) (q : Nat) : Prop where
  ex : ∃ (A : Option Addr) (n c : Nat) (xs : List Int) (at_ : Nat), Blk w bt 48 [.slice A n c, .int .i64 at_] ∧ Tz bt w A n xs ∧ at_ ≤ q ∧ n ≤ 9223372036854775807 ∧ ∀ x ∈ xs, -9223372036854775808 ≤ x ∧ x ≤ 9223372036854775807
theorem Tp.lt {w : World} {bt q : Nat} (h : Tp w bt q) : bt < w.heap.size := by
  obtain ⟨_, _, _, _, _, h, _⟩ := h.ex; exact h.lt
theorem Tp.keep {w w' : World} {bt q : Nat} {M : List Nat} (h : Tp w bt q) (hf : Fr M w w') (hM : ∀ m ∈ M, bt < m) : Tp w' bt q := by
  have hlt := h.lt
  obtain ⟨A, n, c, xs, at_, h1, h2, h3⟩ := h.ex
  exact ⟨A, n, c, xs, at_, h1.fr hf (fun hin => by have := hM bt hin; omega), h2.keep hf (by omega) (fun m hm => Nat.le_of_lt (hM m hm)), h3⟩
theorem Tp.drew {w : World} {bt q : Nat} (h : Tp w bt q) : Tp w.drew bt q := h.keep (Fr.refl [] w).drew (by simp)
theorem Tp.drewN {w : World} {bt q : Nat} (h : Tp w bt q) (k : Nat) : Tp (w.drewN k) bt q := h.keep ((Fr.refl [] w).drewN k) (by simp)
theorem Tp.alloc {w : World} {bt q : Nat} (h : Tp w bt q) (o : Obj) : Tp (w.alloc o) bt q := h.keep ((Fr.refl [] w).alloc o) (by simp)
theorem Tp.le {w : World} {bt q q' : Nat} (h : Tp w bt q) (hq : q ≤ q') : Tp w bt q' := by
  obtain ⟨A, n, c, xs, at_, h1, h2, h3, h4⟩ := h.ex
  exact ⟨A, n, c, xs, at_, h1, h2, by omega, h4⟩

theorem mod_pos (v n : Int) (hv : 0 ≤ v) (hn : 1 ≤ n) : 0 ≤ v % n ∧ v % n < n := ⟨Int.emod_nonneg _ (by omega), Int.emod_lt_of_pos _ (by omega)⟩
theorem tmod_neg (v n : Int) (hv : v < 0) (hn : 1 ≤ n) : -n < v.tmod n ∧ v.tmod n ≤ 0 := by
  have h1 : v.tmod n = -((-v).tmod n) := by rw [Int.neg_tmod]; omega
  have h2 : (-v).tmod n = (-v) % n := Int.tmod_eq_emod_of_nonneg (by omega)
  have h3 := mod_pos (-v) n (by omega) hn
  omega

set_option maxHeartbeats 1000000 in
theorem next_any (bt q : Nat) (n : Int) (w : World) (ht : Tp w bt q) (hq : q ≤ 1000000000) (hn : 1 ≤ n) (hn2 : n ≤ 1000000) :
    Calls Try.prog 22 #[.pointer (some ⟨bt, 0, none⟩), .int .i64 n] w fun e w' => ∃ v : Nat, e = .returned (.int .i64 v) ∧ (v : Int) < n ∧ Tp w' bt (q + 1) ∧ Fr [bt] w w' := by
  have hbt := ht.lt
  obtain ⟨A, ln, c, xs, at_, hB, hL, hat, hln, hx⟩ := ht.ex
  have h1 := hB.cellS (i := 0) rfl
  have h2 := hB.cellS (i := 1) rfl
  have hf := hB.frozen 1
  have hn3 : decide (n < 1) = false := by simp; omega
  have key : ∀ k : Nat, Fr [bt] w ((w.drewN k).setCell ⟨bt, 1, none⟩ (.int .i64 ((at_ : Int) + 1))) ∧ Tp ((w.drewN k).setCell ⟨bt, 1, none⟩ (.int .i64 ((at_ : Int) + 1))) bt (q + 1) := fun k => by
    have hF : Fr [bt] w ((w.drewN k).setCell ⟨bt, 1, none⟩ (.int .i64 ((at_ : Int) + 1))) := ((Fr.refl [bt] w).drewN k).setCell (.inl (by simp)) _
    exact ⟨hF, A, ln, c, xs, at_ + 1, by simpa using (hB.drewN k).set_ 1 (.int .i64 ((at_ : Int) + 1)), hL.keep hF (by omega) (by simp), by omega, hln, hx⟩
  by_cases hlt : at_ < ln
  · obtain ⟨b, off, rfl, hbM, hcs⟩ := hL.at_ (by omega)
    have hbs : b < w.heap.size := by omega
    obtain ⟨v, hv⟩ : ∃ v, xs[at_]? = some v := ⟨xs[at_]'(by rw [hL.len]; exact hlt), List.getElem?_eq_getElem _⟩
    have hc := hcs at_ v hv
    clear hcs
    have hv' := hx v (List.mem_of_getElem? hv)
    obtain ⟨hv1, hv2⟩ := hv'
    have hlt' : (at_ : Int) < (ln : Int) := by omega
    clear hv hB hx
    by_cases hs : v < 0
    · have ht := tmod_neg v n hs (by omega)
      obtain ⟨t1, t2⟩ := ht
      by_cases hz : v.tmod n < 0
      · go_enter Try.func22, Try.ntmps22
        go_wp2_with fail
        go_quiet (fail)
        go_wp2_with fail
        go_quiet (fail)
        go_wp2_with fail
        go_ret
        exact ⟨(v.tmod n + n).toNat, by rw [Int.toNat_of_nonneg (by omega)]; rfl, by omega, (key _).2, (key _).1⟩
      · go_enter Try.func22, Try.ntmps22
        go_wp2_with fail
        go_quiet (fail)
        go_wp2_with fail
        go_quiet (fail)
        go_wp2_with fail
        go_ret
        exact ⟨(v.tmod n).toNat, by rw [Int.toNat_of_nonneg (by omega)]; rfl, by omega, (key _).2, (key _).1⟩
    · have ht := mod_pos v n (by omega) (by omega)
      obtain ⟨t1, t2⟩ := ht
      go_enter Try.func22, Try.ntmps22
      go_wp2_with fail
      go_quiet (fail)
      go_wp2_with fail
      go_quiet (fail)
      go_wp2_with fail
      go_ret
      exact ⟨(v % n).toNat, by rw [Int.toNat_of_nonneg (by omega)]; rfl, by omega, (key _).2, (key _).1⟩
  · have hge : decide ((at_ : Int) < (ln : Int)) = false := by simp; omega
    have ht := mod_pos (5 * (at_ : Int) + 3) n (by omega) (by omega)
    obtain ⟨t1, t2⟩ := ht
    clear hB hx
    go_enter Try.func22, Try.ntmps22
    go_wp2_with fail
    go_quiet (fail)
    go_wp2_with fail
    go_ret
    exact ⟨((5 * (at_ : Int) + 3) % n).toNat, by rw [Int.toNat_of_nonneg (by omega)]; rfl, by omega, (key _).2, (key _).1⟩
end Go.Proofs.Ytfkpjnmngafnmaa
