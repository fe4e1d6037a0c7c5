/- The program's Prioritise: the closure, slices.ContainsFunc, the walk. -/
import Derived.Test.YtfkpjnmngafnmaaPo4
import Derived.Test.YtfkpjnmngafnmaaIni1
import Derived.Test.YtfkpjnmngafnmaaCan5
namespace Go.Proofs.Ytfkpjnmngafnmaa
set_option linter.unusedVariables false
set_option linter.unusedSimpArgs false
open Go.RowKit Go.Shelf Go.Sort

def idxF (p : Int → Bool) (xs : List Int) : Int := match xs.findIdx? p with
  | some i => i
  | none => -1
theorem idxF_hit {p : Int → Bool} {xs : List Int} {k : Nat} {x : Int} (h : (xs.take k).all (fun y => !p y) = true) (hx : xs[k]? = some x) (hp : p x = true) : idxF p xs = k := by
  have hl := (List.getElem?_eq_some_iff.1 hx).1
  have : xs.findIdx? p = some k := by
    rw [List.findIdx?_eq_some_iff_getElem]
    refine ⟨hl, ?_, fun j hj => ?_⟩
    · rw [List.getElem?_eq_getElem hl] at hx; injection hx with hx; rw [hx]; exact hp
    · have := List.all_eq_true.1 h xs[j] (List.mem_take_iff_getElem.2 ⟨j, by omega, rfl⟩)
      simpa using this
  simp [idxF, this]
theorem idxF_miss {p : Int → Bool} {xs : List Int} (h : xs.all (fun y => !p y) = true) : idxF p xs = -1 := by
  have : xs.findIdx? p = none := by
    rw [List.findIdx?_eq_none_iff]
    intro x hx
    simpa using List.all_eq_true.1 h x hx
  simp [idxF, this]
theorem idxF_any (p : Int → Bool) (xs : List Int) : decide (0 ≤ idxF p xs) = xs.any p := by
  unfold idxF
  cases h : xs.findIdx? p with
  | none =>
    rw [List.findIdx?_eq_none_iff] at h
    simp
    intro x hx; simpa using h x hx
  | some i =>
    rw [List.findIdx?_eq_some_iff_getElem] at h
    obtain ⟨hl, hp, _⟩ := h
    simp
    exact ⟨_, List.getElem_mem hl, hp⟩

set_option maxRecDepth 100000 in
set_option maxHeartbeats 4000000 in
theorem indexFunc_any (S : World → Prop) (g : Nat) (lb : Array Value) (p : Int → Bool) (eg : ∀ args w, (callFunc g args).run Try.prog w = .ok (.enter g args) w)
    (hp : ∀ W x, S W → Calls Try.prog g (#[.int .i64 x] ++ lb) W fun e w' => e = .returned (.bool (p x)) ∧ Fr [] W w') (hS : ∀ W W', S W → Fr [] W W' → S W')
    (A : Option Addr) (n c : Nat) (xs : List Int) (w : World) (hr : Ints [] w A n c xs) (hn : n ≤ 1000000000) (hw : S w) :
    Calls Try.prog 44 #[.slice A n c, .func (.func g) #[] lb] w fun e w' => e = .returned (.int .i64 (idxF p xs)) ∧ Fr [] w w' := by
  have HP := Lib.hid hp
  have HSS := Lib.hid hS
  have HW := Lib.hid hw
  clear hp hS hw
  go_enter Try.func44, Try.ntmps44
  go_wp2_with fail
  go_loopw [8] (fun kv wr => ∃ k : Nat, kv = .int .i64 k ∧ k ≤ n ∧ Fr [] w wr ∧ Hid ((xs.take k).all (fun y => !p y) = true)) (fun kv _ => n - (intOf kv).toNat)
  case atStart => exact ⟨0, rfl, by omega, Fr.refl _ _, by simp [Hid]⟩
  case round =>
    obtain ⟨k, rfl, hk, hF, hI⟩ := hrel
    by_cases hlt : k < n
    · have hlt' : (k : Int) < (n : Int) := by omega
      obtain ⟨b, off, x, rfl, _, hb, hx, _, c1⟩ := (hr.keep hF).geti hlt
      have hcall := HP.out wr x (HSS.out _ _ HW.out hF)
      cases hpx : p x with
      | true =>
        have HR := Lib.hid (idxF_hit hI.out hx hpx)
        rw [hpx] at hcall
        clear hx hI
        go_wp2_with (go_at_fn g; refine hcall.mono ?_; rintro e w4 ⟨rfl, hf4⟩)
        go_ret
        exact ⟨by rw [HR.out]; rfl, hF.trans hf4⟩
      | false =>
        have HR : Hid ((xs.take (k + 1)).all (fun y => !p y) = true) := by
          unfold Hid; rw [List.take_add_one, List.all_append, hI.out, hx]; simp [hpx]
        rw [hpx] at hcall
        clear hx hI
        go_wp2_with (go_at_fn g; refine hcall.mono ?_; rintro e w4 ⟨rfl, hf4⟩)
        go_roundw
        case rel => exact ⟨k + 1, by go_num, by omega, hF.trans hf4, HR⟩
        case measure => simp [intOf]; omega
    · have hge : decide ((k : Int) < (n : Int)) = false := by simp; omega
      have hfin := hI.out
      rw [List.take_of_length_le (by rw [hr.n_eq]; omega)] at hfin
      have HR := Lib.hid (idxF_miss hfin)
      clear hfin
      go_wp2_with fail
      go_ret
      exact ⟨by rw [HR.out]; rfl, hF⟩
set_option maxRecDepth 100000 in
set_option maxHeartbeats 4000000 in
theorem containsFunc_any (S : World → Prop) (g : Nat) (lb : Array Value) (p : Int → Bool) (eg : ∀ args w, (callFunc g args).run Try.prog w = .ok (.enter g args) w)
    (hp : ∀ W x, S W → Calls Try.prog g (#[.int .i64 x] ++ lb) W fun e w' => e = .returned (.bool (p x)) ∧ Fr [] W w') (hS : ∀ W W', S W → Fr [] W W' → S W')
    (A : Option Addr) (n c : Nat) (xs : List Int) (w : World) (hr : Ints [] w A n c xs) (hn : n ≤ 1000000000) (hw : S w) :
    Calls Try.prog 27 #[.slice A n c, .func (.func g) #[] lb] w fun e w' => e = .returned (.bool (xs.any p)) ∧ Fr [] w w' := by
  have hi := indexFunc_any S g lb p eg hp hS A n c xs w hr hn hw
  have ha := idxF_any p xs
  have HA := Lib.hid ha
  clear hp hS hw ha
  generalize idxF p xs = i at hi HA
  go_enter Try.func27, Try.ntmps27
  go_wp2_with (go_at_call 44; refine hi.mono ?_; rintro e w4 ⟨rfl, hf4⟩)
  go_ret
  exact ⟨by rw [← HA.out]; rfl, hf4⟩

/-- the closure's world -/
structure CW (bo ba : Nat) (B : Option Addr) (p d : Nat) (o : List Arc) (x : Int) (W : World) : Prop where
  c1 : W.cell? ⟨bo, 0, none⟩ = some (.slice B p d)
  c2 : W.cell? ⟨ba, 0, none⟩ = some (.int .i64 x)
  l1 : bo < W.heap.size
  l2 : ba < W.heap.size
  ho : Pairs [] W B p d o
theorem CW.fr {bo ba : Nat} {B : Option Addr} {p d : Nat} {o : List Arc} {x : Int} {W W' : World} (h : CW bo ba B p d o x W) (hf : Fr [] W W') : CW bo ba B p d o x W' :=
  ⟨(hf.cell (p := ⟨bo, 0, none⟩) h.l1 (by simp)).trans h.c1, (hf.cell (p := ⟨ba, 0, none⟩) h.l2 (by simp)).trans h.c2, Nat.lt_of_lt_of_le h.l1 hf.size, Nat.lt_of_lt_of_le h.l2 hf.size, h.ho.keep hf⟩
set_option maxRecDepth 100000 in
set_option maxHeartbeats 4000000 in
theorem prioClos_any (bo ba : Nat) (B : Option Addr) (p d : Nat) (o : List Arc) (x e : Int) (W : World) (h : CW bo ba B p d o x W) (hp : p ≤ 1000) (hv : validOrdB o = true) :
    Calls Try.prog 28 (#[.int .i64 e] ++ #[.pointer (some ⟨bo, 0, none⟩), .pointer (some ⟨ba, 0, none⟩)]) W fun z w' => z = .returned (.bool (blkB o x e)) ∧ Fr [] W w' := by
  have c1 := h.c1
  have c2 := h.c2
  have hb := pblocks_any B p d o x e W h.ho hp hv
  clear hv
  generalize blkB o x e = r at hb ⊢
  go_enter Try.func28, Try.ntmps28
  go_wp2_with (go_at_call 29; refine hb.mono ?_; rintro e w4 ⟨rfl, hf4⟩)
  go_ret
  exact ⟨rfl, hf4⟩
end Go.Proofs.Ytfkpjnmngafnmaa
