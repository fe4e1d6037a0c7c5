/- slices.SortFunc at arcs, by the shelf's contract; rows of the call's own. -/
import Derived.Shelf.SlSortCmp.NoneTotal
import Derived.Test.YtfkpjnmngafnmaaShlf
import Derived.Ground.SlsfProg
import Derived.Test.YtfkpjnmngafnmaaCmp1
namespace Go.Proofs.Ytfkpjnmngafnmaa
set_option linter.unusedVariables false
set_option linter.unusedSimpArgs false
open Go.RowKit Go.Shelf Go.Sort

/-! a row of the call's own, or nothing -/
def Row (w : World) (B : Nat) (e : TypeId) (k : Nat) (v : Value) (n : Nat) (cs : List Value) : Prop :=
  (n = 0 ∧ cs = [] ∧ ∃ A, v = .slice A 0 0 ∧ ∀ a, A = some a → B ≤ a.block ∧ a.block < w.heap.size) ∨ (0 < n ∧ w.ownsRow B e k v n cs)
section
variable {P : Program} {w w' : World} {B : Nat} {t e : TypeId} {k n m c bytes : Nat} {v : Value} {cs news : List Value} {M : List Nat} {A : Option Addr}
theorem Row.own (h : Row w B e k v n cs) : Own w B e k v n cs := by
  rcases h with ⟨rfl, rfl, A, rfl, hA⟩ | ⟨_, h⟩
  · exact .inr ⟨A, rfl, ⟨by simp, Nat.le_refl _, fun h => absurd h (by omega)⟩, hA⟩
  · exact .inl h
theorem Row.keep (h : Row w B e k v n cs) (hf : Fr M w w') (hd : ∀ b, v.ownBlock = some b → b ∉ M) : Row w' B e k v n cs := by
  rcases h with ⟨rfl, rfl, A, rfl, hA⟩ | ⟨h0, h1, h⟩
  · exact .inl ⟨rfl, rfl, A, rfl, fun a ha => ⟨(hA a ha).1, Nat.lt_of_lt_of_le (hA a ha).2 hf.size⟩⟩
  · right
    refine ⟨h0, h1, ?_⟩
    rcases h with h | ⟨g, cap, cur, rfl, hg, hh, rest⟩
    · exact .inl h
    · refine .inr ⟨g, cap, cur, rfl, hg, ?_, rest⟩
      rw [hf.block g (Array.getElem?_eq_some_iff.1 hh).1 (hd g rfl)]
      exact hh
/-- append to an empty literal -/
theorem run_app_lit (E : ET P t e k bytes) (w : World) (ty : TypeId) (b off : Nat) (hr : Sl M w A m c k news) (hm : 0 < m) (hb : m * bytes ≤ 140737488355328) (hmax : m ≤ 140737488355328) (hB : B ≤ w.heap.size) :
    ∃ v' w', (Builtin.append_ #[t, t] ty #[.slice (some ⟨b, off, none⟩) 0 0, .slice A m c]).run P w = .ok v' w' ∧ Row w' B e k v' m news ∧ Fr [] w w' ∧ ∀ g, v'.ownBlock = some g → g = w.heap.size := by
  obtain ⟨ht, ⟨i, z, hi, hz, hs, hby, hzs⟩, hk⟩ := E
  obtain ⟨b', off', rfl, _, _, hc⟩ := hr.at_ hm
  have hnews : ∀ j u, news[j]? = some u → w.cell? ((⟨b', off', none⟩ : Addr).add j) = some u := fun j u hu => by
    have := hc j u hu
    unfold Addr.add
    split
    · simp_all
    · exact this
  subst hs; subst hby
  have hr2 := run_append_grow (P := P) w t ty e i z ht hi hz ⟨b, off, none⟩ 0 0 [] (by simp) (by simp) ⟨b', off', none⟩ m c news hr.len hnews (by omega) (by omega) (growslice_fits (by omega) (by simpa using hb))
  have hge := grownCap_ge w (0 + m) 0 e
  have hcm : grownCap w (0 + m) 0 e ≤ maxLen := grownCap_le_maxLen w (0 + m) 0 e (by simp only [maxLen]; omega)
  simp only [Nat.zero_add] at hr2 hge hcm
  refine ⟨_, _, hr2, .inr ⟨hm, hr.len, .inr ⟨w.heap.size, _, _, rfl, hB, heap_alloc_new w.drew _, hge, hcm, ?_, ?_⟩⟩, ⟨rfl, rfl, rfl, by simp, fun q hq _ => Below.heap_alloc w.drew _ q (by simpa using hq)⟩, fun g hg => by simpa [Value.ownBlock] using hg.symm⟩
  · simp only [Array.size_append, List.size_toArray, size_zeroCells, hzs, List.length_nil, hr.len, Nat.zero_add, ← Nat.add_mul]
    congr 1
    exact Nat.add_sub_cancel' hge
  · simp only [Array.toList_append, List.append_assoc]
    rw [show ([] : List Value) = [] from rfl, List.nil_append, ← hr.len]
    exact List.take_left
theorem app_lit {ops : Array Oper} {rest : List Oper} {o : Oper} {a : Act} {Q : Exit → Act → World → Prop} {s x : Operand} {b off : Nat} (hgd : o.guard = none)
    (ho : o.op = .call { callee := .builtin .append, args := #[s, x], argTypes := #[t, t] }) (E : ET P t e k bytes)
    (hr : Sl M w A m c k news) (hs : a.eval s = .slice (some ⟨b, off, none⟩) 0 0) (hx : a.eval x = .slice A m c) (hm : 0 < m)
    (hb : m * bytes ≤ 140737488355328) (hmax : m ≤ 140737488355328) (hB : B ≤ w.heap.size)
    (h : ∀ v' w', Row w' B e k v' m news → Fr [] w w' → (∀ g, v'.ownBlock = some g → g = w.heap.size) → wpList P ops Q rest (a.put o.dst v') w') : wpList P ops Q (o :: rest) a w :=
  wpList_plain hgd fun K hK => by
    obtain ⟨v', w', hrun, h2, h3, h4⟩ := run_app_lit (P := P) (M := M) (A := A) (c := c) (B := B) E w o.type b off hr hm hb hmax hB
    unfold Oper.wp execOp
    simp only [ho, resolve, invoke, builtin, Sem.run_bind, Sem.run_pure, Result.andThen_ok, List.map_toArray, List.map_cons, List.map_nil, hs, hx, hrun]
    exact hK _ _ (h v' w' h2 h3 h4)
end

/-! exact growth -/
def Gw (w w' : World) : Prop := ∃ q os, w' = Sort.grow (w.drewN q) os
theorem Gw.refl (w : World) : Gw w w := ⟨0, #[], by simp [World.drewN]⟩
theorem Gw.drew {w w' : World} (h : Gw w w') : Gw w w'.drew := by
  obtain ⟨q, os, rfl⟩ := h
  exact ⟨q + 1, os, rfl⟩
theorem Gw.drewN {w w' : World} (h : Gw w w') (n : Nat) : Gw w (w'.drewN n) := by
  obtain ⟨q, os, rfl⟩ := h
  exact ⟨q + n, os, by simp [World.drewN, Sort.grow, Nat.add_assoc]⟩
theorem Gw.alloc {w w' : World} (h : Gw w w') (o : Obj) : Gw w (w'.alloc o) := by
  obtain ⟨q, os, rfl⟩ := h
  exact ⟨q, os ++ #[o], by rw [Sort.alloc_eq_grow, Sort.grow_grow]⟩

set_option maxHeartbeats 2000000 in
theorem rcompare_gw (a b c d : Int) (w : World) : Calls Try.prog 39 #[.agg #[.int .i64 a, .int .i64 b], .agg #[.int .i64 c, .int .i64 d]] w fun e w' => e = .returned (.int .i64 (cmpA (a, b) (c, d))) ∧ Gw w w' := by
  go_enter Try.func39, Try.ntmps39
  go_wp2_with fail
  go_region_held3 (fun w' => w'.cell? ⟨w.heap.size, 0, none⟩ = some (.int .i64 a) ∧ w'.cell? ⟨w.heap.size, 1, none⟩ = some (.int .i64 b) ∧ w'.cell? ⟨w.heap.size + 1, 0, none⟩ = some (.int .i64 c) ∧ w'.cell? ⟨w.heap.size + 1, 1, none⟩ = some (.int .i64 d))
    (go_keep)
    (first
      | (go_at_call 52; refine (compare_any _ _ _).mono ?_; rintro e w' ⟨rfl, rfl⟩)
      | (go_at_call 51; refine (or_two _ (cmpI a c) (cmpI b d) _ (by go_simp) (by go_simp)).mono ?_; rintro e w' ⟨rfl, rfl⟩))
  go_wp2_with fail
  go_ret
  exact ⟨rfl, by repeat (first | exact Gw.refl _ | with_reducible apply Gw.drewN | with_reducible apply Gw.drew | with_reducible apply Gw.alloc)⟩


/-! from the shelf's words to ours -/
def sortL (xs : List Arc) : List Arc := xs.mergeSort fun x y => !(ltOf cmpA) y x
theorem ltOf_cmpA (x y : Arc) : ltOf cmpA x y = lessB x y := by
  unfold ltOf
  rw [Bool.eq_iff_iff, decide_eq_true_eq, cmpA_lt]
theorem swoA : Sort.SWO (ltOf cmpA) where
  irrefl x := by rw [ltOf_cmpA]; simp [lessB]
  trans x y z h1 h2 := by rw [ltOf_cmpA] at *; simp [lessB] at *; omega
  ntrans x y z h1 h2 := by rw [ltOf_cmpA] at *; simp [lessB] at *; omega
theorem flatK_eq {α : Type} [Inhabited α] (f : α → List Value) (k : Nat) (hk : 0 < k) (hf : ∀ x, (f x).length = k) (xs : List α) : flatK f k xs.toArray = (xs.flatMap f).toArray := by
  apply Array.ext
  · simp [flat_len f k hf]
  · intro t h1 h2
    simp only [size_flatK, List.size_toArray] at h1
    have hd : t / k < xs.length := Nat.div_lt_of_lt_mul (by rw [Nat.mul_comm]; exact h1)
    have hm : t % k < k := Nat.mod_lt _ hk
    have hg := flat_get f k hf xs (t / k) (t % k) xs[t / k] (List.getElem?_eq_getElem hd) hm
    have htd : t / k * k + t % k = t := by rw [Nat.mul_comm]; exact Nat.div_add_mod t k
    rw [htd] at hg
    have h3 := get_flatK f k xs.toArray t (by simpa using h1)
    rw [getElem!_pos _ t (by simpa using h1)] at h3
    rw [h3]
    have h4 : (xs.toArray)[t / k]! = xs[t / k] := by simp [hd]
    rw [h4, getElem!_pos _ _ (by rw [hf]; exact hm)]
    have hlt : t < (xs.flatMap f).length := by rw [flat_len f k hf]; exact h1
    rw [List.getElem?_eq_getElem hlt, List.getElem?_eq_getElem (by rw [hf]; exact hm)] at hg
    exact (Option.some.inj hg).symm

theorem sortL_len (xs : List Arc) : (sortL xs).length = xs.length := List.length_mergeSort _
/-- the world behind the sort -/
theorem sorted_row {w : World} {B g n cap m : Nat} {e : TypeId} {cur : Array Value} {xs ys : List Arc} {os : Array Obj} (hn : xs.length = n) (hn' : ys.length = n) (h0 : 0 < n) (hB : B ≤ g) (hh : w.heap[g]? = some (.cells cur e (0, 0))) (hc1 : n ≤ cap) (hc2 : cap ≤ maxLen) (hc3 : cur.size = cap * 2)
    (hc4 : cur.toList.take (n * 2) = xs.flatMap cp) :
    HoldsK cp 2 w g 0 xs.toArray ∧ Row (sortWorldK cp 2 w g 0 m ys.toArray os) B e 2 (.slice (some ⟨g, 0, none⟩) n cap) n (ys.flatMap cp) ∧ Fr [g] w (sortWorldK cp 2 w g 0 m ys.toArray os) := by
  have hlt : g < w.heap.size := (Array.getElem?_eq_some_iff.1 hh).1
  have hfl := flat_len cp 2 (fun _ => rfl) xs
  have hfl' := flat_len cp 2 (fun _ => rfl) ys
  have hblk : (sortWorldK cp 2 w g 0 m ys.toArray os).heap[g]? = some (.cells (putCells id 0 (ys.flatMap cp).toArray cur) e (0, 0)) := by
    unfold sortWorldK putRowK putRow mapBlock Sort.grow Sort.ahead
    rw [flatK_eq cp 2 (by omega) (fun _ => rfl)]
    simp only
    rw [Array.getElem?_append_left (by simpa using hlt), Array.getElem?_modify, if_pos rfl, hh]
    rfl
  refine ⟨?_, .inr ⟨h0, by rw [hfl', hn'], .inr ⟨g, cap, _, rfl, hB, hblk, hc1, hc2, ?_, ?_⟩⟩, ?_⟩
  · unfold HoldsK Holds
    rw [flatK_eq cp 2 (by omega) (fun _ => rfl)]
    intro j hj
    simp only [List.size_toArray, hfl, hn] at hj
    constructor
    · rw [Nat.zero_add, cell_of_row w g j cur e (0, 0) hh]
      have h1 : (xs.flatMap cp)[j]? = cur[j]? := by rw [← hc4, List.getElem?_take, if_pos hj]; simp
      rw [← h1, getElem!_pos _ j (by simpa [hfl, hn] using hj)]
      simp [hfl, hn, hj]
    · simp [World.frozen?, hh]
  · simp [putCells, hc3]
  · apply List.ext_getElem?
    intro j
    rw [List.getElem?_take]
    split
    · rename_i hj
      have hjc : j < cur.size := by have := Nat.mul_le_mul_right 2 hc1; omega
      have hjy : j < (ys.flatMap cp).length := by rw [hfl', hn']; exact hj
      simp only [putCells, Array.getElem?_toList, Array.getElem?_mapIdx, Nat.zero_le, true_and, Nat.zero_add, List.size_toArray, hjy, if_true, Nat.sub_zero]
      rw [Array.getElem?_eq_getElem hjc, List.getElem?_eq_getElem hjy]
      simp
      rw [List.getElem?_eq_getElem hjy]; rfl
    · rename_i hj
      rw [List.getElem?_eq_none (by rw [hfl', hn']; omega)]
  · refine ⟨rfl, rfl, rfl, by simp [sortWorldK, putRowK, putRow, mapBlock, Sort.grow, Sort.ahead], fun k hk hm => ?_⟩
    unfold sortWorldK putRowK putRow mapBlock Sort.grow Sort.ahead
    simp only
    rw [Array.getElem?_append_left (by simpa using hk), Array.getElem?_modify, if_neg (fun h => hm (by simp [h]))]
set_option maxHeartbeats 1000000 in
theorem cmpLaysA (blk off size : Nat) (w : World) : CmpLays Try.prog 39 #[] cp 2 cmpA blk off size w :=
  fun m os dk _ x y => rcompare_gw x.1 x.2 y.1 y.2 _
theorem less_tri' (a b : Arc) : lessB a b = true ∨ a = b ∨ lessB b a = true := by
  rcases a with ⟨a1, a2⟩; rcases b with ⟨b1, b2⟩; simp [lessB]; omega
set_option maxHeartbeats 1000000 in
theorem sort_any (B : Nat) (v : Value) (n : Nat) (xs : List Arc) (w : World) (h : Row w B 46 2 v n (xs.flatMap cp)) (hn : xs.length = n) (hb : n ≤ 1000000000) :
    Calls Try.prog 47 #[v, .func (.func 39) #[] #[]] w fun e w' => e = .returned (.tuple #[]) ∧ Row w' B 46 2 v n ((sortL xs).flatMap cp) ∧ Fr (bl v) w w' := by
  rcases h with ⟨rfl, hcs, A, rfl, hA⟩ | ⟨h0, _, h⟩
  · have hxs : xs = [] := List.length_eq_zero_iff.1 hn
    subst hxs
    refine (AnyF.slices_SortFunc_none Try.sortArcs A 0 _ w).mono ?_
    rintro e w' ⟨rfl, rfl⟩
    exact ⟨rfl, .inl ⟨rfl, by simp [sortL], A, rfl, hA⟩, Fr.refl _ _⟩
  · rcases h with ⟨_, hn0⟩ | ⟨g, cap, cur, rfl, hB, hh, hc1, hc2, hc3, hc4⟩
    · omega
    have eg : ∀ args w, (callFunc 39 args).run Try.prog w = .ok (.enter 39 args) w := enters_of Try.func39 (by kernel_rfl) rfl
    have hlt : g < w.heap.size := (Array.getElem?_eq_some_iff.1 hh).1
    have hk := fun m os => sorted_row (m := m) (os := os) (ys := sortL xs) hn (by rw [sortL_len, hn]) h0 hB hh hc1 hc2 hc3 hc4
    have hcon := AnyQ.slices_SortFunc_total Try.sortArcs 2 Try.isAgg46 Try.sizeOf46 cp (fun _ => rfl) (fun x v hv => by simp [cp] at hv; rcases hv with rfl | rfl <;> rfl) cmpA swoA 39 #[] g 0 cap xs.toArray w eg (cmpLaysA g 0 _ w) (hk 0 #[]).1 hlt (by simp; omega)
      (fun x y h1 h2 => by
        rw [ltOf_cmpA] at h1 h2
        rcases less_tri' x y with h | h | h
        · rw [h] at h1; cases h1
        · exact h
        · rw [h] at h2; cases h2)
    change Calls Try.prog 47 _ _ _ at hcon
    have hsz : xs.toArray.size = n := by simp [hn]
    rw [hsz] at hcon
    refine hcon.mono ?_
    rintro e w' ⟨rfl, m, os, rfl⟩
    exact ⟨rfl, (hk m os).2.1, by have h3 := (hk m os).2.2; unfold sortL at h3; simpa [bl, Value.ownBlock] using h3⟩
end Go.Proofs.Ytfkpjnmngafnmaa
