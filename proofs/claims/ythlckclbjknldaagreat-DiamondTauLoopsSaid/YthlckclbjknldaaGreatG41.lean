/- slices.Repeat of one number. -/
import Derived.Test.YthlckclbjknldaaGreatG40
import Derived.Test.YthlckclbjknldaaGreatShlf
namespace Go.Proofs.YthlckclbjknldaaGreat
set_option linter.unusedVariables false
set_option linter.unusedSimpArgs false
open Go.RowKit Go.Shelf
set_option maxRecDepth 100000
attribute [local go_sem] List.set_cons_zero List.set_cons_succ List.map_cons List.map_nil List.take_succ_cons List.take_zero List.drop_zero List.drop_succ_cons C.pl C.one List.all_cons List.all_nil Bool.and_true Nat.mul_one Int.toNat_natCast

/-- a contract without objects that answers two values -/
theorem fc_tup {P : Program} {f : FuncId} {args : List AV} {vals : List Value} {a b : Value} (ha : ∀ (g : Gh) (w : World) (vs : List Value), argsR g [] w args vs → vs = vals)
  (h : ∀ w, Calls P f vals.toArray w fun e w' => e = .returned (.tuple #[a, b]) ∧ Fp (fun _ => False) w w') : FC P f args [] (fun x o => o = [] ∧ x = .tup [.c (.v a), .c (.v b)]) := by
 intro g w vs hr hargs
 obtain rfl := ha g w vs hargs
 refine (h w).mono ?_
 rintro e w' ⟨rfl, hf⟩
 refine ⟨_, _, [], g, rfl, ⟨rfl, rfl⟩, ?_, ⟨Nat.le_refl _, Ext.refl _ _⟩, fun ℓ hl => ?_, ⟨[a, b], rfl, rfl, fun i x hx => ?_⟩, hf.mono (fun _ _ h => h.elim)⟩
 ·exact ⟨fun q hq => Nat.lt_of_lt_of_le (hr.ml q hq) hf.size, fun ℓ hl => hr.md ℓ hl, hr.inj, fun id r e => by simp at e, fun id kv e => by simp at e, hr.gl.keep hf.size (fun k hk _ => hf.block k hk (fun h => h)) (fun _ _ h => h)⟩
 ·cases ℓ with
  | ob i => rcases hl with ⟨r, e, _⟩ | ⟨kv, e⟩ <;> simp at e
  | cl i j => obtain ⟨r, k, cs, e, _⟩ := hl; simp at e
 ·match i, hx with
  | 0, hx => simp at hx; subst hx; exact ⟨a, rfl, rfl⟩
  | 1, hx => simp at hx; subst hx; exact ⟨b, rfl, rfl⟩
  | i + 2, hx => simp at hx
theorem mul1_fc (n : Nat) (hn : n ≤ 1000000) : FC Tryz.prog 143 [.a (.c (.v (.int .u64 1))), .a (.c (.v (.int .u64 n)))] [] (fun x o => o = [] ∧ x = .tup [.c (.v (.int .u64 0)), .c (.v (.int .u64 n))]) := by
 refine fc_tup (vals := [.int .u64 1, .int .u64 n]) (fun g w vs hv => ?_) fun w => ?_
 ·obtain ⟨h0, h1⟩ := hv
  obtain ⟨v, e1, e2⟩ := h1 0 _ rfl
  obtain ⟨u, e3, e4⟩ := h1 1 _ rfl
  match vs, h0 with
  | [x, y], _ => simp at e1 e3; subst e1; subst e3; rw [show x = _ from e2, show y = _ from e4]
 ·have hmul := Any.bits_Mul Tryz.bitsMul 1 n (by omega) (by omega) w
  rw [Nat.one_mul, Nat.div_eq_of_lt (by omega : n < 18446744073709551616), Nat.mod_eq_of_lt (by omega : n < 18446744073709551616)] at hmul
  exact hmul.mono fun e w' h => ⟨h.1, by rw [h.2]; exact Fp.refl _ _⟩

/-- a row that is being filled -/
def filR (x : Int) (j m : Nat) : List Int := List.replicate j x ++ List.replicate m 0
theorem filR_len (x : Int) (j m : Nat) : (filR x j m).length = j + m := by simp [filR]
theorem filR_set (x : Int) (l : Nat) : ∀ j m, l ≤ m → setC (cInts (filR x j m)) j (cInts (List.replicate l x)) = cInts (filR x (j + l) (m - l)) := by
 induction l with
 | zero => intro j m _; rfl
 | succ l ih =>
  intro j m h
  rw [List.replicate_succ]
  show setC ((cInts (filR x j m)).set j (.v (.int .i64 x))) (j + 1) (cInts (List.replicate l x)) = _
  have e : (cInts (filR x j m)).set j (.v (.int .i64 x)) = cInts (filR x (j + 1) (m - 1)) := by
   rw [cInts_set, filR, List.set_append_right _ _ (by simp), filR]
   congr 1
   obtain ⟨m', rfl⟩ : ∃ m', m = m' + 1 := ⟨m - 1, by omega⟩
   rw [List.length_replicate, Nat.sub_self, List.replicate_succ, List.set_cons_zero, Nat.add_sub_cancel, List.replicate_succ' (n := j), List.append_assoc]
   rfl
  rw [e, ih (j + 1) (m - 1) (by omega), show j + 1 + l = j + (l + 1) from by omega, show m - 1 - l = m - (l + 1) from by omega]
theorem filR_take (x : Int) (j m l : Nat) (h : l ≤ j) : (cInts (filR x j m)).take l = cInts (List.replicate l x) := by
 rw [cInts_take, filR, List.take_append_of_le_length (by simpa using h), List.take_replicate, Nat.min_eq_left h]

theorem repeat_fc (x : Int) (n : Nat) (h1 : 1 ≤ n) (hn : n ≤ 1000000) : FC Tryz.prog 121 [.a (.c (.s 0 1)), .i n] [rInts [x]] (fun r o => o = [rInts [x], rInts (List.replicate n x)] ∧ r = .a (.c (.s 1 n))) := by
 refine fc_intro Tryz.func121 rfl (by rw [Tryz.ntmps121]; simp) ?_
 rw [Tryz.ntmps121]
 simp only [enum, rInts]
 have d0 : decide ((n : Int) < 0) = false := by simp
 have w1 : IntKind.u64.wrap (1 : Int) = 1 := IntWalk.u64_in _ (by omega)
 have w2 : IntKind.u64.wrap (n : Int) = n := IntWalk.u64_in _ (by omega)
 have w3 : IntKind.i64.wrap (n : Int) = n := IntWalk.i64_in _ (by omega)
 have u1 := Tryz.underlying3
 have u2 := Tryz.underlying156
 have d3 : decide ((n : Int) > 9223372036854775807) = false := by simp; omega
 have d4 : decide ((0 : Int) > 0) = false := by simp
 (repeat (first | (refine aw_seq ?_; intro K hK) | refine aw_block ?_ | refine aw_region ?_ | (refine lst_x rfl rfl ?_; intro K1 hK1; simp only [go_sem, d0]; (first | refine hK1 _ ?_ | refine andk (hK1 _ ?_)); clear hK1 K1) | ((first | refine lst_nil ?_ | refine aw_skip ?_); refine hK _ ?_; clear hK K)))
 (refine aw_cnd ?_; intro X Y hX hY; simp only [go_sem])
 refine hY ?_
 clear hX hY X Y
 (repeat (first | (refine aw_seq ?_; intro K hK) | refine aw_block ?_ | refine aw_region ?_ | (refine lst_x rfl rfl ?_; intro K1 hK1; simp only [go_sem, w1, w2, u1, u2, Int.natCast_one]; (first | refine hK1 _ ?_ | refine andk (hK1 _ ?_)); clear hK1 K1) | ((first | refine lst_nil ?_ | refine aw_skip ?_); refine hK _ ?_; clear hK K)))
 (refine lst_cons rfl ?_; intro K1 hK1; refine (stp_call0 (ids := []) (mul1_fc n hn) rfl rfl (by simp only [go_sem]) (by kernel_rfl) (by (simp only [List.append_nil, go_sem]) <;> rfl) ?_).stp)
 rintro _ _ ⟨rfl, rfl⟩
 (simp only [aInts, aSets, List.append_nil, List.nil_append, List.length_map, go_sem]; refine hK1 _ ?_; clear hK1 K1)
 (repeat (first | (refine aw_seq ?_; intro K hK) | refine aw_block ?_ | refine aw_region ?_ | (refine lst_x rfl rfl ?_; intro K1 hK1; simp only [go_sem, d3, d4]; (first | refine hK1 _ ?_ | refine andk (hK1 _ ?_)); clear hK1 K1) | ((first | refine lst_nil ?_ | refine aw_skip ?_); refine hK _ ?_; clear hK K)))
 (refine aw_cnd ?_; intro X Y hX hY; simp only [go_sem])
 refine hY ?_
 clear hX hY X Y
 (repeat (first | (refine aw_seq ?_; intro K hK) | refine aw_block ?_ | refine aw_region ?_ | (refine lst_x rfl rfl ?_; intro K1 hK1; simp only [go_sem, w3, u1, u2]; (first | refine hK1 _ ?_ | refine andk (hK1 _ ?_)); clear hK1 K1) | ((first | refine lst_nil ?_ | refine aw_skip ?_); refine hK _ ?_; clear hK K)))
 (refine lst_cons rfl ?_; intro K1 hK1; refine stp_copy (l := 1) rfl rfl (by simp only [go_sem] <;> rfl) rfl (by simp only [go_sem] <;> rfl) (by simp only [go_sem, rWin] <;> rfl) (by simp only [go_sem, rWin] <;> rfl) (by simp only [go_sem] <;> rfl) (by simp only [go_sem] <;> rfl) (by omega) (by omega) (by simp only [go_sem] <;> omega) rfl ?_ ?_ ?_ ?_)
 ·rfl
 ·rfl
 ·simp only [go_sem, List.length_replicate]; omega
 ·have f0 : setC (List.replicate n (C.v (.int .i64 0))) 0 (List.take 1 (cInts [x])) = cInts (filR x 1 (n - 1)) := by
   have h := filR_set x 1 0 n h1
   rw [Nat.zero_add] at h
   rw [← h]
   have e1 : cInts (filR x 0 n) = List.replicate n (C.v (.int .i64 0)) := by simp [filR, cInts]
   rw [e1]; rfl
  simp only [go_sem, f0]
  refine hK1 _ ?_; clear hK1 K1
  (repeat (first | (refine aw_seq ?_; intro K hK) | refine aw_block ?_ | refine aw_region ?_ | (refine lst_x rfl rfl ?_; intro K1 hK1; simp only [go_sem]; (first | refine hK1 _ ?_ | refine andk (hK1 _ ?_)); clear hK1 K1) | ((first | refine lst_nil ?_ | refine aw_skip ?_); refine hK _ ?_; clear hK K)))
  refine aw_loop (fun j : Nat => { tm := [(7, .a (.c (.s 1 n))), (8, .i j)], hp := [.r ⟨3, 1, true, cInts [x]⟩, .r ⟨3, 1, true, cInts (filR x j (n - j))⟩], n := 48, pin := 1 }) (fun j => 1 ≤ j ∧ j ≤ n) (fun j => n - j) 1 ?_ ?_ ?_
  ·omega
  ·(refine le_tm ?_; simp only [LeTm, go_sem]; try simp)
  ·rintro j ⟨hj1, hj⟩ K hK
   have hfl := filR_len x j (n - j)
   by_cases hlt : j < n
   ·have d1 : decide ((j : Int) < (n : Int)) = true := by simpa using hlt
    (repeat (first | (refine aw_seq ?_; intro K hK) | refine aw_block ?_ | refine aw_region ?_ | (refine lst_x rfl rfl ?_; intro K1 hK1; simp only [go_sem, d1]; (first | refine hK1 _ ?_ | refine andk (hK1 _ ?_)); clear hK1 K1) | ((first | refine lst_nil ?_ | refine aw_skip ?_); refine hK _ ?_; clear hK K)))
    (refine aw_cnd ?_; intro X Y hX hY; simp only [go_sem])
    refine hX ?_
    clear hX hY X Y
    (repeat (first | (refine aw_seq ?_; intro K hK) | refine aw_block ?_ | refine aw_region ?_ | (refine lst_x rfl rfl ?_; intro K1 hK1; simp only [go_sem]; (first | refine hK1 _ ?_ | refine andk (hK1 _ ?_)); clear hK1 K1) | ((first | refine lst_nil ?_ | refine aw_skip ?_); refine hK _ ?_; clear hK K)))
    (refine aw_regionV [] [(0, 0, 0), (1, 0, 0), (2, 0, 0), (3, 0, 0), (4, 0, 0), (5, 0, 0), (6, 0, 0), (7, 2, 0), (8, 0, 0), (9, 0, 0)] (by kernel_rfl) (by kernel_rfl) (by intro c st h; simp [ThenA, InBl, Ret] at h) ?_)
    (repeat (first | ((first | refine v_0 rfl rfl rfl ?_ | refine v_1 rfl rfl rfl rfl rfl rfl rfl rfl rfl ?_ | refine v_1q rfl rfl rfl rfl rfl rfl rfl ?_ | refine v_1f rfl rfl rfl ?_ | refine v_2f rfl rfl rfl rfl ?_); intro K1 hK1; simp only [go_sem]; (first | refine hK1 _ ?_ | refine andk (hK1 _ ?_)); clear hK1 K1) | (refine v_nil ⟨by simp, by simp, ?_⟩; refine hK _ ?_; clear hK K)))
    (refine v_3 rfl rfl rfl ?_; intro K1 hK1; refine stp_copy (l := min j (n - j)) rfl rfl (by simp only [go_sem] <;> rfl) rfl (by simp only [go_sem] <;> rfl) (by simp only [go_sem, rWin] <;> rfl) (by simp only [go_sem, rWin] <;> rfl) (by simp only [go_sem] <;> rfl) (by simp only [go_sem] <;> rfl) rfl (by omega) (by simp only [go_sem] <;> omega) rfl ?_ ?_ ?_ ?_)
    ·simp only [go_sem, filR_take x j (n - j) _ (Nat.min_le_left _ _), cInts_one]
    ·simp only [go_sem, filR_take x j (n - j) _ (Nat.min_le_left _ _), cInts_len, List.length_replicate]
    ·simp only [go_sem, cInts_len, hfl]; omega
    ·simp only [go_sem, filR_take x j (n - j) _ (Nat.min_le_left _ _), filR_set x _ j (n - j) (Nat.min_le_right _ _)]
     refine hK1 _ ?_; clear hK1 K1
     (repeat (first | ((first | refine v_0 rfl rfl rfl ?_ | refine v_1 rfl rfl rfl rfl rfl rfl rfl rfl rfl ?_ | refine v_1q rfl rfl rfl rfl rfl rfl rfl ?_ | refine v_1f rfl rfl rfl ?_ | refine v_2f rfl rfl rfl rfl ?_); intro K1 hK1; simp only [go_sem]; (first | refine hK1 _ ?_ | refine andk (hK1 _ ?_)); clear hK1 K1) | (refine v_nil ⟨by simp, by simp, ?_⟩; refine hK _ ?_; clear hK K)))
     refine v_nil ⟨by simp, by simp, ?_⟩
     simp only [ThenA, InBl]
     refine hK _ (j + min j (n - j)) ⟨by omega, by omega⟩ (by omega) ?_
     have e : n - (j + min j (n - j)) = n - j - min j (n - j) := by omega
     simp only [e]
     (refine le_tm ?_; simp only [LeTm, go_sem, Int.natCast_add]; try simp)
   ·have d1 : decide ((j : Int) < (n : Int)) = false := by simpa using hlt
    have hje : j = n := by omega
    subst hje
    (repeat (first | (refine aw_seq ?_; intro K hK) | refine aw_block ?_ | refine aw_region ?_ | (refine lst_x rfl rfl ?_; intro K1 hK1; simp only [go_sem, d1]; (first | refine hK1 _ ?_ | refine andk (hK1 _ ?_)); clear hK1 K1) | ((first | refine lst_nil ?_ | refine aw_skip ?_); refine hK _ ?_; clear hK K)))
    (refine aw_cnd ?_; intro X Y hX hY; simp only [go_sem])
    refine hY ?_
    clear hX hY X Y
    (refine aw_exit ?_; simp only [ThenA, InBl, reduceIte, Nat.reduceEqDiff]; (first | refine hK _ ?_ | (clear hK K; refine hK _ ?_) | (clear hK K; clear hK K; refine hK _ ?_) | (clear hK K; clear hK K; clear hK K; refine hK _ ?_) | (clear hK K; clear hK K; clear hK K; clear hK K; refine hK _ ?_) | (clear hK K; clear hK K; clear hK K; clear hK K; clear hK K; refine hK _ ?_)); clear hK K)
    (repeat (first | (refine aw_seq ?_; intro K hK) | refine aw_block ?_ | refine aw_region ?_ | (refine lst_x rfl rfl ?_; intro K1 hK1; simp only [go_sem]; (first | refine hK1 _ ?_ | refine andk (hK1 _ ?_)); clear hK1 K1) | ((first | refine lst_nil ?_ | refine aw_skip ?_); refine hK _ ?_; clear hK K)))
    ((try refine aw_ret ?_); (try simp only [ThenA, InBl]); refine ret_le (le_pick [0, 1] rfl rfl) ?_; (try simp only [List.set_nil, List.take_nil, List.take_zero, List.map_append, go_sem]); ((try refine aw_ret ?_); (try refine lst_nil ?_); (try simp only [ThenA, InBl]); refine ret_mk (by first | exact .inl rfl | exact .inr rfl) rfl ?_; simp only [rtn, resA, resL, resV, Tryz.results121, go_sem, true_and, and_true, cInts_ren]))
    rw [Nat.sub_self, filR, List.replicate_zero, List.append_nil]
end Go.Proofs.YthlckclbjknldaaGreat
