/- Lemmas. -/
import Derived.Test.YthnkailnoobdoaaDoorOd1
import Derived.Test.YthnkailnoobdoaaDoorW07
import Derived.Test.YthnkailnoobdoaaDoorG69
import Derived.Test.YthnkailnoobdoaaDoorG36
namespace Go.Proofs.YthnkailnoobdoaaDoor
set_option linter.unusedVariables false
set_option linter.unusedSimpArgs false
open Go.RowKit
set_option maxRecDepth 100000
attribute [local go_sem] lga C.pl C.one

theorem Pg (T : List Int) (hT : TpOk T) (a0 : Nat) (ha : a0 <= 500000) :
  FC Tryd.prog 6 [.a (.c (.p 0 0)), .i 8] [tape T a0] (fun r o => ∃ (a' : Nat) (R : List (List Ar)), (o = [tape T a', Sj R] /\ r = CC R) /\ a' <= a0 + 70 /\ AR R = true /\ R.length <= 8 /\ AA R <= 200 /\ ∀ r ∈ R, r.length <= 1000000) :=
 (P9 T hT a0 8 ha (by omega) (by omega)).mono fun r o ⟨a', R, h0, h1, h2, h3, h4, h5⟩ => by
  obtain ⟨q1, q2, q3⟩ := Si h5 rfl h3 (by omega) (by omega)
  exact ⟨a', R, ⟨h0, h1⟩, by omega, q1, h4, q2, fun r hr => by have := q3 r hr; omega⟩
set_option maxHeartbeats 8000000 in
theorem Ng (T : List Int) (hT : TpOk T) : FC Tryd.prog 3 [AC T] [] (fun r _ => r = .b true) := by
 refine Af Tryd.func3 rfl (by rw [Tryd.ntmps3]; simp) ?_
 rw [Tryd.ntmps3]
 simp only [C2, AC]
 (repeat (first | (refine Ah ?_; intro K hK) | refine A8 ?_ | refine A5 ?_ | (refine AE rfl rfl ?_; intro K1 hK1; simp only [go_sem]; (first | refine hK1 _ ?_ | refine Aw (hK1 _ ?_)); clear hK1 K1) | ((first | refine A6 ?_ | refine A9 ?_); refine hK _ ?_; clear hK K)))
 (refine Aa rfl ?_; intro K1 hK1; refine (AQ (ids := []) (Sa T) rfl rfl (by simp only [go_sem]) (by kernel_rfl) (by (simp only [List.append_nil, go_sem]) <;> rfl) ?_).stp)
 rintro _ _ ⟨rfl, rfl⟩
 (simp only [AC, BS, tape, List.append_nil, List.nil_append, List.length_map, go_sem]; refine hK1 _ ?_; clear hK1 K1)
 (repeat (first | (refine Ah ?_; intro K hK) | refine A8 ?_ | refine A5 ?_ | (refine AE rfl rfl ?_; intro K1 hK1; simp only [go_sem]; (first | refine hK1 _ ?_ | refine Aw (hK1 _ ?_)); clear hK1 K1) | ((first | refine A6 ?_ | refine A9 ?_); refine hK _ ?_; clear hK K)))
 refine Ab (fun p : Nat × Nat => { tm := [(3, .a (.c (.p 0 0))), (4, .i p.1)], hp := [.r ⟨41, 2, false, [.t 1 (Ad T), .v (.int .i64 p.2)]⟩], n := 67, pin := 0 }) (fun p => p.1 <= 3 /\ p.2 <= 300 * p.1) (fun p => 3 - p.1) (0, 0) ?_ ?_ ?_
 ·exact ⟨by simp, by simp⟩
 ·(refine BJ ?_; simp only [DG, go_sem]; try simp)
 rintro ⟨k, a⟩ ⟨hk, ha⟩ K hK
 simp only at hk ha ⊢
 (repeat (first | (refine Ah ?_; intro K hK) | refine A8 ?_ | refine A5 ?_ | (refine AE rfl rfl ?_; intro K1 hK1; simp only [go_sem]; (first | refine hK1 _ ?_ | refine Aw (hK1 _ ?_)); clear hK1 K1) | ((first | refine A6 ?_ | refine A9 ?_); refine hK _ ?_; clear hK K)))
 (refine As ?_; intro X Y hX hY; simp only [go_sem])
 refine ⟨fun h => hX ?_, fun h => hY ?_⟩
 rotate_left
 ·clear hX hY X Y
  (refine CX ?_; simp only [Ag, B6, reduceIte, Nat.reduceEqDiff]; (first | refine hK _ ?_ | (clear hK K; refine hK _ ?_) | (clear hK K; clear hK K; refine hK _ ?_) | (clear hK K; clear hK K; clear hK K; refine hK _ ?_) | (clear hK K; clear hK K; clear hK K; clear hK K; refine hK _ ?_) | (clear hK K; clear hK K; clear hK K; clear hK K; clear hK K; refine hK _ ?_)); clear hK K)
  (repeat (first | (refine Ah ?_; intro K hK) | refine A8 ?_ | refine A5 ?_ | (refine AE rfl rfl ?_; intro K1 hK1; simp only [go_sem]; (first | refine hK1 _ ?_ | refine Aw (hK1 _ ?_)); clear hK1 K1) | ((first | refine A6 ?_ | refine A9 ?_); refine hK _ ?_; clear hK K)))
  (refine Aa rfl ?_; intro K1 hK1; refine (AQ (ids := []) (L9) rfl rfl (by simp only [go_sem]) (by kernel_rfl) (by (simp only [List.append_nil, go_sem]) <;> rfl) ?_).stp)
  rintro _ _ rfl
  (simp only [AC, BS, List.append_nil, List.nil_append, List.length_map, go_sem]; refine hK1 _ ?_; clear hK1 K1)
  (repeat (first | (refine Ah ?_; intro K hK) | refine A8 ?_ | refine A5 ?_ | (refine AE rfl rfl ?_; intro K1 hK1; simp only [go_sem]; (first | refine hK1 _ ?_ | refine Aw (hK1 _ ?_)); clear hK1 K1) | ((first | refine A6 ?_ | refine A9 ?_); refine hK _ ?_; clear hK K)))
  ((try refine AM ?_); (try refine A6 ?_); (try simp only [Ag, B6]); refine BP (by first | exact .inl rfl | exact .inr rfl) rfl ?_; simp only [Uo, Fy, F0, Ge, Tryd.results3, go_sem])
 have hlt : k < 3 := by simp at h; omega
 clear hX hY X Y h
 (repeat (first | (refine Ah ?_; intro K hK) | refine A8 ?_ | refine A5 ?_ | (refine AE rfl rfl ?_; intro K1 hK1; simp only [go_sem]; (first | refine hK1 _ ?_ | refine Aw (hK1 _ ?_)); clear hK1 K1) | ((first | refine A6 ?_ | refine A9 ?_); refine hK _ ?_; clear hK K)))
 (refine Aa rfl ?_; intro K1 hK1; refine Av (ids := []) [0] (Pg T hT a (by omega)) rfl rfl (by simp only [go_sem]) (by first | assumption | kernel_rfl) rfl rfl (by (simp only [List.map_append, List.append_nil, go_sem]) <;> rfl) (by (simp only [Um, tape, go_sem]) <;> rfl) ?_ ?_)
 ·rintro _ _ ⟨_, _, ⟨rfl, rfl⟩, _⟩; rfl
 rintro _ _ ⟨a1, R, ⟨rfl, rfl⟩, ha1, hv, hRn, hRt, hRr⟩
 (simp only [AC, BS, tape, Sj, CC, List.append_nil, List.nil_append, List.length_map, go_sem]; refine hK1 _ ?_; clear hK1 K1)
 (repeat (first | (refine Ah ?_; intro K hK) | refine A8 ?_ | refine A5 ?_ | (refine AE rfl rfl ?_; intro K1 hK1; simp only [go_sem, ST.put, Dp, A0.cells]; (first | refine hK1 _ ?_ | refine Aw (hK1 _ ?_)); clear hK1 K1) | ((first | refine A6 ?_ | refine A9 ?_); refine hK _ ?_; clear hK K)))
 (refine Aa rfl ?_; intro K1 hK1; refine (AQ (ids := []) (Ko R hv (by omega) (by omega) hRr) rfl rfl (by simp only [go_sem]) (by kernel_rfl) (by (simp only [List.append_nil, go_sem]) <;> rfl) ?_).stp)
 intro r0 o0 ⟨c, B, hc, hN, hB, h⟩
 obtain ⟨Z, hZe, hZv, hZl, hZt, hZi, hZ1, hZ2⟩ := Pd hv (by omega) (by omega) hc hN hB
 rw [<- hZe] at h
 obtain ⟨rfl, rfl⟩ := h
 clear hc hN hB hZe
 have hZr : ∀ r ∈ Z, r.length <= 1000000 := fun r hr => by have := Ov r hr; omega
 have he1 : EqW R Z = true := EqW.yes hv hZv (by omega) (by omega) hZ1
 have he2 : EqW Z R = true := EqW.yes hZv hv (by omega) (by omega) hZ2
 have hgt : decide ((Z.length : Int) > (R.length : Int)) = false := decide_eq_false (by omega)
 clear hZ1 hZ2
 (simp only [AC, BS, List.append_nil, List.nil_append, List.length_map, go_sem]; refine hK1 _ ?_; clear hK1 K1)
 (repeat (first | (refine Ah ?_; intro K hK) | refine A8 ?_ | refine A5 ?_ | (refine AE rfl rfl ?_; intro K1 hK1; simp only [go_sem, ST.put, Dp, A0.cells]; (first | refine hK1 _ ?_ | refine Aw (hK1 _ ?_)); clear hK1 K1) | ((first | refine A6 ?_ | refine A9 ?_); refine hK _ ?_; clear hK K)))
 (refine CZ rfl rfl (by simp only [go_sem] <;> rfl) ?_; intro K1 hK1; refine (AQ (ids := []) (PV R Z hv hZv (by omega) (by omega) hRr hZr) rfl rfl (by simp only [go_sem]) (by kernel_rfl) (by (simp only [List.append_nil, go_sem]) <;> rfl) ?_).stp)
 rintro _ _ ⟨rfl, rfl⟩
 (simp only [AC, BS, List.append_nil, List.nil_append, List.length_map, go_sem]; refine hK1 _ ?_; clear hK1 K1)
 rw [he1]
 (repeat (first | (refine Ah ?_; intro K hK) | refine A8 ?_ | refine A5 ?_ | (refine AE rfl rfl ?_; intro K1 hK1; simp only [go_sem, Bool.not_true]; (first | refine hK1 _ ?_ | refine Aw (hK1 _ ?_)); clear hK1 K1) | ((first | refine A6 ?_ | refine A9 ?_); refine hK _ ?_; clear hK K)))
 (refine CZ rfl rfl (by simp only [go_sem] <;> rfl) ?_; intro K1 hK1; refine (AQ (ids := []) (PV Z R hZv hv (by omega) (by omega) hZr hRr) rfl rfl (by simp only [go_sem]) (by kernel_rfl) (by (simp only [List.append_nil, go_sem]) <;> rfl) ?_).stp)
 rintro _ _ ⟨rfl, rfl⟩
 (simp only [AC, BS, List.append_nil, List.nil_append, List.length_map, go_sem]; refine hK1 _ ?_; clear hK1 K1)
 rw [he2]
 (repeat (first | (refine Ah ?_; intro K hK) | refine A8 ?_ | refine A5 ?_ | (refine AE rfl rfl ?_; intro K1 hK1; simp only [go_sem, Bool.not_true, Ac, hgt]; (first | refine hK1 _ ?_ | refine Aw (hK1 _ ?_)); clear hK1 K1) | ((first | refine A6 ?_ | refine A9 ?_); refine hK _ ?_; clear hK K)))
 (refine As ?_; intro X Y hX hY; simp only [go_sem])
 refine hY ?_
 clear hX hY X Y
 (repeat (first | (refine Ah ?_; intro K hK) | refine A8 ?_ | refine A5 ?_ | (refine AE rfl rfl ?_; intro K1 hK1; simp only [go_sem]; (first | refine hK1 _ ?_ | refine Aw (hK1 _ ?_)); clear hK1 K1) | ((first | refine A6 ?_ | refine A9 ?_); refine hK _ ?_; clear hK K)))
 (refine Aa rfl ?_; intro K1 hK1; refine (AQ (ids := []) (Na Z hZv (by omega) hZr) rfl rfl (by simp only [go_sem]) (by kernel_rfl) (by (simp only [List.append_nil, go_sem]) <;> rfl) ?_).stp)
 rintro _ _ ⟨x, hx, hxN, rfl, rfl⟩
 obtain rfl := hZi x hx hxN
 clear hZi hx hxN
 (simp only [AC, BS, List.append_nil, List.nil_append, List.length_map, go_sem]; refine hK1 _ ?_; clear hK1 K1)
 (repeat (first | (refine Ah ?_; intro K hK) | refine A8 ?_ | refine A5 ?_ | (refine AE rfl rfl ?_; intro K1 hK1; simp only [go_sem]; (first | refine hK1 _ ?_ | refine Aw (hK1 _ ?_)); clear hK1 K1) | ((first | refine A6 ?_ | refine A9 ?_); refine hK _ ?_; clear hK K)))
 have hlen : (Ad ((List.range Z.length).map Int.ofNat)).length = Z.length := by rw [A2]; simp
 refine Ab (fun s : Nat => { tm := [(3, .a (.c (.p 0 0))), (4, .i k), (6, .a (.c (.p 1 0))), (8, .a (.c (.t 1 (Ad ((List.range Z.length).map Int.ofNat))))), (9, .i s)], hp := [.r ⟨41, 2, false, [.t 1 (Ad T), .v (.int .i64 a1)]⟩, .r ⟨27, 1, false, [.t 1 (Ao Z)]⟩], n := 67, pin := 0 }) (fun s => s <= Z.length) (fun s => Z.length - s) 0 ?_ ?_ ?_
 ·omega
 ·refine Le.trans (Ae [0, 4] rfl rfl) ?_
  (try simp only [List.set_nil, List.take_nil, List.take_zero, List.map_append, go_sem])
  (refine BJ ?_; simp only [DG, go_sem]; try simp)
 rintro s hs K hK
 by_cases hls : s < Z.length
 ·have d1 : decide ((s : Int) < (Z.length : Int)) = true := by simpa using hls
  have hg : (Ad ((List.range Z.length).map Int.ofNat))[s]? = some (.v (.int .i64 s)) := Ai (by rw [List.getElem?_map, List.getElem?_range hls]; rfl)
  (repeat (first | (refine Ah ?_; intro K hK) | refine A8 ?_ | refine A5 ?_ | (refine AE rfl rfl ?_; intro K1 hK1; simp only [go_sem, hlen, d1]; (first | refine hK1 _ ?_ | refine Aw (hK1 _ ?_)); clear hK1 K1) | ((first | refine A6 ?_ | refine A9 ?_); refine hK _ ?_; clear hK K)))
  (refine As ?_; intro X Y hX hY; simp only [go_sem])
  refine hX ?_
  clear hX hY X Y
  (repeat (first | (refine Ah ?_; intro K hK) | refine A8 ?_ | refine A5 ?_ | (refine AE rfl rfl ?_; intro K1 hK1; simp only [go_sem, hlen, hg, bne_self_eq_false]; (first | refine hK1 _ ?_ | refine Aw (hK1 _ ?_)); clear hK1 K1) | ((first | refine A6 ?_ | refine A9 ?_); refine hK _ ?_; clear hK K)))
  (refine As ?_; intro X Y hX hY; simp only [go_sem])
  refine hY ?_
  clear hX hY X Y
  (repeat (first | (refine Ah ?_; intro K hK) | refine A8 ?_ | refine A5 ?_ | (refine AE rfl rfl ?_; intro K1 hK1; simp only [go_sem]; (first | refine hK1 _ ?_ | refine Aw (hK1 _ ?_)); clear hK1 K1) | ((first | refine A6 ?_ | refine A9 ?_); refine hK _ ?_; clear hK K)))
  ((try refine A6 ?_); (try refine A9 ?_); try simp only [Ag])
  refine hK _ (s + 1) (by omega) (by omega) ?_
  (refine BJ ?_; simp only [DG, go_sem]; try simp)
 have d1 : decide ((s : Int) < (Z.length : Int)) = false := by simpa using hls
 (repeat (first | (refine Ah ?_; intro K hK) | refine A8 ?_ | refine A5 ?_ | (refine AE rfl rfl ?_; intro K1 hK1; simp only [go_sem, hlen, d1]; (first | refine hK1 _ ?_ | refine Aw (hK1 _ ?_)); clear hK1 K1) | ((first | refine A6 ?_ | refine A9 ?_); refine hK _ ?_; clear hK K)))
 (refine As ?_; intro X Y hX hY; simp only [go_sem])
 refine hY ?_
 clear hX hY X Y
 (refine CX ?_; simp only [Ag, B6, reduceIte, Nat.reduceEqDiff]; (first | refine hK _ ?_ | (clear hK K; refine hK _ ?_) | (clear hK K; clear hK K; refine hK _ ?_) | (clear hK K; clear hK K; clear hK K; refine hK _ ?_) | (clear hK K; clear hK K; clear hK K; clear hK K; refine hK _ ?_) | (clear hK K; clear hK K; clear hK K; clear hK K; clear hK K; refine hK _ ?_)); clear hK K)
 (repeat (first | (refine Ah ?_; intro K hK) | refine A8 ?_ | refine A5 ?_ | (refine AE rfl rfl ?_; intro K1 hK1; simp only [go_sem, hlen, Ac, bne_self_eq_false]; (first | refine hK1 _ ?_ | refine Aw (hK1 _ ?_)); clear hK1 K1) | ((first | refine A6 ?_ | refine A9 ?_); refine hK _ ?_; clear hK K)))
 (refine As ?_; intro X Y hX hY; simp only [go_sem])
 refine hY ?_
 clear hX hY X Y
 (repeat (first | (refine Ah ?_; intro K hK) | refine A8 ?_ | refine A5 ?_ | (refine AE rfl rfl ?_; intro K1 hK1; simp only [go_sem]; (first | refine hK1 _ ?_ | refine Aw (hK1 _ ?_)); clear hK1 K1) | ((first | refine A6 ?_ | refine A9 ?_); refine hK _ ?_; clear hK K)))
 ((try refine A6 ?_); (try refine A9 ?_); try simp only [Ag])
 refine hK _ (k + 1, a1) ⟨by simp only; omega, by simp only; omega⟩ (by simp only; omega) ?_
 refine Le.trans (Ae [0] rfl rfl) ?_
 (try simp only [List.set_nil, List.take_nil, List.take_zero, List.map_append, go_sem])
 (refine BJ ?_; simp only [DG, go_sem]; try simp)
end Go.Proofs.YthnkailnoobdoaaDoor
