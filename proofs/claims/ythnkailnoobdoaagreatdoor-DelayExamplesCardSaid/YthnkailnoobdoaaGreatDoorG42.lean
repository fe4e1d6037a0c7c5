/- Lemmas. -/
import Derived.Test.YthnkailnoobdoaaGreatDoorG11
import Derived.Test.YthnkailnoobdoaaGreatDoorMlz
import Derived.Test.YthnkailnoobdoaaGreatDoorTj1
namespace Go.Proofs.YthnkailnoobdoaaGreatDoor
set_option linter.unusedVariables false
set_option linter.unusedSimpArgs false
open Go.RowKit
set_option maxRecDepth 100000
attribute [local go_sem] lga C.pl C.one

def WJ (f : Nat × Nat) : Ar := ((f.1 : Int), (f.2 : Int))
def F5 (R : List (List Ar)) (t : Bool) (n i : Nat) (p : Tst) (J : List Int) (J2 : List Ar) : ST :=
  { tm := [(1, .b t), (2, .a (.c (.p 0 0))), (6, .a (.c (.s 1 n))), (7, .a (.c (.s 2 n))), (8, .a (.c (.s 3 n))), (9, .i p.c), (10, .a (.c (.s 5 p.pt.length))), (11, .a (.c (.s 4 p.op.length))), (31, .i n), (32, .i i)],
    hp := [.r ⟨25, 1, false, [.t 1 (Ai R)]⟩, .r ⟨3, 1, true, A7 p.O⟩, .r ⟨3, 1, true, A7 p.X⟩, .r ⟨3, 1, true, A7 p.W⟩, .r ⟨3, 1, true, A7 (p.op.map Int.ofNat ++ J)⟩, .r ⟨90, 2, true, As (p.pt.map WJ ++ J2)⟩], n := 171, pin := 0 }

def Iu (R : List (List Ar)) (t : Bool) (n i off v : Nat) (p : Tst) (J : List Int) (J2 : List Ar) : ST :=
  { tm := [(1, .b t), (2, .a (.c (.p 0 0))), (6, .a (.c (.s 1 n))), (7, .a (.c (.s 2 n))), (8, .a (.c (.s 3 n))), (9, .i p.c), (10, .a (.c (.s 5 p.pt.length))), (11, .a (.c (.s 4 p.op.length))), (13, .a (.c (.p 5 off))), (14, .i v), (31, .i n), (32, .i i)],
    hp := [.r ⟨25, 1, false, [.t 1 (Ai R)]⟩, .r ⟨3, 1, true, A7 p.O⟩, .r ⟨3, 1, true, A7 p.X⟩, .r ⟨3, 1, true, A7 p.W⟩, .r ⟨3, 1, true, A7 (p.op.map Int.ofNat ++ J)⟩, .r ⟨90, 2, true, As (p.pt.map WJ ++ J2)⟩], n := 171, pin := 0 }
def LH (R : List (List Ar)) (t : Bool) (n i off v : Nat) (A : List Ar) (p : Tst) (J : List Int) (J2 : List Ar) : ST :=
  { tm := [(1, .b t), (2, .a (.c (.p 0 0))), (6, .a (.c (.s 1 n))), (7, .a (.c (.s 2 n))), (8, .a (.c (.s 3 n))), (9, .i p.c), (10, .a (.c (.s 5 p.pt.length))), (11, .a (.c (.s 4 p.op.length))), (13, .a (.c (.p 5 off))), (14, .i v), (15, .a (.c (.t 2 (At A)))), (31, .i n), (32, .i i)],
    hp := [.r ⟨25, 1, false, [.t 1 (Ai R)]⟩, .r ⟨3, 1, true, A7 p.O⟩, .r ⟨3, 1, true, A7 p.X⟩, .r ⟨3, 1, true, A7 p.W⟩, .r ⟨3, 1, true, A7 (p.op.map Int.ofNat ++ J)⟩, .r ⟨90, 2, true, As (p.pt.map WJ ++ J2)⟩], n := 171, pin := 0 }
theorem Jl (l : List Nat) (v : Nat) (J : List Int) : (A7 (l.map Int.ofNat ++ J)).take l.length ++ [C.v (.int .i64 v)] = A7 ((l ++ [v]).map Int.ofNat ++ []) := by
 rw [AM, List.take_append_of_le_length (by simp), gE7 (by simp), AH, List.append_nil, List.map_append]; rfl
theorem F6 (f : List Nat) (L : List Ar) : (As L).map (C.ren f) = As L := by
 unfold As
 rw [List.map_flatMap]
 rfl
theorem Hw {P : Program} {c : Code} {Q : Exit -> ST -> Prop} {K : ST -> Prop} {G : Prop} {α : Type} (hK : ∀ st', AW P c st' Q -> K st') (T : α -> ST) (good : α -> Prop) (hb : (∀ st' x, good x -> Le st' (T x) -> K st') -> G) (h : ∀ x, good x -> AW P c (T x) Q) : G :=
 hb fun st' x hg hl => hK st' (Av hl (h x hg))
theorem Ku (P : List (Nat × Nat)) (v k : Nat) (J : List Ar) : As ((P ++ [(v, k)]).map WJ ++ J) = As (P.map WJ) ++ (C.v (.int .i64 v) :: C.v (.int .i64 k) :: As J) := by
 rw [List.map_append, <- Cm, <- Cm, List.append_assoc]; rfl
theorem F7 (P : List (Nat × Nat)) : (As (P.map WJ)).length = P.length * 2 := by rw [Ah, List.length_map]
theorem MW (P : List (Nat × Nat)) (v k : Nat) (J : List Ar) : (As ((P ++ [(v, k)]).map WJ ++ J))[P.length * 2]? = some (.v (.int .i64 v)) := by
 rw [Ku, gEb (by rw [F7]; exact Nat.le_refl _), F7, Nat.sub_self]; rfl
theorem Qz (P : List (Nat × Nat)) (v k : Nat) (J : List Ar) : (As ((P ++ [(v, k)]).map WJ ++ J))[P.length * 2 + 1]? = some (.v (.int .i64 k)) := by
 rw [Ku, gEb (by rw [F7]; omega), F7, Nat.add_sub_cancel_left]; rfl
theorem Rp (P : List (Nat × Nat)) (v k : Nat) (J : List Ar) (k' : Nat) : (As ((P ++ [(v, k)]).map WJ ++ J)).set (P.length * 2 + 1) (.v (.int .i64 k')) = As ((P ++ [(v, k')]).map WJ ++ J) := by
 rw [Ku, Ku, List.set_append_right _ _ (by rw [F7]; omega), F7, Nat.add_sub_cancel_left]; rfl
theorem Pe (P : List (Nat × Nat)) (t : Nat) (J : List Ar) : (As (P.map WJ ++ J)).take (P.length * 2) ++ [C.v (.int .i64 t), C.v (.int .i64 0)] = As ((P ++ [(t, 0)]).map WJ ++ []) := by
 rw [D3, List.take_append_of_le_length (by simp), gE7 (by simp), List.append_nil, List.map_append, <- Cm]; rfl
theorem MX {L : List Int} {t v : Nat} {c : Nat} (ht : t < L.length) (h : 0 < WF L 0 v) : 0 < WF (L.set t ((c : Int) + 1)) 0 v := by
 rw [DG ht]; unfold upd; split <;> omega
theorem MY {P : Program} {c : Code} {Q : Exit -> ST -> Prop} {K : ST -> Prop} {G : Prop} (hK : ∀ st', AW P c st' Q -> K st') (T : ST) (hb : (∀ st', Le st' T -> K st') -> G) (h : AW P c T Q) : G :=
 hb fun st' hl => hK st' (Av hl h)
set_option maxHeartbeats 8000000 in
theorem Rq (R : List (List Ar)) (t : Bool) (hv : BL R = true) (h1 : 1 <= R.length) (hn : R.length <= 1000000) (hr : ∀ r ∈ R, r.length <= 1000000) : FC Tryz.prog 43 [Bh R, .b t] [] (fun r o => ∃ C : List Int, C.length = R.length /\ (∀ v, v < R.length -> Least (WG t R) v (WF C (-1) v)) /\ o = [Aw C] /\ r = .a (.c (.s 0 R.length))) := by
 refine A9 Tryz.func43 rfl (by rw [Tryz.ntmps43]; simp) ?_
 rw [Tryz.ntmps43]
 simp only [Bz, Bh]
 (repeat (first | (refine AG ?_; intro K hK) | refine Am ?_ | refine Ag ?_ | (refine Bg rfl rfl ?_; intro K1 hK1; simp only [go_sem]; (first | refine hK1 _ ?_ | refine AE (hK1 _ ?_)); clear hK1 K1) | ((first | refine Ab ?_ | refine Ap ?_); refine hK _ ?_; clear hK K)))
 (refine Ad rfl ?_; intro K1 hK1; refine (A2 (ids := []) (EE R (by omega) (fun r h => by have := hr r h; omega)) rfl rfl (by simp only [go_sem]) (by kernel_rfl) (by (simp only [List.append_nil, go_sem]) <;> rfl) ?_).stp)
 rintro _ _ ⟨rfl, rfl⟩
 (simp only [Aq, Bc, List.append_nil, List.nil_append, List.length_map, go_sem]; refine hK1 _ ?_; clear hK1 K1)
 (repeat (first | (refine AG ?_; intro K hK) | refine Am ?_ | refine Ag ?_ | (refine Bg rfl rfl ?_; intro K1 hK1; simp only [go_sem, hv, Bool.not_true]; (first | refine hK1 _ ?_ | refine AE (hK1 _ ?_)); clear hK1 K1) | ((first | refine Ab ?_ | refine Ap ?_); refine hK _ ?_; clear hK K)))
 (refine AA ?_; intro X Y hX hY; simp only [go_sem])
 refine hY ?_
 clear hX hY X Y
 (repeat (first | (refine AG ?_; intro K hK) | refine Am ?_ | refine Ag ?_ | (refine Bg rfl rfl ?_; intro K1 hK1; simp only [go_sem, A4]; (first | refine hK1 _ ?_ | refine AE (hK1 _ ?_)); clear hK1 K1) | ((first | refine Ab ?_ | refine Ap ?_); refine hK _ ?_; clear hK K)))
 (refine Ad rfl ?_; intro K1 hK1; refine AX (ids := []) [1] (Gg (-1) R.length h1 hn) rfl rfl (by simp only [go_sem]) (by first | assumption | kernel_rfl) rfl rfl (by (simp only [List.map_append, List.append_nil, go_sem]) <;> rfl) (by (simp only [VC, Aw, A7, go_sem]) <;> rfl) ?_ ?_)
 ·rintro _ _ ⟨rfl, rfl⟩; rfl
 rintro _ _ ⟨rfl, rfl⟩
 (simp only [Aq, Bc, Aw, CT, List.append_nil, List.nil_append, List.length_map, go_sem]; refine hK1 _ ?_; clear hK1 K1)
 (repeat (first | (refine AG ?_; intro K hK) | refine Am ?_ | refine Ag ?_ | (refine Bg rfl rfl ?_; intro K1 hK1; simp only [go_sem]; (first | refine hK1 _ ?_ | refine AE (hK1 _ ?_)); clear hK1 K1) | ((first | refine Ab ?_ | refine Ap ?_); refine hK _ ?_; clear hK K)))
 refine MY hK { tm := [(1, .b t), (2, .a (.c (.p 0 0))), (5, .i R.length), (6, .a (.c (.s 1 R.length))), (7, .a (.c (.s 2 R.length))), (8, .a (.c (.s 3 R.length)))], hp := [.r ⟨25, 1, false, [.t 1 (Ai R)]⟩, .r ⟨3, 1, true, A7 (List.replicate R.length (-1))⟩, .r ⟨3, 1, true, A7 (List.replicate R.length 0)⟩, .r ⟨3, 1, true, A7 (List.replicate R.length 0)⟩], n := 171, pin := 0 } ?_ ?_
 ·clear hK; intro hK
  have e0 : List.replicate R.length (C.v (.int .i64 0)) = A7 (List.replicate R.length 0) := by simp [A7]
  (refine AD [] (.m 0 0 0 (.m 2 0 0 (.f 1 (.m 4 0 0 (.a 3 (.m 5 0 0 .e))) 3 (.a 1 (.m 4 0 0 (.m 5 0 0 .e)))))) (by kernel_rfl) (by kernel_rfl) (by intro c st h; simp [Ae, AJ, VD] at h) ?_)
  (repeat (first | ((first | refine W2 rfl rfl rfl ?_ | refine W3 rfl rfl rfl rfl rfl rfl rfl ?_ | refine OZ rfl rfl rfl ?_); intro K1 hK1; simp only [go_sem]; (first | refine hK1 _ ?_ | refine AE (hK1 _ ?_)); clear hK1 K1) | (refine Cg ⟨by simp, by simp, ?_⟩; refine hK _ ?_; clear hK K)))
  refine W6 ?_ ?_
  ·(refine W4 rfl rfl ?_; intro K1 hK1; refine BF rfl ?_; simp only [go_sem]; (first | refine hK1 _ ?_ | refine AE (hK1 _ ?_)); clear hK1 K1)
   (repeat (first | ((first | refine W2 rfl rfl rfl ?_ | refine W3 rfl rfl rfl rfl rfl rfl rfl ?_ | refine OZ rfl rfl rfl ?_); intro K1 hK1; simp only [go_sem]; (first | refine hK1 _ ?_ | refine AE (hK1 _ ?_)); clear hK1 K1) | (refine Cg ⟨by simp, by simp, ?_⟩; refine hK _ ?_; clear hK K)))
   (refine W4 rfl rfl ?_; intro K1 hK1; refine BF rfl ?_; simp only [go_sem]; (first | refine hK1 _ ?_ | refine AE (hK1 _ ?_)); clear hK1 K1)
   (repeat (first | ((first | refine W2 rfl rfl rfl ?_ | refine W3 rfl rfl rfl rfl rfl rfl rfl ?_ | refine OZ rfl rfl rfl ?_); intro K1 hK1; simp only [go_sem]; (first | refine hK1 _ ?_ | refine AE (hK1 _ ?_)); clear hK1 K1) | (refine Cg ⟨by simp, by simp, ?_⟩; refine hK _ ?_; clear hK K)))
   rw [e0]
   refine Le.trans (A8 [0, 2, 3, 4] rfl rfl) ?_
   (try simp only [List.set_nil, List.take_nil, List.take_zero, List.map_append, go_sem])
   (try simp only [Ak])
   (refine BP ?_; simp only [Dq, go_sem]; try simp)
  ·(refine W4 rfl rfl ?_; intro K1 hK1; refine BF rfl ?_; simp only [go_sem]; (first | refine hK1 _ ?_ | refine AE (hK1 _ ?_)); clear hK1 K1)
   (repeat (first | ((first | refine W2 rfl rfl rfl ?_ | refine W3 rfl rfl rfl rfl rfl rfl rfl ?_ | refine OZ rfl rfl rfl ?_); intro K1 hK1; simp only [go_sem]; (first | refine hK1 _ ?_ | refine AE (hK1 _ ?_)); clear hK1 K1) | (refine Cg ⟨by simp, by simp, ?_⟩; refine hK _ ?_; clear hK K)))
   (refine W4 rfl rfl ?_; intro K1 hK1; refine BF rfl ?_; simp only [go_sem]; (first | refine hK1 _ ?_ | refine AE (hK1 _ ?_)); clear hK1 K1)
   (repeat (first | ((first | refine W2 rfl rfl rfl ?_ | refine W3 rfl rfl rfl rfl rfl rfl rfl ?_ | refine OZ rfl rfl rfl ?_); intro K1 hK1; simp only [go_sem]; (first | refine hK1 _ ?_ | refine AE (hK1 _ ?_)); clear hK1 K1) | (refine Cg ⟨by simp, by simp, ?_⟩; refine hK _ ?_; clear hK K)))
   rw [e0]
   refine Le.trans (A8 [0, 2, 4, 3] rfl rfl) ?_
   (try simp only [List.set_nil, List.take_nil, List.take_zero, List.map_append, go_sem])
   (try simp only [Ak])
   (refine BP ?_; simp only [Dq, go_sem]; try simp)
 (repeat (first | (refine AG ?_; intro K hK) | refine Am ?_ | refine Ag ?_ | (refine Bg rfl rfl ?_; intro K1 hK1; simp only [go_sem]; (first | refine hK1 _ ?_ | refine AE (hK1 _ ?_)); clear hK1 K1) | ((first | refine Ab ?_ | refine Ap ?_); refine hK _ ?_; clear hK K)))
 refine Av (Dt 10 90 2 ?_) ?_
 ·simp only [go_sem]
 refine Av (Dt 11 3 1 ?_) ?_
 ·simp only [go_sem]
 refine Av (A8 [0, 1, 2, 3, 5, 4] rfl rfl) ?_
 (try simp only [List.set_nil, List.take_nil, List.take_zero, List.map_append, go_sem])
 (try simp only [Ak])
 refine A6 (fun x : Nat × Tst × List Int × List Ar => F5 R t R.length x.1 x.2.1 x.2.2.1 x.2.2.2) (fun x => x.1 <= R.length /\ x.2.1.pt = [] /\ Tst.Ok (WG t R) R.length x.2.1 /\ (∀ v, v < x.1 -> 0 < WF x.2.1.X 0 v)) (fun x => R.length - x.1) (0, { X := List.replicate R.length 0, W := List.replicate R.length 0, O := List.replicate R.length (-1), op := [], pt := [], c := 0 }, [], []) ?_ ?_ ?_
 ·exact ⟨by simp, rfl, Tst.start, fun v h => by simp at h⟩
 ·unfold F5
  (refine BP ?_; simp only [Dq, go_sem]; try simp)
 rintro ⟨i, p, J, J2⟩ ⟨hi, hp, hO, hvis⟩ K hK
 simp only at hi hp hO hvis
 have lX := hO.lX
 by_cases hlt : i < R.length
 rotate_left
 ·have d1 : decide ((i : Int) < (R.length : Int)) = false := by simpa using hlt
  unfold F5
  (repeat (first | (refine AG ?_; intro K hK) | refine Am ?_ | refine Ag ?_ | (refine Bg rfl rfl ?_; intro K1 hK1; simp only [go_sem, d1]; (first | refine hK1 _ ?_ | refine AE (hK1 _ ?_)); clear hK1 K1) | ((first | refine Ab ?_ | refine Ap ?_); refine hK _ ?_; clear hK K)))
  (refine AA ?_; intro X Y hX hY; simp only [go_sem])
  refine hY ?_
  clear hX hY X Y
  (refine Df ?_; simp only [Ae, AJ, reduceIte, Nat.reduceEqDiff]; (first | refine hK _ ?_ | (clear hK K; refine hK _ ?_) | (clear hK K; clear hK K; refine hK _ ?_) | (clear hK K; clear hK K; clear hK K; refine hK _ ?_) | (clear hK K; clear hK K; clear hK K; clear hK K; refine hK _ ?_) | (clear hK K; clear hK K; clear hK K; clear hK K; clear hK K; refine hK _ ?_)); clear hK K)
  (repeat (first | (refine AG ?_; intro K hK) | refine Am ?_ | refine Ag ?_ | (refine Bg rfl rfl ?_; intro K1 hK1; simp only [go_sem]; (first | refine hK1 _ ?_ | refine AE (hK1 _ ?_)); clear hK1 K1) | ((first | refine Ab ?_ | refine Ap ?_); refine hK _ ?_; clear hK K)))
  ((try refine AF ?_); (try simp only [Ae, AJ]); refine Bm (A8 [1] rfl rfl) ?_; (try simp only [List.set_nil, List.take_nil, List.take_zero, List.map_append, go_sem]); ((try refine AF ?_); (try refine Ab ?_); (try simp only [Ae, AJ]); refine BE (by first | exact .inl rfl | exact .inr rfl) rfl ?_; simp only [VE, EO, Em, EU, Tryz.results43, go_sem, true_and, and_true, Ak]))
  have hie : i = R.length := by omega
  refine ⟨p.O, hO.lO, fun v hv2 => hO.ti.done hp (hvis v (by omega)), rfl⟩
 have d1 : decide ((i : Int) < (R.length : Int)) = true := by simpa using hlt
 unfold F5
 (repeat (first | (refine AG ?_; intro K hK) | refine Am ?_ | refine Ag ?_ | (refine Bg rfl rfl ?_; intro K1 hK1; simp only [go_sem, d1]; (first | refine hK1 _ ?_ | refine AE (hK1 _ ?_)); clear hK1 K1) | ((first | refine Ab ?_ | refine Ap ?_); refine hK _ ?_; clear hK K)))
 (refine AA ?_; intro X Y hX hY; simp only [go_sem])
 refine hX ?_
 clear hX hY X Y
 (repeat (first | (refine AG ?_; intro K hK) | refine Am ?_ | refine Ag ?_ | (refine Bg rfl rfl ?_; intro K1 hK1; simp only [go_sem]; (first | refine hK1 _ ?_ | refine AE (hK1 _ ?_)); clear hK1 K1) | ((first | refine Ab ?_ | refine Ap ?_); refine hK _ ?_; clear hK K)))
 refine OV ?_
 have hiX : i < p.X.length := by omega
 have gx : (A7 p.X)[i]? = some (.v (.int .i64 p.X[i])) := Ax (gE1 hiX)
 have hxi : WF p.X 0 i = p.X[i] := C1 hiX
 by_cases hx : p.X[i] > 0
 ·have d2 : decide (p.X[i] > 0) = true := by simpa using hx
  (repeat (first | (refine AG ?_; intro K hK) | refine Am ?_ | refine Ag ?_ | (refine Bg rfl rfl ?_; intro K1 hK1; simp only [go_sem, gx, A5, lX, d2]; (first | refine hK1 _ ?_ | refine AE (hK1 _ ?_)); clear hK1 K1) | ((first | refine Ab ?_ | refine Ap ?_); refine hK _ ?_; clear hK K)))
  (refine AA ?_; intro X Y hX hY; simp only [go_sem])
  refine hX ?_
  clear hX hY X Y
  (refine Df ?_; simp only [Ae, AJ, reduceIte, Nat.reduceEqDiff]; (first | refine hK _ ?_ | (clear hK K; refine hK _ ?_) | (clear hK K; clear hK K; refine hK _ ?_) | (clear hK K; clear hK K; clear hK K; refine hK _ ?_) | (clear hK K; clear hK K; clear hK K; clear hK K; refine hK _ ?_) | (clear hK K; clear hK K; clear hK K; clear hK K; clear hK K; refine hK _ ?_)); clear hK K)
  (repeat (first | (refine AG ?_; intro K hK) | refine Am ?_ | refine Ag ?_ | (refine Bg rfl rfl ?_; intro K1 hK1; simp only [go_sem]; (first | refine hK1 _ ?_ | refine AE (hK1 _ ?_)); clear hK1 K1) | ((first | refine Ab ?_ | refine Ap ?_); refine hK _ ?_; clear hK K)))
  ((try refine Ab ?_); (try refine Ap ?_); try simp only [Ae])
  refine hK _ (i + 1, p, J, J2) ⟨by simp only; omega, hp, hO, fun v hv => ?_⟩ (by simp only; omega) ?_
  rotate_left
  ·unfold F5
   (refine BP ?_; simp only [Dq, go_sem]; try simp)
  rcases Nat.lt_or_ge v i with h | h
  ·exact hvis v h
  have : v = i := by simp only at hv; omega
  subst this; rw [hxi]; exact hx
 have d2 : decide (p.X[i] > 0) = false := by simpa using hx
 have hx0 : WF p.X 0 i = 0 := by have := hO.ti.nn i; have e : p.S.idx i = WF p.X 0 i := rfl; omega
 (repeat (first | (refine AG ?_; intro K hK) | refine Am ?_ | refine Ag ?_ | (refine Bg rfl rfl ?_; intro K1 hK1; simp only [go_sem, gx, A5, lX, d2]; (first | refine hK1 _ ?_ | refine AE (hK1 _ ?_)); clear hK1 K1) | ((first | refine Ab ?_ | refine Ap ?_); refine hK _ ?_; clear hK K)))
 (refine AA ?_; intro X Y hX hY; simp only [go_sem])
 refine hY ?_
 clear hX hY X Y
 (repeat (first | (refine AG ?_; intro K hK) | refine Am ?_ | refine Ag ?_ | (refine Bg rfl rfl ?_; intro K1 hK1; simp only [go_sem, hp, List.length_nil, Nat.zero_mul, List.take_zero, List.nil_append, List.map_nil]; (first | refine hK1 _ ?_ | refine AE (hK1 _ ?_)); clear hK1 K1) | ((first | refine Ab ?_ | refine Ap ?_); refine hK _ ?_; clear hK K)))
 refine OW ?_
 simp only [Ae]
 refine hK _ ?_
 clear hK K
 (repeat (first | (refine AG ?_; intro K hK) | refine Am ?_ | refine Ag ?_ | (refine Bg rfl rfl ?_; intro K1 hK1; simp only [go_sem]; (first | refine hK1 _ ?_ | refine AE (hK1 _ ?_)); clear hK1 K1) | ((first | refine Ab ?_ | refine Ap ?_); refine hK _ ?_; clear hK K)))
 refine Av (A8 [0, 1, 2, 3, 4, 7] rfl rfl) ?_
 (try simp only [List.set_nil, List.take_nil, List.take_zero, List.map_append, go_sem])
 (try simp only [Ak])
 refine A6 (fun x : Bool × Tst × List Int × List Ar => F5 R t R.length i x.2.1 x.2.2.1 x.2.2.2) (fun x => Hd (WG t R) R.length x.1 x.2.1 /\ (∀ v, v < i -> 0 < WF x.2.1.X 0 v) /\ (0 < WF x.2.1.X 0 i \/ x.1 = true /\ x.2.1.pt = [(i, 0)])) (fun x => x.2.1.ms x.1) (true, { p with pt := [(i, 0)] }, J, []) ?_ ?_ ?_
 ·exact ⟨hO.root hp hlt hx0, hvis, .inr ⟨rfl, rfl⟩⟩
 ·unfold F5
  (refine BP ?_; simp only [Dq, go_sem]; try simp)
 rintro ⟨b, p, J, J2⟩ ⟨hH, hvis, hri⟩ K hK
 simp only at hH hvis hri
 rcases List.eq_nil_or_concat p.pt with e | ⟨P, ⟨v, k⟩, e⟩
 ·cases b with
  | true => obtain ⟨P1, t', q, e2, _⟩ := hH; rw [e] at e2; simp at e2
  | false =>
   have hB : WH (WG t R) R.length p := hH
   have hxi2 : 0 < WF p.X 0 i := by
    rcases hri with h | ⟨h, _⟩
    ·exact h
    cases h
   have d3 : decide ((p.pt.length : Int) > 0) = false := by simp [e]
   unfold F5
   (repeat (first | (refine AG ?_; intro K hK) | refine Am ?_ | refine Ag ?_ | (refine Bg rfl rfl ?_; intro K1 hK1; simp only [go_sem, d3]; (first | refine hK1 _ ?_ | refine AE (hK1 _ ?_)); clear hK1 K1) | ((first | refine Ab ?_ | refine Ap ?_); refine hK _ ?_; clear hK K)))
   (refine AA ?_; intro X Y hX hY; simp only [go_sem])
   refine hY ?_
   clear hX hY X Y
   (refine Df ?_; simp only [Ae, AJ, reduceIte, Nat.reduceEqDiff]; (first | refine hK _ ?_ | (clear hK K; refine hK _ ?_) | (clear hK K; clear hK K; refine hK _ ?_) | (clear hK K; clear hK K; clear hK K; refine hK _ ?_) | (clear hK K; clear hK K; clear hK K; clear hK K; refine hK _ ?_) | (clear hK K; clear hK K; clear hK K; clear hK K; clear hK K; refine hK _ ?_)); clear hK K)
   (repeat (first | (refine AG ?_; intro K hK) | refine Am ?_ | refine Ag ?_ | (refine Bg rfl rfl ?_; intro K1 hK1; simp only [go_sem]; (first | refine hK1 _ ?_ | refine AE (hK1 _ ?_)); clear hK1 K1) | ((first | refine Ab ?_ | refine Ap ?_); refine hK _ ?_; clear hK K)))
   ((try refine Ab ?_); (try refine Ap ?_); try simp only [Ae])
   refine hK _ (i + 1, p, J, J2) ⟨by simp only; omega, e, hB.1, fun v hv => ?_⟩ (by simp only; omega) ?_
   rotate_left
   ·unfold F5
    (refine BP ?_; simp only [Dq, go_sem]; try simp)
   rcases Nat.lt_or_ge v i with h | h
   ·exact hvis v h
   have : v = i := by simp only at hv; omega
   subst this; exact hxi2
 rw [List.concat_eq_append] at e
 have hKo := hK
 generalize hm0 : p.ms b = m0 at hKo
 have eL : p.pt.length = P.length + 1 := by rw [e]; simp
 have hpl : P.length + 1 <= R.length := by
  rw [<- eL]
  cases b with
  | true =>
   obtain ⟨P1, t1, _, _, hM, _⟩ := HdA.visit (show HdA (WG t R) R.length p from hH)
   exact hM.1.len.1
  | false => exact (show WH (WG t R) R.length p from hH).1.len.1
 have d3 : decide (((P.length + 1 : Nat) : Int) > 0) = true := by simp
 have e5 : ((P.length + 1 : Nat) : Int) - 1 = (P.length : Int) := by omega
 have c0 := MW P v k J2
 have c1 := Qz P v k J2
 rw [<- e] at c0 c1
 have hl6 : P.length + 1 <= (p.pt.map WJ ++ J2).length := by rw [List.length_append, List.length_map, eL]; omega
 unfold F5
 rw [eL]
 (repeat (first | (refine AG ?_; intro K hK) | refine Am ?_ | refine Ag ?_ | (refine Bg rfl rfl ?_; intro K1 hK1; simp only [go_sem, d3]; (first | refine hK1 _ ?_ | refine AE (hK1 _ ?_)); clear hK1 K1) | ((first | refine Ab ?_ | refine Ap ?_); refine hK _ ?_; clear hK K)))
 (refine AA ?_; intro X Y hX hY; simp only [go_sem])
 refine hX ?_
 clear hX hY X Y
 (repeat (first | (refine AG ?_; intro K hK) | refine Am ?_ | refine Ag ?_ | (refine Bg rfl rfl ?_; intro K1 hK1; simp only [go_sem, e5, Ah, c0, c1, Nat.add_zero]; (first | refine hK1 _ ?_ | refine AE (hK1 _ ?_)); clear hK1 K1) | ((first | refine Ab ?_ | refine Ap ?_); refine hK _ ?_; clear hK K)))
 refine Hw hK (fun x : Tst × List Int × List Ar => Iu R t R.length i (P.length * 2) v x.1 x.2.1 x.2.2) (fun x => Mid (WG t R) R.length x.1 P v k /\ 2 * x.1.X.count 0 + (P.length + 1) <= p.ms b /\ (∀ u, u < i -> 0 < WF x.1.X 0 u) /\ 0 < WF x.1.X 0 i) ?_ ?_
 ·clear hK; intro hK
  cases b with
  | true =>
   have hA : HdA (WG t R) R.length p := hH
   have lX := (show Tst.Ok _ _ { p with pt := _ } from hA.choose_spec.choose_spec.choose_spec.2.2.2.1).lX
   have lW := (show Tst.Ok _ _ { p with pt := _ } from hA.choose_spec.choose_spec.choose_spec.2.2.2.1).lW
   have lop := (show Tst.Ok _ _ { p with pt := _ } from hA.choose_spec.choose_spec.choose_spec.2.2.2.1).len.2.1
   simp only at lX lW lop
   obtain ⟨P1, t1, q1, q2, hM, hms, hcn⟩ := hA.visit
   rw [e] at q1
   obtain ⟨rfl, q3⟩ := List.append_inj' q1 rfl
   cases q3
   have d4 : (((0 : Nat) : Int) == 0) = true := rfl
   have hvl : v < p.X.length := by omega
   have op1 := Jl p.op v J
   have hopl : p.op.length <= (p.op.map Int.ofNat ++ J).length := by simp
   (repeat (first | (refine AG ?_; intro K hK) | refine Am ?_ | refine Ag ?_ | (refine Bg rfl rfl ?_; intro K1 hK1; simp only [go_sem, d4]; (first | refine hK1 _ ?_ | refine AE (hK1 _ ?_)); clear hK1 K1) | ((first | refine Ab ?_ | refine Ap ?_); refine hK _ ?_; clear hK K)))
   (refine AA ?_; intro X Y hX hY; simp only [go_sem, d4])
   refine hX ?_
   clear hX hY X Y
   (repeat (first | (refine AG ?_; intro K hK) | refine Am ?_ | refine Ag ?_ | (refine Bg rfl rfl ?_; intro K1 hK1; simp only [go_sem, A5, lX, lW, ST.put, Dr, A0.cells, B3, op1]; (first | refine hK1 _ ?_ | refine AE (hK1 _ ?_)); clear hK1 K1) | ((first | refine Ab ?_ | refine Ap ?_); refine hK _ ?_; clear hK K)))
   ((try refine Ab ?_); (try refine Ap ?_); try simp only [Ae])
   refine hK _ ({ p with X := p.X.set v (p.c + 1), W := p.W.set v (p.c + 1), op := p.op ++ [v], c := p.c + 1 }, [], J2) ⟨hM, ?_, fun u hu => MX hvl (hvis u hu), ?_⟩ ?_
   ·simp only; omega
   ·rcases hri with h | ⟨_, h⟩
    ·exact MX hvl h
    rw [e] at h
    have hvi : v = i := by
     have := List.append_inj' (t₁ := [(v, 0)]) (s₂ := []) h rfl
     cases this.2; rfl
    subst hvi
    simp only
    rw [DG hvl, BZ]; omega
   refine Le.trans (A8 [0, 1, 2, 3, 7, 5] rfl rfl) ?_
   (try simp only [List.set_nil, List.take_nil, List.take_zero, List.map_append, go_sem])
   (try simp only [Ak, F6])
   simp only [Iu, eL, List.map_append, List.map_cons, List.map_nil, List.length_append, List.length_cons, List.length_nil]
   (refine BP ?_; simp only [Dq, go_sem]; try simp)
  | false =>
   have hB : WH (WG t R) R.length p := hH
   have hk1 := hB.2 v k (by rw [e]; simp)
   have d4 : ((k : Int) == 0) = false := by simp; omega
   (repeat (first | (refine AG ?_; intro K hK) | refine Am ?_ | refine Ag ?_ | (refine Bg rfl rfl ?_; intro K1 hK1; simp only [go_sem, d4]; (first | refine hK1 _ ?_ | refine AE (hK1 _ ?_)); clear hK1 K1) | ((first | refine Ab ?_ | refine Ap ?_); refine hK _ ?_; clear hK K)))
   (refine AA ?_; intro X Y hX hY; simp only [go_sem, d4])
   refine hY ?_
   clear hX hY X Y
   ((try refine Ab ?_); (try refine Ap ?_); try simp only [Ae])
   refine hK _ (p, J, J2) ⟨⟨hB.1, e, fun g j hg => hB.2 g j (by rw [e]; exact List.mem_append_left _ hg)⟩, ?_, hvis, ?_⟩ ?_
   ·simp only [Tst.ms, eL]; simp
   ·rcases hri with h | ⟨h, _⟩
    ·exact h
    cases h
   simp only [Iu, eL]
   (refine BP ?_; simp only [Dq, go_sem]; try simp)
 clear hK
 clear c0 c1 hl6 eL e hH hri hvis
 rw [hm0]
 clear hm0
 rintro ⟨p, J, J2⟩ ⟨hM, hms, hvis, hxi⟩
 simp only at hM hms hvis hxi
 have hvn : v < R.length := hM.lt
 have hrv := hr _ (gE6 hvn)
 unfold Iu
 (repeat (first | (refine AG ?_; intro K hK) | refine Am ?_ | refine Ag ?_ | (refine Bg rfl rfl ?_; intro K1 hK1; simp only [go_sem]; (first | refine hK1 _ ?_ | refine AE (hK1 _ ?_)); clear hK1 K1) | ((first | refine Ab ?_ | refine Ap ?_); refine hK _ ?_; clear hK K)))
 (refine Ad rfl ?_; intro K1 hK1; refine (A2 (ids := []) (Hv R v t hvn (by omega) (by omega)) rfl rfl (by simp only [go_sem]) (by kernel_rfl) (by (simp only [List.append_nil, go_sem]) <;> rfl) ?_).stp)
 rintro _ _ ⟨rfl, rfl⟩
 (simp only [Aq, Bc, List.append_nil, List.nil_append, List.length_map, go_sem]; refine hK1 _ ?_; clear hK1 K1)
 (repeat (first | (refine AG ?_; intro K hK) | refine Am ?_ | refine Ag ?_ | (refine Bg rfl rfl ?_; intro K1 hK1; simp only [go_sem]; (first | refine hK1 _ ?_ | refine AE (hK1 _ ?_)); clear hK1 K1) | ((first | refine Ab ?_ | refine Ap ?_); refine hK _ ?_; clear hK K)))
 obtain ⟨A, hA⟩ : ∃ A, A = Ch t R[v] := ⟨_, rfl⟩
 have hE : WG t R v = A.map fun a => a.2.toNat := by
  unfold WG
  rw [hA, gE2, gE1 hvn]; rfl
 have hAb : ∀ a ∈ A, 0 <= a.2 /\ a.2 < (R.length : Int) := fun a ha => by
  have h1 : a ∈ R[v] := by
   rw [hA] at ha; unfold Ch at ha
   split at ha
   ·exact (List.takeWhile_sublist _).subset ha
   exact ha
  have h2 := (gE4 hv).1.2.2.2 _ (gE6 hvn) a h1
  exact ⟨h2.2.2.1, h2.2.2.2⟩
 have hAl : A.length <= 1000000 := by
  have : A.length <= R[v].length := by
   rw [hA]; unfold Ch
   split
   ·exact (List.takeWhile_sublist _).length_le
   exact Nat.le_refl _
  omega
 rw [<- hA]
 refine A6 (fun x : Nat × Tst => LH R t R.length i (P.length * 2) v A x.2 J J2) (fun x => Mid (WG t R) R.length x.2 P v x.1 /\ x.2.X = p.X) (fun x => A.length - x.1) (k, p) ?_ ?_ ?_
 ·exact ⟨hM, rfl⟩
 ·simp only [LH]
  (refine BP ?_; simp only [Dq, go_sem]; try simp)
 rintro ⟨k, q⟩ ⟨hM, hqX⟩ K hK
 simp only at hM hqX
 rw [<- hqX] at hms hvis hxi
 have eP := hM.2.1
 have eL : q.pt.length = P.length + 1 := by rw [eP]; simp
 have lX := hM.1.lX
 have lW := hM.1.lW
 have lO := hM.1.lO
 have c0 := MW P v k J2
 have c1 := Qz P v k J2
 rw [<- eP] at c0 c1
 by_cases hlt : k < A.length
 ·have d1 : decide ((k : Int) < (A.length : Int)) = true := by simpa using hlt
  have ha1 := Dk hlt
  obtain ⟨tn, htn⟩ : ∃ tn : Nat, A[k].2 = tn := ⟨A[k].2.toNat, by have := (hAb _ (gE6 hlt)).1; omega⟩
  have htl : tn < R.length := by have := (hAb _ (gE6 hlt)).2; omega
  have hEk : (WG t R v)[k]? = some tn := by
   rw [hE, List.getElem?_map, gE1 hlt, Option.map_some, htn]; rfl
  rw [htn] at ha1
  have ek : (k : Int) + 1 = ((k + 1 : Nat) : Int) := by omega
  have ts : (As (q.pt.map WJ ++ J2)).set (P.length * 2 + 1) (.v (.int .i64 ((k + 1 : Nat) : Int))) = As ((P ++ [(v, k + 1)]).map WJ ++ J2) := by rw [eP]; exact Rp P v k J2 (k + 1)
  have gx : (A7 q.X)[tn]? = some (.v (.int .i64 q.X[tn])) := Ax (gE1 (by omega))
  have fx : WF q.X 0 tn = q.X[tn] := C1 (by omega)
  have hl5 : P.length + 1 <= (q.pt.map WJ ++ J2).length := by rw [List.length_append, List.length_map, eL]; omega
  simp only [LH, eL]
  (repeat (first | (refine AG ?_; intro K hK) | refine Am ?_ | refine Ag ?_ | (refine Bg rfl rfl ?_; intro K1 hK1; simp only [go_sem, c1, d1, A3, Al, Nat.add_zero]; (first | refine hK1 _ ?_ | refine AE (hK1 _ ?_)); clear hK1 K1) | ((first | refine Ab ?_ | refine Ap ?_); refine hK _ ?_; clear hK K)))
  (refine AA ?_; intro X Y hX hY; simp only [go_sem])
  refine hX ?_
  clear hX hY X Y
  (repeat (first | (refine AG ?_; intro K hK) | refine Am ?_ | refine Ag ?_ | (refine Bg rfl rfl ?_; intro K1 hK1; simp only [go_sem, c1, ha1, ek, ts, gx, lX, A5, Ah, A3, Al, Nat.add_zero, ST.put, Dr, A0.cells]; (first | refine hK1 _ ?_ | refine AE (hK1 _ ?_)); clear hK1 K1) | ((first | refine Ab ?_ | refine Ap ?_); refine hK _ ?_; clear hK K)))
  by_cases h0 : WF q.X 0 tn = 0
  ·have d2 : (q.X[tn] == 0) = true := by rw [<- fx]; simpa using h0
   have tp := Pe (P ++ [(v, k + 1)]) tn J2
   rw [show (P ++ [(v, k + 1)]).length = P.length + 1 from by simp] at tp
   have hpu := hM.push hEk htl h0
   have hl6 : P.length + 1 <= ((P ++ [(v, k + 1)]).map WJ ++ J2).length := by simp
   (refine AA ?_; intro X Y hX hY; simp only [go_sem, d2])
   refine hX ?_
   clear hX hY X Y
   (repeat (first | (refine AG ?_; intro K hK) | refine Am ?_ | refine Ag ?_ | (refine Bg rfl rfl ?_; intro K1 hK1; simp only [go_sem, tp, Ah]; (first | refine hK1 _ ?_ | refine AE (hK1 _ ?_)); clear hK1 K1) | ((first | refine Ab ?_ | refine Ap ?_); refine hK _ ?_; clear hK K)))
   (refine Df ?_; simp only [Ae, AJ, reduceIte, Nat.reduceEqDiff])
   refine hKo _ (true, { q with pt := P ++ [(v, k + 1)] ++ [(tn, 0)] }, J, []) ⟨hpu, hvis, .inl hxi⟩ ?_ ?_
   ·simp only [Tst.ms, if_true, List.length_append, List.length_cons, List.length_nil]
    omega
   refine Le.trans (A8 [0, 1, 2, 3, 4, 7] rfl rfl) ?_
   (try simp only [List.set_nil, List.take_nil, List.take_zero, List.map_append, go_sem])
   (try simp only [Ak, F6])
   simp only [F5, List.map_append, List.map_cons, List.map_nil, List.length_append, List.length_cons, List.length_nil]
   (refine BP ?_; simp only [Dq, go_sem]; try simp)
  have d2 : (q.X[tn] == 0) = false := by rw [<- fx]; simpa using h0
  have hpos : 0 < WF q.X 0 tn := by have := hM.1.ti.nn tn; have e : q.S.idx tn = WF q.X 0 tn := rfl; omega
  have go1 : (A7 q.O)[tn]? = some (.v (.int .i64 q.O[tn])) := Ax (gE1 (by omega))
  have fo : WF q.O (-1) tn = q.O[tn] := C1 (by omega)
  have gw : (A7 q.W)[v]? = some (.v (.int .i64 q.W[v])) := Ax (gE1 (by omega))
  have fw : WF q.W 0 v = q.W[v] := C1 (by omega)
  (refine AA ?_; intro X Y hX hY; simp only [go_sem, d2])
  refine hY ?_
  clear hX hY X Y
  by_cases ho : WF q.O (-1) tn < 0
  rotate_left
  ·have d3 : decide (q.O[tn] < 0) = false := by rw [<- fo]; simpa using ho
   (repeat (first | (refine AG ?_; intro K hK) | refine Am ?_ | refine Ag ?_ | (refine Bg rfl rfl ?_; intro K1 hK1; simp only [go_sem, go1, lO, A5, d3]; (first | refine hK1 _ ?_ | refine AE (hK1 _ ?_)); clear hK1 K1) | ((first | refine Ab ?_ | refine Ap ?_); refine hK _ ?_; clear hK K)))
   (refine AA ?_; intro X Y hX hY; simp only [go_sem])
   refine hY ?_
   clear hX hY X Y
   (repeat (first | (refine AG ?_; intro K hK) | refine Am ?_ | refine Ag ?_ | (refine Bg rfl rfl ?_; intro K1 hK1; simp only [go_sem]; (first | refine hK1 _ ?_ | refine AE (hK1 _ ?_)); clear hK1 K1) | ((first | refine Ab ?_ | refine Ap ?_); refine hK _ ?_; clear hK K)))
   ((try refine Ab ?_); (try refine Ap ?_); try simp only [Ae])
   refine hK _ (k + 1, { q with pt := P ++ [(v, k + 1)] }) ⟨hM.edge1 hEk hpos (by omega), hqX⟩ (by simp only; omega) ?_
   simp only [LH]
   (refine BP ?_; simp only [Dq, go_sem]; try simp)
  have d3 : decide (q.O[tn] < 0) = true := by rw [<- fo]; simpa using ho
  (repeat (first | (refine AG ?_; intro K hK) | refine Am ?_ | refine Ag ?_ | (refine Bg rfl rfl ?_; intro K1 hK1; simp only [go_sem, go1, lO, A5, d3]; (first | refine hK1 _ ?_ | refine AE (hK1 _ ?_)); clear hK1 K1) | ((first | refine Ab ?_ | refine Ap ?_); refine hK _ ?_; clear hK K)))
  (refine AA ?_; intro X Y hX hY; simp only [go_sem])
  refine hX ?_
  clear hX hY X Y
  (repeat (first | (refine AG ?_; intro K hK) | refine Am ?_ | refine Ag ?_ | (refine Bg rfl rfl ?_; intro K1 hK1; simp only [go_sem]; (first | refine hK1 _ ?_ | refine AE (hK1 _ ?_)); clear hK1 K1) | ((first | refine Ab ?_ | refine Ap ?_); refine hK _ ?_; clear hK K)))
  (refine AD [] (.m 0 0 0 (.m 1 0 0 (.m 2 0 0 (.m 3 0 0 (.m 4 0 0 (.m 5 1 12 (.m 6 0 0 (.m 7 0 0 (.m 8 0 0 (.m 9 1 12 (.m 10 0 0 (.m 11 0 0 (.a 12 .e))))))))))))) (by kernel_rfl) (by kernel_rfl) (by intro c st h; simp [Ae, AJ, VD] at h) ?_)
  (repeat (first | ((first | refine W2 rfl rfl rfl ?_ | refine W3 rfl rfl rfl rfl rfl rfl rfl ?_ | refine OZ rfl rfl rfl ?_); intro K1 hK1; simp only [go_sem, gw, gx, lW, lX, A5]; (first | refine hK1 _ ?_ | refine AE (hK1 _ ?_)); clear hK1 K1) | (refine Cg ⟨by simp, by simp, ?_⟩; refine hK _ ?_; clear hK K)))
  (refine W5 rfl rfl rfl rfl ?_; intro K1 hK1; refine B4 rfl ?_; simp only [go_sem, ST.put, Dr, A0.cells, B3, A5, lW]; (first | refine hK1 _ ?_ | refine AE (hK1 _ ?_)); clear hK1 K1)
  refine Cg ⟨by simp, by simp, ?_⟩
  simp only [Ae, AJ]
  refine hK _ (k + 1, { q with W := q.W.set v (WI (WF q.W 0 v) (WF q.X 0 tn)), pt := P ++ [(v, k + 1)] }) ⟨hM.edge2 hEk hpos ho, hqX⟩ (by simp only; omega) ?_
  simp only [LH, WI, fw, fx, List.map_append, List.map_cons, List.map_nil, List.length_append, List.length_cons, List.length_nil]
  (refine BP ?_; simp only [Dq, go_sem]; try simp)
 have d1 : decide ((k : Int) < (A.length : Int)) = false := by simpa using hlt
 have hkE : (WG t R v).length <= k := by rw [hE, List.length_map]; omega
 have gw : (A7 q.W)[v]? = some (.v (.int .i64 q.W[v])) := Ax (gE1 (by omega))
 have fw : WF q.W 0 v = q.W[v] := C1 (by omega)
 have gx : (A7 q.X)[v]? = some (.v (.int .i64 q.X[v])) := Ax (gE1 (by omega))
 have fx : WF q.X 0 v = q.X[v] := C1 (by omega)
 simp only [LH, eL]
 (repeat (first | (refine AG ?_; intro K hK) | refine Am ?_ | refine Ag ?_ | (refine Bg rfl rfl ?_; intro K1 hK1; simp only [go_sem, c1, d1, A3, Al, Nat.add_zero]; (first | refine hK1 _ ?_ | refine AE (hK1 _ ?_)); clear hK1 K1) | ((first | refine Ab ?_ | refine Ap ?_); refine hK _ ?_; clear hK K)))
 (refine AA ?_; intro X Y hX hY; simp only [go_sem])
 refine hY ?_
 clear hX hY X Y
 (refine Df ?_; simp only [Ae, AJ, reduceIte, Nat.reduceEqDiff]; (first | refine hK _ ?_ | (clear hK K; refine hK _ ?_) | (clear hK K; clear hK K; refine hK _ ?_) | (clear hK K; clear hK K; clear hK K; refine hK _ ?_) | (clear hK K; clear hK K; clear hK K; clear hK K; refine hK _ ?_) | (clear hK K; clear hK K; clear hK K; clear hK K; clear hK K; refine hK _ ?_)); clear hK K)
 (repeat (first | (refine AG ?_; intro K hK) | refine Am ?_ | refine Ag ?_ | (refine Bg rfl rfl ?_; intro K1 hK1; simp only [go_sem]; (first | refine hK1 _ ?_ | refine AE (hK1 _ ?_)); clear hK1 K1) | ((first | refine Ab ?_ | refine Ap ?_); refine hK _ ?_; clear hK K)))
 (refine Ao 8 [(0, 0), (1, 0), (2, 0), (3, 1), (4, 0), (5, 0), (6, 0), (7, 1), (8, 2)] (by kernel_rfl) (by kernel_rfl) (by intro c st h; simp [Ae, AJ, VD] at h) ?_)
 (repeat (first | ((first | refine SX rfl rfl rfl ?_ | refine SY rfl rfl rfl ?_); intro K1 hK1; simp only [go_sem, gw, gx, lW, lX, A5]; (first | refine hK1 _ ?_ | refine AE (hK1 _ ?_)); clear hK1 K1) | (refine SZ rfl rfl rfl rfl ?_; intro K1 hK1; simp only [go_sem, gw, gx, lW, lX, A5]; (first | refine hK1 _ ?_ | refine AE (hK1 _ ?_)); clear hK1 K1) | (refine Ie ?_; refine hK _ ?_; clear hK K)))
 refine Hw hK (fun x : Tst × List Int => Iu R t R.length i (P.length * 2) v x.1 x.2 J2) (fun x => x.1.pt = q.pt /\ x.1.W = q.W /\ x.1.X = q.X /\ WH (WG t R) R.length { x.1 with W := EF q.W v P, pt := P }) ?_ ?_
 ·clear hK; intro hK
  by_cases hl : WF q.W 0 v = WF q.X 0 v
  rotate_left
  ·have d2 : (q.W[v] == q.X[v]) = false := by rw [<- fw, <- fx]; simpa using hl
   (refine AA ?_; intro X Y hX hY; simp only [go_sem, d2])
   refine hY ?_
   clear hX hY X Y
   ((try refine Ab ?_); (try refine Ap ?_); try simp only [Ae])
   refine hK _ (q, J) ⟨rfl, rfl, rfl, hM.pop hkE hl⟩ ?_
   simp only [Iu, eL]
   (refine BP ?_; simp only [Dq, go_sem]; try simp)
  have d2 : (q.W[v] == q.X[v]) = true := by rw [<- fw, <- fx]; simpa using hl
  (refine AA ?_; intro X Y hX hY; simp only [go_sem, d2])
  refine hX ?_
  clear hX hY X Y
  obtain ⟨O1, O2, ho, ho1, ho2, hob⟩ := hM.split
  have hC := hM.close hkE hl ho
  have hopn := hM.1.len.2.1
  have hgj : ∀ j, j < q.op.length -> (q.op.map Int.ofNat ++ J)[j]? = q.op[j]?.map Int.ofNat := fun j hj => by
   rw [gEa (by simpa using hj), List.getElem?_map]
  have hO1 : O1.length < q.op.length := by rw [ho]; simp
  have hcl := Pb (q.op.map Int.ofNat ++ J) q.O q.op.length O1.length v hO1 (by simp) (by rw [hgj _ hO1, ho]; simp)
   (fun j hj1 hj2 => by
    rw [hgj j hj2, ho, gEb (by omega)]
    obtain ⟨d, hd⟩ : ∃ d, j - O1.length = d + 1 := ⟨j - O1.length - 1, by omega⟩
    rw [hd, List.getElem?_cons_succ]
    intro hx
    obtain ⟨y, hy1, hy2⟩ := Option.map_eq_some_iff.1 hx
    have hyv : y = v := Int.ofNat.inj hy2
    have := ho2 y (gE9 hy1)
    rw [hyv] at this
    omega)
   (fun j x hj1 hj2 hx => by
    rw [hgj j hj2] at hx
    obtain ⟨y, hy1, hy2⟩ := Option.map_eq_some_iff.1 hx
    have := hob y (gE9 hy1)
    rw [<- hy2, lO]
    exact ⟨Int.natCast_nonneg y, Int.ofNat_lt.2 this⟩)
   (by omega) (by omega)
  have hseg : ((q.op.map Int.ofNat ++ J).drop O1.length).take (q.op.length - O1.length) = (v :: O2).map Int.ofNat := by
   rw [ho, List.map_append, List.append_assoc, List.drop_append_of_le_length (by simp), List.drop_of_length_le (by simp), List.nil_append, List.take_append_of_le_length (by simp), gE7 (by simp)]
  rw [hseg, lO] at hcl
  have hJ : q.op.map Int.ofNat ++ J = O1.map Int.ofNat ++ ((v :: O2).map Int.ofNat ++ J) := by rw [ho, List.map_append, List.append_assoc]
  (repeat (first | (refine AG ?_; intro K hK) | refine Am ?_ | refine Ag ?_ | (refine Bg rfl rfl ?_; intro K1 hK1; simp only [go_sem]; (first | refine hK1 _ ?_ | refine AE (hK1 _ ?_)); clear hK1 K1) | ((first | refine Ab ?_ | refine Ap ?_); refine hK _ ?_; clear hK K)))
  (refine Ad rfl ?_; intro K1 hK1; refine AX (ids := []) [4, 1] (hcl) rfl rfl (by simp only [go_sem]) (by first | assumption | kernel_rfl) rfl rfl (by (simp only [List.map_append, List.append_nil, go_sem]) <;> rfl) (by (simp only [VC, Aw, Ak, go_sem]) <;> rfl) ?_ ?_)
  ·rintro _ _ ⟨rfl, rfl⟩; rfl
  rintro _ _ ⟨rfl, rfl⟩
  (simp only [Aq, Bc, Aw, CT, List.append_nil, List.nil_append, List.length_map, go_sem]; refine hK1 _ ?_; clear hK1 K1)
  (repeat (first | (refine AG ?_; intro K hK) | refine Am ?_ | refine Ag ?_ | (refine Bg rfl rfl ?_; intro K1 hK1; simp only [go_sem]; (first | refine hK1 _ ?_ | refine AE (hK1 _ ?_)); clear hK1 K1) | ((first | refine Ab ?_ | refine Ap ?_); refine hK _ ?_; clear hK K)))
  ((try refine Ab ?_); (try refine Ap ?_); try simp only [Ae])
  refine hK _ ({ q with O := Eg q.O ((v :: O2).map Int.ofNat) (GF v ((v :: O2).map Int.ofNat)), op := O1 }, (v :: O2).map Int.ofNat ++ J) ⟨rfl, rfl, rfl, hC⟩ ?_
  rw [hJ]
  simp only [Iu, eL]
  (refine BP ?_; simp only [Dq, go_sem]; try simp)
 clear hK
 rintro ⟨r, J3⟩ ⟨hr1, hr2, hr3, hB⟩
 simp only at hr1 hr2 hr3 hB
 rw [<- hr3] at hms hvis hxi
 have rL : r.pt.length = P.length + 1 := by rw [hr1, eL]
 have rP : r.pt = P ++ [(v, k)] := by rw [hr1, eP]
 have rW : r.W.length = R.length := by rw [hr2, lW]
 have hl7 : P.length + 1 <= (r.pt.map WJ ++ J2).length := by rw [List.length_append, List.length_map, rL]; omega
 have rJ : r.pt.map WJ ++ J2 = P.map WJ ++ (WJ (v, k) :: J2) := by rw [rP, List.map_append, List.append_assoc]; rfl
 simp only [Iu, rL]
 rcases List.eq_nil_or_concat P with hP | ⟨P', ⟨u, j⟩, hP⟩
 ·have hPl : P.length = 0 := by rw [hP]; rfl
  have d5 : decide ((P.length : Int) > 0) = false := by rw [hPl]; rfl
  (repeat (first | (refine AG ?_; intro K hK) | refine Am ?_ | refine Ag ?_ | (refine Bg rfl rfl ?_; intro K1 hK1; simp only [go_sem, e5, d5, Ah]; (first | refine hK1 _ ?_ | refine AE (hK1 _ ?_)); clear hK1 K1) | ((first | refine Ab ?_ | refine Ap ?_); refine hK _ ?_; clear hK K)))
  (refine AA ?_; intro X Y hX hY; simp only [go_sem])
  refine hY ?_
  clear hX hY X Y
  ((try refine Ab ?_); (try refine Ap ?_); try simp only [Ae])
  refine hKo _ (false, { r with W := EF q.W v P, pt := P }, J3, WJ (v, k) :: J2) ⟨hB, hvis, .inl hxi⟩ ?_ ?_
  ·simp only [Tst.ms]; simp; omega
  have eW : EF q.W v P = r.W := by unfold EF; rw [hP]; exact hr2.symm
  rw [eW]
  rw [rJ]
  simp only [F5]
  (refine BP ?_; simp only [Dq, go_sem]; try simp)
 rw [List.concat_eq_append] at hP
 have hPl : P.length = P'.length + 1 := by rw [hP]; simp
 have d5 : decide ((P.length : Int) > 0) = true := by rw [hPl]; simp
 have e6 : (P.length : Int) - 1 = (P'.length : Int) := by omega
 have c6 := MW P' u j (WJ (v, k) :: J2)
 rw [<- hP, <- rJ] at c6
 have hun : u < R.length := hM.1.ti.lt u (hM.1.ti.pop u j (by show (u, j) ∈ q.pt; rw [eP, hP]; simp)).1
 have gw2 : (A7 r.W)[v]? = some (.v (.int .i64 r.W[v])) := Ax (gE1 (by omega))
 have gu2 : (A7 r.W)[u]? = some (.v (.int .i64 r.W[u])) := Ax (gE1 (by omega))
 have fw2 : WF r.W 0 v = r.W[v] := C1 (by omega)
 have fu2 : WF r.W 0 u = r.W[u] := C1 (by omega)
 have eW : EF q.W v P = r.W.set u (WI r.W[u] r.W[v]) := by
  rw [<- fw2, <- fu2, hr2]; unfold EF; rw [hP]; simp
 (repeat (first | (refine AG ?_; intro K hK) | refine Am ?_ | refine Ag ?_ | (refine Bg rfl rfl ?_; intro K1 hK1; simp only [go_sem, e5, d5, Ah]; (first | refine hK1 _ ?_ | refine AE (hK1 _ ?_)); clear hK1 K1) | ((first | refine Ab ?_ | refine Ap ?_); refine hK _ ?_; clear hK K)))
 (refine AA ?_; intro X Y hX hY; simp only [go_sem])
 refine hX ?_
 clear hX hY X Y
 (repeat (first | (refine AG ?_; intro K hK) | refine Am ?_ | refine Ag ?_ | (refine Bg rfl rfl ?_; intro K1 hK1; simp only [go_sem, e6, c6, Ah, Nat.add_zero]; (first | refine hK1 _ ?_ | refine AE (hK1 _ ?_)); clear hK1 K1) | ((first | refine Ab ?_ | refine Ap ?_); refine hK _ ?_; clear hK K)))
 (refine AD [] (.m 0 0 0 (.m 1 0 0 (.m 2 0 0 (.m 3 0 0 (.m 4 0 0 (.m 5 1 12 (.m 6 0 0 (.m 7 0 0 (.m 8 0 0 (.m 9 1 12 (.m 10 0 0 (.m 11 0 0 (.a 12 .e))))))))))))) (by kernel_rfl) (by kernel_rfl) (by intro c st h; simp [Ae, AJ, VD] at h) ?_)
 (repeat (first | ((first | refine W2 rfl rfl rfl ?_ | refine W3 rfl rfl rfl rfl rfl rfl rfl ?_ | refine OZ rfl rfl rfl ?_); intro K1 hK1; simp only [go_sem, gw2, gu2, rW, A5]; (first | refine hK1 _ ?_ | refine AE (hK1 _ ?_)); clear hK1 K1) | (refine Cg ⟨by simp, by simp, ?_⟩; refine hK _ ?_; clear hK K)))
 (refine W5 rfl rfl rfl rfl ?_; intro K1 hK1; refine B4 rfl ?_; simp only [go_sem, ST.put, Dr, A0.cells, B3, A5, rW]; (first | refine hK1 _ ?_ | refine AE (hK1 _ ?_)); clear hK1 K1)
 refine Cg ⟨by simp, by simp, ?_⟩
 simp only [Ae, AJ]
 refine hKo _ (false, { r with W := EF q.W v P, pt := P }, J3, WJ (v, k) :: J2) ⟨hB, hvis, .inl hxi⟩ ?_ ?_
 ·simp only [Tst.ms]; simp; omega
 rw [eW, rJ]
 simp only [F5, WI]
 (refine BP ?_; simp only [Dq, go_sem]; try simp)
end Go.Proofs.YthnkailnoobdoaaGreatDoor
