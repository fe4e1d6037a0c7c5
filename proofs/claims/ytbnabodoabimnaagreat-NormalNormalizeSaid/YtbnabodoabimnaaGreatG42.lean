/- Lemmas. -/
import Derived.Test.YtbnabodoabimnaaGreatG11
import Derived.Test.YtbnabodoabimnaaGreatMlz
import Derived.Test.YtbnabodoabimnaaGreatTj1
namespace Go.Proofs.YtbnabodoabimnaaGreat
set_option linter.unusedVariables false
set_option linter.unusedSimpArgs false
open Go.RowKit
set_option maxRecDepth 100000
attribute [local go_sem] lga C.pl C.one
def Wl (f:Nat × Nat):Ar:=((f.1:Int),(f.2:Int))
def EZ (R:List (List Ar)) (t:Bool) (n i:Nat) (p:Tst) (J:List Int) (J2:List Ar):ST:=
  { tm:=[(1,.b t),(2,.a (.c (.p 0 0))),(6,.a (.c (.s 1 n))),(7,.a (.c (.s 2 n))),(8,.a (.c (.s 3 n))),(9,.i p.c),(10,.a (.c (.s 5 p.pt.length))),(11,.a (.c (.s 4 p.op.length))),(31,.i n),(32,.i i)],
    hp:=[.r ⟨27,1,false,[.t 1 (AK R)]⟩,.r ⟨3,1,true,A9 p.O⟩,.r ⟨3,1,true,A9 p.X⟩,.r ⟨3,1,true,A9 p.W⟩,.r ⟨3,1,true,A9 (p.op.map Int.ofNat++J)⟩,.r ⟨148,2,true,AG (p.pt.map Wl++J2)⟩],n:=171,pin:=0 }

def I8 (R:List (List Ar)) (t:Bool) (n i off v:Nat) (p:Tst) (J:List Int) (J2:List Ar):ST:=
  { tm:=[(1,.b t),(2,.a (.c (.p 0 0))),(6,.a (.c (.s 1 n))),(7,.a (.c (.s 2 n))),(8,.a (.c (.s 3 n))),(9,.i p.c),(10,.a (.c (.s 5 p.pt.length))),(11,.a (.c (.s 4 p.op.length))),(13,.a (.c (.p 5 off))),(14,.i v),(31,.i n),(32,.i i)],
    hp:=[.r ⟨27,1,false,[.t 1 (AK R)]⟩,.r ⟨3,1,true,A9 p.O⟩,.r ⟨3,1,true,A9 p.X⟩,.r ⟨3,1,true,A9 p.W⟩,.r ⟨3,1,true,A9 (p.op.map Int.ofNat++J)⟩,.r ⟨148,2,true,AG (p.pt.map Wl++J2)⟩],n:=171,pin:=0 }
def Lq (R:List (List Ar)) (t:Bool) (n i off v:Nat) (A:List Ar) (p:Tst) (J:List Int) (J2:List Ar):ST:=
  { tm:=[(1,.b t),(2,.a (.c (.p 0 0))),(6,.a (.c (.s 1 n))),(7,.a (.c (.s 2 n))),(8,.a (.c (.s 3 n))),(9,.i p.c),(10,.a (.c (.s 5 p.pt.length))),(11,.a (.c (.s 4 p.op.length))),(13,.a (.c (.p 5 off))),(14,.i v),(15,.a (.c (.t 2 (Aw A)))),(31,.i n),(32,.i i)],
    hp:=[.r ⟨27,1,false,[.t 1 (AK R)]⟩,.r ⟨3,1,true,A9 p.O⟩,.r ⟨3,1,true,A9 p.X⟩,.r ⟨3,1,true,A9 p.W⟩,.r ⟨3,1,true,A9 (p.op.map Int.ofNat++J)⟩,.r ⟨148,2,true,AG (p.pt.map Wl++J2)⟩],n:=171,pin:=0 }
theorem Eh (l:List Nat) (v:Nat) (J:List Int):(A9 (l.map Int.ofNat++J)).take l.length++[C.v (.int .i64 v)]=A9 ((l++[v]).map Int.ofNat++[]):=by
 rw [BF,gBm (by simp),gE7 (by simp),BG,gAk,gAT];rfl
theorem Dd (f:List Nat) (L:List Ar):(AG L).map (C.ren f)=AG L:=by
 unfold AG
 rw [List.map_flatMap]
 rfl
theorem Ke {P:Program} {c:Code} {Q:Exit->ST->Prop} {K:ST->Prop} {G:Prop} {α:Type} (hK:∀ st',AW P c st' Q->K st') (T:α->ST) (good:α->Prop) (hb:(∀ st' x,good x->Le st' (T x)->K st')->G) (h:∀ x,good x->AW P c (T x) Q):G:=
 hb fun st' x hg hl=>hK st' (As hl (h x hg))
theorem Kf (P:List (Nat × Nat)) (v k:Nat) (J:List Ar):AG ((P++[(v,k)]).map Wl++J)=AG (P.map Wl)++(C.v (.int .i64 v) :: C.v (.int .i64 k) :: AG J):=by
 rw [gAT,<- D9,<- D9,gAj];rfl
theorem F0 (P:List (Nat × Nat)):(AG (P.map Wl)).length=P.length*2:=by rw [AD,gAN]
theorem MM (P:List (Nat × Nat)) (v k:Nat) (J:List Ar):(AG ((P++[(v,k)]).map Wl++J))[P.length*2]?=some (.v (.int .i64 v)):=by
 rw [Kf,gEb (by rw [F0];exact gBu _),F0,gBC];rfl
theorem Qe (P:List (Nat × Nat)) (v k:Nat) (J:List Ar):(AG ((P++[(v,k)]).map Wl++J))[P.length*2+1]?=some (.v (.int .i64 k)):=by
 rw [Kf,gEb (by rw [F0];omega),F0,Nat.add_sub_cancel_left];rfl
theorem Rg (P:List (Nat × Nat)) (v k:Nat) (J:List Ar) (k':Nat):(AG ((P++[(v,k)]).map Wl++J)).set (P.length*2+1) (.v (.int .i64 k'))=AG ((P++[(v,k')]).map Wl++J):=by
 rw [Kf,Kf,gBh _ _ (by rw [F0];omega),F0,Nat.add_sub_cancel_left];rfl
theorem P4 (P:List (Nat × Nat)) (t:Nat) (J:List Ar):(AG (P.map Wl++J)).take (P.length*2)++[C.v (.int .i64 t),C.v (.int .i64 0)]=AG ((P++[(t,0)]).map Wl++[]):=by
 rw [EW,gBm (by simp),gE7 (by simp),gAk,gAT,<- D9];rfl
theorem MN {L:List Int} {t v:Nat} {c:Nat} (ht:t<L.length) (h:0<Wh L 0 v):0<Wh (L.set t ((c:Int)+1)) 0 v:=by
 rw [DC ht];unfold upd;split <;> omega
theorem Rh {P:Program} {c:Code} {Q:Exit->ST->Prop} {K:ST->Prop} {G:Prop} (hK:∀ st',AW P c st' Q->K st') (T:ST) (hb:(∀ st',Le st' T->K st')->G) (h:AW P c T Q):G:=
 hb fun st' hl=>hK st' (As hl h)
set_option maxHeartbeats 8000000 in
theorem Ri (R : List (List Ar)) (t : Bool) (hv : C7 R = true) (h1 : 1 <= R.length) (hn : R.length <= 1000000) (hr : ∀ r ∈ R, r.length <= 1000000) : FC Tryz.prog 108 [Ba R, .b t] [] (fun r o => ∃ C : List Int, C.length = R.length /\ (∀ v, v < R.length -> Least (Wi t R) v (Wh C (-1) v)) /\ o = [Be C] /\ r = .a (.c (.s 0 R.length))) := by
 refine A7 Tryz.func108 rfl (by rw [Tryz.ntmps108]; simp) ?_
 rw [Tryz.ntmps108]
 simp only [B4, Ba]
 (repeat (first | (refine AA ?_; intro K hK) | refine Ai ?_ | refine Ag ?_ | (refine AX rfl rfl ?_; intro K1 hK1; simp only [go_sem]; (first | refine hK1 _ ?_ | refine AE (hK1 _ ?_)); clear hK1 K1) | ((first | refine Aa ?_ | refine Am ?_); refine hK _ ?_; clear hK K)))
 (refine Aj rfl ?_; intro K1 hK1; refine (Av (ids := []) (H5 R (by omega) (fun r h => by have := hr r h; omega)) rfl rfl (by simp only [go_sem]) (by kernel_rfl) (by (simp only [gAk, go_sem]) <;> rfl) ?_).stp)
 rintro _ _ ⟨rfl, rfl⟩
 (simp only [Ap, AC, gAk, gBc, gAN, go_sem]; refine hK1 _ ?_; clear hK1 K1)
 (repeat (first | (refine AA ?_; intro K hK) | refine Ai ?_ | refine Ag ?_ | (refine AX rfl rfl ?_; intro K1 hK1; simp only [go_sem, hv, gA9]; (first | refine hK1 _ ?_ | refine AE (hK1 _ ?_)); clear hK1 K1) | ((first | refine Aa ?_ | refine Am ?_); refine hK _ ?_; clear hK K)))
 (refine Ah ?_; intro X Y hX hY; simp only [go_sem])
 refine hY ?_
 clear hX hY X Y
 (repeat (first | (refine AA ?_; intro K hK) | refine Ai ?_ | refine Ag ?_ | (refine AX rfl rfl ?_; intro K1 hK1; simp only [go_sem, A6]; (first | refine hK1 _ ?_ | refine AE (hK1 _ ?_)); clear hK1 K1) | ((first | refine Aa ?_ | refine Am ?_); refine hK _ ?_; clear hK K)))
 (refine Aj rfl ?_; intro K1 hK1; refine Ax (ids := []) [1] (FS (-1) R.length h1 hn) rfl rfl (by simp only [go_sem]) (by first | assumption | kernel_rfl) rfl rfl (by (simp only [gAT, gAk, go_sem]) <;> rfl) (by (simp only [Vk, Be, A9, go_sem]) <;> rfl) ?_ ?_)
 ·rintro _ _ ⟨rfl, rfl⟩; rfl
 rintro _ _ ⟨rfl, rfl⟩
 (simp only [Ap, AC, Be, AL, gAk, gBc, gAN, go_sem]; refine hK1 _ ?_; clear hK1 K1)
 (repeat (first | (refine AA ?_; intro K hK) | refine Ai ?_ | refine Ag ?_ | (refine AX rfl rfl ?_; intro K1 hK1; simp only [go_sem]; (first | refine hK1 _ ?_ | refine AE (hK1 _ ?_)); clear hK1 K1) | ((first | refine Aa ?_ | refine Am ?_); refine hK _ ?_; clear hK K)))
 refine Rh hK { tm := [(1, .b t), (2, .a (.c (.p 0 0))), (5, .i R.length), (6, .a (.c (.s 1 R.length))), (7, .a (.c (.s 2 R.length))), (8, .a (.c (.s 3 R.length)))], hp := [.r ⟨27, 1, false, [.t 1 (AK R)]⟩, .r ⟨3, 1, true, A9 (List.replicate R.length (-1))⟩, .r ⟨3, 1, true, A9 (List.replicate R.length 0)⟩, .r ⟨3, 1, true, A9 (List.replicate R.length 0)⟩], n := 171, pin := 0 } ?_ ?_
 ·clear hK; intro hK
  have e0 : List.replicate R.length (C.v (.int .i64 0)) = A9 (List.replicate R.length 0) := by simp [A9]
  (refine AF [] (.m 0 0 0 (.m 2 0 0 (.f 1 (.m 4 0 0 (.a 3 (.m 5 0 0 .e))) 3 (.a 1 (.m 4 0 0 (.m 5 0 0 .e)))))) (by kernel_rfl) (by kernel_rfl) (by intro c st h; simp [Ad, Ay, Vl] at h) ?_)
  (repeat (first | ((first | refine VJ rfl rfl rfl ?_ | refine VK rfl rfl rfl rfl rfl rfl rfl ?_ | refine OO rfl rfl rfl ?_); intro K1 hK1; simp only [go_sem]; (first | refine hK1 _ ?_ | refine AE (hK1 _ ?_)); clear hK1 K1) | (refine DY ⟨by simp, by simp, ?_⟩; refine hK _ ?_; clear hK K)))
  refine VN ?_ ?_
  ·(refine VL rfl rfl ?_; intro K1 hK1; refine Bl rfl ?_; simp only [go_sem]; (first | refine hK1 _ ?_ | refine AE (hK1 _ ?_)); clear hK1 K1)
   (repeat (first | ((first | refine VJ rfl rfl rfl ?_ | refine VK rfl rfl rfl rfl rfl rfl rfl ?_ | refine OO rfl rfl rfl ?_); intro K1 hK1; simp only [go_sem]; (first | refine hK1 _ ?_ | refine AE (hK1 _ ?_)); clear hK1 K1) | (refine DY ⟨by simp, by simp, ?_⟩; refine hK _ ?_; clear hK K)))
   (refine VL rfl rfl ?_; intro K1 hK1; refine Bl rfl ?_; simp only [go_sem]; (first | refine hK1 _ ?_ | refine AE (hK1 _ ?_)); clear hK1 K1)
   (repeat (first | ((first | refine VJ rfl rfl rfl ?_ | refine VK rfl rfl rfl rfl rfl rfl rfl ?_ | refine OO rfl rfl rfl ?_); intro K1 hK1; simp only [go_sem]; (first | refine hK1 _ ?_ | refine AE (hK1 _ ?_)); clear hK1 K1) | (refine DY ⟨by simp, by simp, ?_⟩; refine hK _ ?_; clear hK K)))
   rw [e0]
   refine Le.trans (A8 [0, 2, 3, 4] rfl rfl) ?_
   (try simp only [gBk, gBo, gBq, gAT, go_sem])
   (try simp only [A5])
   (refine Bh ?_; simp only [CS, go_sem]; try simp)
  ·(refine VL rfl rfl ?_; intro K1 hK1; refine Bl rfl ?_; simp only [go_sem]; (first | refine hK1 _ ?_ | refine AE (hK1 _ ?_)); clear hK1 K1)
   (repeat (first | ((first | refine VJ rfl rfl rfl ?_ | refine VK rfl rfl rfl rfl rfl rfl rfl ?_ | refine OO rfl rfl rfl ?_); intro K1 hK1; simp only [go_sem]; (first | refine hK1 _ ?_ | refine AE (hK1 _ ?_)); clear hK1 K1) | (refine DY ⟨by simp, by simp, ?_⟩; refine hK _ ?_; clear hK K)))
   (refine VL rfl rfl ?_; intro K1 hK1; refine Bl rfl ?_; simp only [go_sem]; (first | refine hK1 _ ?_ | refine AE (hK1 _ ?_)); clear hK1 K1)
   (repeat (first | ((first | refine VJ rfl rfl rfl ?_ | refine VK rfl rfl rfl rfl rfl rfl rfl ?_ | refine OO rfl rfl rfl ?_); intro K1 hK1; simp only [go_sem]; (first | refine hK1 _ ?_ | refine AE (hK1 _ ?_)); clear hK1 K1) | (refine DY ⟨by simp, by simp, ?_⟩; refine hK _ ?_; clear hK K)))
   rw [e0]
   refine Le.trans (A8 [0, 2, 4, 3] rfl rfl) ?_
   (try simp only [gBk, gBo, gBq, gAT, go_sem])
   (try simp only [A5])
   (refine Bh ?_; simp only [CS, go_sem]; try simp)
 (repeat (first | (refine AA ?_; intro K hK) | refine Ai ?_ | refine Ag ?_ | (refine AX rfl rfl ?_; intro K1 hK1; simp only [go_sem]; (first | refine hK1 _ ?_ | refine AE (hK1 _ ?_)); clear hK1 K1) | ((first | refine Aa ?_ | refine Am ?_); refine hK _ ?_; clear hK K)))
 refine As (BJ 10 148 2 ?_) ?_
 ·simp only [go_sem]
 refine As (BJ 11 3 1 ?_) ?_
 ·simp only [go_sem]
 refine As (A8 [0, 1, 2, 3, 5, 4] rfl rfl) ?_
 (try simp only [gBk, gBo, gBq, gAT, go_sem])
 (try simp only [A5])
 refine Ab (fun x : Nat × Tst × List Int × List Ar => EZ R t R.length x.1 x.2.1 x.2.2.1 x.2.2.2) (fun x => x.1 <= R.length /\ x.2.1.pt = [] /\ Tst.Ok (Wi t R) R.length x.2.1 /\ (∀ v, v < x.1 -> 0 < Wh x.2.1.X 0 v)) (fun x => R.length - x.1) (0, { X := List.replicate R.length 0, W := List.replicate R.length 0, O := List.replicate R.length (-1), op := [], pt := [], c := 0 }, [], []) ?_ ?_ ?_
 ·exact ⟨by simp, rfl, Tst.start, fun v h => by simp at h⟩
 ·unfold EZ
  (refine Bh ?_; simp only [CS, go_sem]; try simp)
 rintro ⟨i, p, J, J2⟩ ⟨hi, hp, hO, hvis⟩ K hK
 simp only at hi hp hO hvis
 have lX := hO.lX
 by_cases hlt : i < R.length
 rotate_left
 ·have d1 : decide ((i : Int) < (R.length : Int)) = false := by simpa using hlt
  unfold EZ
  (repeat (first | (refine AA ?_; intro K hK) | refine Ai ?_ | refine Ag ?_ | (refine AX rfl rfl ?_; intro K1 hK1; simp only [go_sem, d1]; (first | refine hK1 _ ?_ | refine AE (hK1 _ ?_)); clear hK1 K1) | ((first | refine Aa ?_ | refine Am ?_); refine hK _ ?_; clear hK K)))
  (refine Ah ?_; intro X Y hX hY; simp only [go_sem])
  refine hY ?_
  clear hX hY X Y
  (refine Du ?_; simp only [Ad, Ay, reduceIte, Nat.reduceEqDiff]; (first | refine hK _ ?_ | (clear hK K; refine hK _ ?_) | (clear hK K; clear hK K; refine hK _ ?_) | (clear hK K; clear hK K; clear hK K; refine hK _ ?_) | (clear hK K; clear hK K; clear hK K; clear hK K; refine hK _ ?_) | (clear hK K; clear hK K; clear hK K; clear hK K; clear hK K; refine hK _ ?_)); clear hK K)
  (repeat (first | (refine AA ?_; intro K hK) | refine Ai ?_ | refine Ag ?_ | (refine AX rfl rfl ?_; intro K1 hK1; simp only [go_sem]; (first | refine hK1 _ ?_ | refine AE (hK1 _ ?_)); clear hK1 K1) | ((first | refine Aa ?_ | refine Am ?_); refine hK _ ?_; clear hK K)))
  ((try refine Ak ?_); (try simp only [Ad, Ay]); refine AB (A8 [1] rfl rfl) ?_; (try simp only [gBk, gBo, gBq, gAT, go_sem]); ((try refine Ak ?_); (try refine Aa ?_); (try simp only [Ad, Ay]); refine AN (by first | exact .inl rfl | exact .inr rfl) rfl ?_; simp only [Vm, Cq, Ck, Cx, Tryz.results108, go_sem, true_and, and_true, A5]))
  have hie : i = R.length := by omega
  refine ⟨p.O, hO.lO, fun v hv2 => hO.ti.done hp (hvis v (by omega)), rfl⟩
 have d1 : decide ((i : Int) < (R.length : Int)) = true := by simpa using hlt
 unfold EZ
 (repeat (first | (refine AA ?_; intro K hK) | refine Ai ?_ | refine Ag ?_ | (refine AX rfl rfl ?_; intro K1 hK1; simp only [go_sem, d1]; (first | refine hK1 _ ?_ | refine AE (hK1 _ ?_)); clear hK1 K1) | ((first | refine Aa ?_ | refine Am ?_); refine hK _ ?_; clear hK K)))
 (refine Ah ?_; intro X Y hX hY; simp only [go_sem])
 refine hX ?_
 clear hX hY X Y
 (repeat (first | (refine AA ?_; intro K hK) | refine Ai ?_ | refine Ag ?_ | (refine AX rfl rfl ?_; intro K1 hK1; simp only [go_sem]; (first | refine hK1 _ ?_ | refine AE (hK1 _ ?_)); clear hK1 K1) | ((first | refine Aa ?_ | refine Am ?_); refine hK _ ?_; clear hK K)))
 refine OI ?_
 have hiX : i < p.X.length := by omega
 have gx : (A9 p.X)[i]? = some (.v (.int .i64 p.X[i])) := At (gE1 hiX)
 have hxi : Wh p.X 0 i = p.X[i] := BQ hiX
 by_cases hx : p.X[i] > 0
 ·have d2 : decide (p.X[i] > 0) = true := by simpa using hx
  (repeat (first | (refine AA ?_; intro K hK) | refine Ai ?_ | refine Ag ?_ | (refine AX rfl rfl ?_; intro K1 hK1; simp only [go_sem, gx, A4, lX, d2]; (first | refine hK1 _ ?_ | refine AE (hK1 _ ?_)); clear hK1 K1) | ((first | refine Aa ?_ | refine Am ?_); refine hK _ ?_; clear hK K)))
  (refine Ah ?_; intro X Y hX hY; simp only [go_sem])
  refine hX ?_
  clear hX hY X Y
  (refine Du ?_; simp only [Ad, Ay, reduceIte, Nat.reduceEqDiff]; (first | refine hK _ ?_ | (clear hK K; refine hK _ ?_) | (clear hK K; clear hK K; refine hK _ ?_) | (clear hK K; clear hK K; clear hK K; refine hK _ ?_) | (clear hK K; clear hK K; clear hK K; clear hK K; refine hK _ ?_) | (clear hK K; clear hK K; clear hK K; clear hK K; clear hK K; refine hK _ ?_)); clear hK K)
  (repeat (first | (refine AA ?_; intro K hK) | refine Ai ?_ | refine Ag ?_ | (refine AX rfl rfl ?_; intro K1 hK1; simp only [go_sem]; (first | refine hK1 _ ?_ | refine AE (hK1 _ ?_)); clear hK1 K1) | ((first | refine Aa ?_ | refine Am ?_); refine hK _ ?_; clear hK K)))
  ((try refine Aa ?_); (try refine Am ?_); try simp only [Ad])
  refine hK _ (i + 1, p, J, J2) ⟨by simp only; omega, hp, hO, fun v hv => ?_⟩ (by simp only; omega) ?_
  rotate_left
  ·unfold EZ
   (refine Bh ?_; simp only [CS, go_sem]; try simp)
  rcases gBx v i with h | h
  ·exact hvis v h
  have : v = i := by simp only at hv; omega
  subst this; rw [hxi]; exact hx
 have d2 : decide (p.X[i] > 0) = false := by simpa using hx
 have hx0 : Wh p.X 0 i = 0 := by have := hO.ti.nn i; have e : p.S.idx i = Wh p.X 0 i := rfl; omega
 (repeat (first | (refine AA ?_; intro K hK) | refine Ai ?_ | refine Ag ?_ | (refine AX rfl rfl ?_; intro K1 hK1; simp only [go_sem, gx, A4, lX, d2]; (first | refine hK1 _ ?_ | refine AE (hK1 _ ?_)); clear hK1 K1) | ((first | refine Aa ?_ | refine Am ?_); refine hK _ ?_; clear hK K)))
 (refine Ah ?_; intro X Y hX hY; simp only [go_sem])
 refine hY ?_
 clear hX hY X Y
 (repeat (first | (refine AA ?_; intro K hK) | refine Ai ?_ | refine Ag ?_ | (refine AX rfl rfl ?_; intro K1 hK1; simp only [go_sem, hp, gAO, Nat.zero_mul, gBq, gBc, gAX]; (first | refine hK1 _ ?_ | refine AE (hK1 _ ?_)); clear hK1 K1) | ((first | refine Aa ?_ | refine Am ?_); refine hK _ ?_; clear hK K)))
 refine OJ ?_
 simp only [Ad]
 refine hK _ ?_
 clear hK K
 (repeat (first | (refine AA ?_; intro K hK) | refine Ai ?_ | refine Ag ?_ | (refine AX rfl rfl ?_; intro K1 hK1; simp only [go_sem]; (first | refine hK1 _ ?_ | refine AE (hK1 _ ?_)); clear hK1 K1) | ((first | refine Aa ?_ | refine Am ?_); refine hK _ ?_; clear hK K)))
 refine As (A8 [0, 1, 2, 3, 4, 7] rfl rfl) ?_
 (try simp only [gBk, gBo, gBq, gAT, go_sem])
 (try simp only [A5])
 refine Ab (fun x : Bool × Tst × List Int × List Ar => EZ R t R.length i x.2.1 x.2.2.1 x.2.2.2) (fun x => Hd (Wi t R) R.length x.1 x.2.1 /\ (∀ v, v < i -> 0 < Wh x.2.1.X 0 v) /\ (0 < Wh x.2.1.X 0 i \/ x.1 = true /\ x.2.1.pt = [(i, 0)])) (fun x => x.2.1.ms x.1) (true, { p with pt := [(i, 0)] }, J, []) ?_ ?_ ?_
 ·exact ⟨hO.root hp hlt hx0, hvis, .inr ⟨rfl, rfl⟩⟩
 ·unfold EZ
  (refine Bh ?_; simp only [CS, go_sem]; try simp)
 rintro ⟨b, p, J, J2⟩ ⟨hH, hvis, hri⟩ K hK
 simp only at hH hvis hri
 rcases List.eq_nil_or_concat p.pt with e | ⟨P, ⟨v, k⟩, e⟩
 ·cases b with
  | true => obtain ⟨P1, t', q, e2, _⟩ := hH; rw [e] at e2; simp at e2
  | false =>
   have hB : Wj (Wi t R) R.length p := hH
   have hxi2 : 0 < Wh p.X 0 i := by
    rcases hri with h | ⟨h, _⟩
    ·exact h
    cases h
   have d3 : decide ((p.pt.length : Int) > 0) = false := by simp [e]
   unfold EZ
   (repeat (first | (refine AA ?_; intro K hK) | refine Ai ?_ | refine Ag ?_ | (refine AX rfl rfl ?_; intro K1 hK1; simp only [go_sem, d3]; (first | refine hK1 _ ?_ | refine AE (hK1 _ ?_)); clear hK1 K1) | ((first | refine Aa ?_ | refine Am ?_); refine hK _ ?_; clear hK K)))
   (refine Ah ?_; intro X Y hX hY; simp only [go_sem])
   refine hY ?_
   clear hX hY X Y
   (refine Du ?_; simp only [Ad, Ay, reduceIte, Nat.reduceEqDiff]; (first | refine hK _ ?_ | (clear hK K; refine hK _ ?_) | (clear hK K; clear hK K; refine hK _ ?_) | (clear hK K; clear hK K; clear hK K; refine hK _ ?_) | (clear hK K; clear hK K; clear hK K; clear hK K; refine hK _ ?_) | (clear hK K; clear hK K; clear hK K; clear hK K; clear hK K; refine hK _ ?_)); clear hK K)
   (repeat (first | (refine AA ?_; intro K hK) | refine Ai ?_ | refine Ag ?_ | (refine AX rfl rfl ?_; intro K1 hK1; simp only [go_sem]; (first | refine hK1 _ ?_ | refine AE (hK1 _ ?_)); clear hK1 K1) | ((first | refine Aa ?_ | refine Am ?_); refine hK _ ?_; clear hK K)))
   ((try refine Aa ?_); (try refine Am ?_); try simp only [Ad])
   refine hK _ (i + 1, p, J, J2) ⟨by simp only; omega, e, hB.1, fun v hv => ?_⟩ (by simp only; omega) ?_
   rotate_left
   ·unfold EZ
    (refine Bh ?_; simp only [CS, go_sem]; try simp)
   rcases gBx v i with h | h
   ·exact hvis v h
   have : v = i := by simp only at hv; omega
   subst this; exact hxi2
 rw [List.concat_eq_append] at e
 have hKo := hK
 generalize hm0 : p.ms b = m0 at hKo
 have eL : p.pt.length = P.length + 1 := by rw [e]; simp
 have hpl : P.length + 1 <= R.length := by
  rw [<- eL]
  cases b with
  | true =>
   obtain ⟨P1, t1, _, _, hM, _⟩ := HdA.visit (show HdA (Wi t R) R.length p from hH)
   exact hM.1.len.1
  | false => exact (show Wj (Wi t R) R.length p from hH).1.len.1
 have d3 : decide (((P.length + 1 : Nat) : Int) > 0) = true := by simp
 have e5 : ((P.length + 1 : Nat) : Int) - 1 = (P.length : Int) := by omega
 have c0 := MM P v k J2
 have c1 := Qe P v k J2
 rw [<- e] at c0 c1
 have hl6 : P.length + 1 <= (p.pt.map Wl ++ J2).length := by rw [gAI, gAN, eL]; omega
 unfold EZ
 rw [eL]
 (repeat (first | (refine AA ?_; intro K hK) | refine Ai ?_ | refine Ag ?_ | (refine AX rfl rfl ?_; intro K1 hK1; simp only [go_sem, d3]; (first | refine hK1 _ ?_ | refine AE (hK1 _ ?_)); clear hK1 K1) | ((first | refine Aa ?_ | refine Am ?_); refine hK _ ?_; clear hK K)))
 (refine Ah ?_; intro X Y hX hY; simp only [go_sem])
 refine hX ?_
 clear hX hY X Y
 (repeat (first | (refine AA ?_; intro K hK) | refine Ai ?_ | refine Ag ?_ | (refine AX rfl rfl ?_; intro K1 hK1; simp only [go_sem, e5, AD, c0, c1, gBr]; (first | refine hK1 _ ?_ | refine AE (hK1 _ ?_)); clear hK1 K1) | ((first | refine Aa ?_ | refine Am ?_); refine hK _ ?_; clear hK K)))
 refine Ke hK (fun x : Tst × List Int × List Ar => I8 R t R.length i (P.length * 2) v x.1 x.2.1 x.2.2) (fun x => Mid (Wi t R) R.length x.1 P v k /\ 2 * x.1.X.count 0 + (P.length + 1) <= p.ms b /\ (∀ u, u < i -> 0 < Wh x.1.X 0 u) /\ 0 < Wh x.1.X 0 i) ?_ ?_
 ·clear hK; intro hK
  cases b with
  | true =>
   have hA : HdA (Wi t R) R.length p := hH
   have lX := (show Tst.Ok _ _ { p with pt := _ } from hA.choose_spec.choose_spec.choose_spec.2.2.2.1).lX
   have lW := (show Tst.Ok _ _ { p with pt := _ } from hA.choose_spec.choose_spec.choose_spec.2.2.2.1).lW
   have lop := (show Tst.Ok _ _ { p with pt := _ } from hA.choose_spec.choose_spec.choose_spec.2.2.2.1).len.2.1
   simp only at lX lW lop
   obtain ⟨P1, t1, q1, q2, hM, hms, hcn⟩ := hA.visit
   rw [e] at q1
   obtain ⟨rfl, q3⟩ := List.append_inj' q1 rfl
   cases q3
   have d4 : (((0 : Nat) : Int) == 0) = true := rfl
   have hvl : v < p.X.length := by omega
   have op1 := Eh p.op v J
   have hopl : p.op.length <= (p.op.map Int.ofNat ++ J).length := by simp
   (repeat (first | (refine AA ?_; intro K hK) | refine Ai ?_ | refine Ag ?_ | (refine AX rfl rfl ?_; intro K1 hK1; simp only [go_sem, d4]; (first | refine hK1 _ ?_ | refine AE (hK1 _ ?_)); clear hK1 K1) | ((first | refine Aa ?_ | refine Am ?_); refine hK _ ?_; clear hK K)))
   (refine Ah ?_; intro X Y hX hY; simp only [go_sem, d4])
   refine hX ?_
   clear hX hY X Y
   (repeat (first | (refine AA ?_; intro K hK) | refine Ai ?_ | refine Ag ?_ | (refine AX rfl rfl ?_; intro K1 hK1; simp only [go_sem, A4, lX, lW, ST.put, De, A0.cells, Bj, op1]; (first | refine hK1 _ ?_ | refine AE (hK1 _ ?_)); clear hK1 K1) | ((first | refine Aa ?_ | refine Am ?_); refine hK _ ?_; clear hK K)))
   ((try refine Aa ?_); (try refine Am ?_); try simp only [Ad])
   refine hK _ ({ p with X := p.X.set v (p.c + 1), W := p.W.set v (p.c + 1), op := p.op ++ [v], c := p.c + 1 }, [], J2) ⟨hM, ?_, fun u hu => MN hvl (hvis u hu), ?_⟩ ?_
   ·simp only; omega
   ·rcases hri with h | ⟨_, h⟩
    ·exact MN hvl h
    rw [e] at h
    have hvi : v = i := by
     have := List.append_inj' (t₁ := [(v, 0)]) (s₂ := []) h rfl
     cases this.2; rfl
    subst hvi
    simp only
    rw [DC hvl, BM]; omega
   refine Le.trans (A8 [0, 1, 2, 3, 7, 5] rfl rfl) ?_
   (try simp only [gBk, gBo, gBq, gAT, go_sem])
   (try simp only [A5, Dd])
   simp only [I8, eL, gAT, gAV, gAX, gAI, gAJ, gAO]
   (refine Bh ?_; simp only [CS, go_sem]; try simp)
  | false =>
   have hB : Wj (Wi t R) R.length p := hH
   have hk1 := hB.2 v k (by rw [e]; simp)
   have d4 : ((k : Int) == 0) = false := by simp; omega
   (repeat (first | (refine AA ?_; intro K hK) | refine Ai ?_ | refine Ag ?_ | (refine AX rfl rfl ?_; intro K1 hK1; simp only [go_sem, d4]; (first | refine hK1 _ ?_ | refine AE (hK1 _ ?_)); clear hK1 K1) | ((first | refine Aa ?_ | refine Am ?_); refine hK _ ?_; clear hK K)))
   (refine Ah ?_; intro X Y hX hY; simp only [go_sem, d4])
   refine hY ?_
   clear hX hY X Y
   ((try refine Aa ?_); (try refine Am ?_); try simp only [Ad])
   refine hK _ (p, J, J2) ⟨⟨hB.1, e, fun g j hg => hB.2 g j (by rw [e]; exact gB1 _ hg)⟩, ?_, hvis, ?_⟩ ?_
   ·simp only [Tst.ms, eL]; simp
   ·rcases hri with h | ⟨h, _⟩
    ·exact h
    cases h
   simp only [I8, eL]
   (refine Bh ?_; simp only [CS, go_sem]; try simp)
 clear hK
 clear c0 c1 hl6 eL e hH hri hvis
 rw [hm0]
 clear hm0
 rintro ⟨p, J, J2⟩ ⟨hM, hms, hvis, hxi⟩
 simp only at hM hms hvis hxi
 have hvn : v < R.length := hM.lt
 have hrv := hr _ (gE6 hvn)
 unfold I8
 (repeat (first | (refine AA ?_; intro K hK) | refine Ai ?_ | refine Ag ?_ | (refine AX rfl rfl ?_; intro K1 hK1; simp only [go_sem]; (first | refine hK1 _ ?_ | refine AE (hK1 _ ?_)); clear hK1 K1) | ((first | refine Aa ?_ | refine Am ?_); refine hK _ ?_; clear hK K)))
 (refine Aj rfl ?_; intro K1 hK1; refine (Av (ids := []) (H4 R v t hvn (by omega) (by omega)) rfl rfl (by simp only [go_sem]) (by kernel_rfl) (by (simp only [gAk, go_sem]) <;> rfl) ?_).stp)
 rintro _ _ ⟨rfl, rfl⟩
 (simp only [Ap, AC, gAk, gBc, gAN, go_sem]; refine hK1 _ ?_; clear hK1 K1)
 (repeat (first | (refine AA ?_; intro K hK) | refine Ai ?_ | refine Ag ?_ | (refine AX rfl rfl ?_; intro K1 hK1; simp only [go_sem]; (first | refine hK1 _ ?_ | refine AE (hK1 _ ?_)); clear hK1 K1) | ((first | refine Aa ?_ | refine Am ?_); refine hK _ ?_; clear hK K)))
 obtain ⟨A, hA⟩ : ∃ A, A = BP t R[v] := ⟨_, rfl⟩
 have hE : Wi t R v = A.map fun a => a.2.toNat := by
  unfold Wi
  rw [hA, gE2, gE1 hvn]; rfl
 have hAb : ∀ a ∈ A, 0 <= a.2 /\ a.2 < (R.length : Int) := fun a ha => by
  have h1 : a ∈ R[v] := by
   rw [hA] at ha; unfold BP at ha
   split at ha
   ·exact (List.takeWhile_sublist _).subset ha
   exact ha
  have h2 := (gE4 hv).1.2.2.2 _ (gE6 hvn) a h1
  exact ⟨h2.2.2.1, h2.2.2.2⟩
 have hAl : A.length <= 1000000 := by
  have : A.length <= R[v].length := by
   rw [hA]; unfold BP
   split
   ·exact (List.takeWhile_sublist _).length_le
   exact gBu _
  omega
 rw [<- hA]
 refine Ab (fun x : Nat × Tst => Lq R t R.length i (P.length * 2) v A x.2 J J2) (fun x => Mid (Wi t R) R.length x.2 P v x.1 /\ x.2.X = p.X) (fun x => A.length - x.1) (k, p) ?_ ?_ ?_
 ·exact ⟨hM, rfl⟩
 ·simp only [Lq]
  (refine Bh ?_; simp only [CS, go_sem]; try simp)
 rintro ⟨k, q⟩ ⟨hM, hqX⟩ K hK
 simp only at hM hqX
 rw [<- hqX] at hms hvis hxi
 have eP := hM.2.1
 have eL : q.pt.length = P.length + 1 := by rw [eP]; simp
 have lX := hM.1.lX
 have lW := hM.1.lW
 have lO := hM.1.lO
 have c0 := MM P v k J2
 have c1 := Qe P v k J2
 rw [<- eP] at c0 c1
 by_cases hlt : k < A.length
 ·have d1 : decide ((k : Int) < (A.length : Int)) = true := by simpa using hlt
  have ha1 := Fq hlt
  obtain ⟨tn, htn⟩ : ∃ tn : Nat, A[k].2 = tn := ⟨A[k].2.toNat, by have := (hAb _ (gE6 hlt)).1; omega⟩
  have htl : tn < R.length := by have := (hAb _ (gE6 hlt)).2; omega
  have hEk : (Wi t R v)[k]? = some tn := by
   rw [hE, gAC, gE1 hlt, gBH, htn]; rfl
  rw [htn] at ha1
  have ek : (k : Int) + 1 = ((k + 1 : Nat) : Int) := by omega
  have ts : (AG (q.pt.map Wl ++ J2)).set (P.length * 2 + 1) (.v (.int .i64 ((k + 1 : Nat) : Int))) = AG ((P ++ [(v, k + 1)]).map Wl ++ J2) := by rw [eP]; exact Rg P v k J2 (k + 1)
  have gx : (A9 q.X)[tn]? = some (.v (.int .i64 q.X[tn])) := At (gE1 (by omega))
  have fx : Wh q.X 0 tn = q.X[tn] := BQ (by omega)
  have hl5 : P.length + 1 <= (q.pt.map Wl ++ J2).length := by rw [gAI, gAN, eL]; omega
  simp only [Lq, eL]
  (repeat (first | (refine AA ?_; intro K hK) | refine Ai ?_ | refine Ag ?_ | (refine AX rfl rfl ?_; intro K1 hK1; simp only [go_sem, c1, d1, A3, Aq, gBr]; (first | refine hK1 _ ?_ | refine AE (hK1 _ ?_)); clear hK1 K1) | ((first | refine Aa ?_ | refine Am ?_); refine hK _ ?_; clear hK K)))
  (refine Ah ?_; intro X Y hX hY; simp only [go_sem])
  refine hX ?_
  clear hX hY X Y
  (repeat (first | (refine AA ?_; intro K hK) | refine Ai ?_ | refine Ag ?_ | (refine AX rfl rfl ?_; intro K1 hK1; simp only [go_sem, c1, ha1, ek, ts, gx, lX, A4, AD, A3, Aq, gBr, ST.put, De, A0.cells]; (first | refine hK1 _ ?_ | refine AE (hK1 _ ?_)); clear hK1 K1) | ((first | refine Aa ?_ | refine Am ?_); refine hK _ ?_; clear hK K)))
  by_cases h0 : Wh q.X 0 tn = 0
  ·have d2 : (q.X[tn] == 0) = true := by rw [<- fx]; simpa using h0
   have tp := P4 (P ++ [(v, k + 1)]) tn J2
   rw [show (P ++ [(v, k + 1)]).length = P.length + 1 from by simp] at tp
   have hpu := hM.push hEk htl h0
   have hl6 : P.length + 1 <= ((P ++ [(v, k + 1)]).map Wl ++ J2).length := by simp
   (refine Ah ?_; intro X Y hX hY; simp only [go_sem, d2])
   refine hX ?_
   clear hX hY X Y
   (repeat (first | (refine AA ?_; intro K hK) | refine Ai ?_ | refine Ag ?_ | (refine AX rfl rfl ?_; intro K1 hK1; simp only [go_sem, tp, AD]; (first | refine hK1 _ ?_ | refine AE (hK1 _ ?_)); clear hK1 K1) | ((first | refine Aa ?_ | refine Am ?_); refine hK _ ?_; clear hK K)))
   (refine Du ?_; simp only [Ad, Ay, reduceIte, Nat.reduceEqDiff])
   refine hKo _ (true, { q with pt := P ++ [(v, k + 1)] ++ [(tn, 0)] }, J, []) ⟨hpu, hvis, .inl hxi⟩ ?_ ?_
   ·simp only [Tst.ms, if_true, gAI, gAJ, gAO]
    omega
   refine Le.trans (A8 [0, 1, 2, 3, 4, 7] rfl rfl) ?_
   (try simp only [gBk, gBo, gBq, gAT, go_sem])
   (try simp only [A5, Dd])
   simp only [EZ, gAT, gAV, gAX, gAI, gAJ, gAO]
   (refine Bh ?_; simp only [CS, go_sem]; try simp)
  have d2 : (q.X[tn] == 0) = false := by rw [<- fx]; simpa using h0
  have hpos : 0 < Wh q.X 0 tn := by have := hM.1.ti.nn tn; have e : q.S.idx tn = Wh q.X 0 tn := rfl; omega
  have go1 : (A9 q.O)[tn]? = some (.v (.int .i64 q.O[tn])) := At (gE1 (by omega))
  have fo : Wh q.O (-1) tn = q.O[tn] := BQ (by omega)
  have gw : (A9 q.W)[v]? = some (.v (.int .i64 q.W[v])) := At (gE1 (by omega))
  have fw : Wh q.W 0 v = q.W[v] := BQ (by omega)
  (refine Ah ?_; intro X Y hX hY; simp only [go_sem, d2])
  refine hY ?_
  clear hX hY X Y
  by_cases ho : Wh q.O (-1) tn < 0
  rotate_left
  ·have d3 : decide (q.O[tn] < 0) = false := by rw [<- fo]; simpa using ho
   (repeat (first | (refine AA ?_; intro K hK) | refine Ai ?_ | refine Ag ?_ | (refine AX rfl rfl ?_; intro K1 hK1; simp only [go_sem, go1, lO, A4, d3]; (first | refine hK1 _ ?_ | refine AE (hK1 _ ?_)); clear hK1 K1) | ((first | refine Aa ?_ | refine Am ?_); refine hK _ ?_; clear hK K)))
   (refine Ah ?_; intro X Y hX hY; simp only [go_sem])
   refine hY ?_
   clear hX hY X Y
   (repeat (first | (refine AA ?_; intro K hK) | refine Ai ?_ | refine Ag ?_ | (refine AX rfl rfl ?_; intro K1 hK1; simp only [go_sem]; (first | refine hK1 _ ?_ | refine AE (hK1 _ ?_)); clear hK1 K1) | ((first | refine Aa ?_ | refine Am ?_); refine hK _ ?_; clear hK K)))
   ((try refine Aa ?_); (try refine Am ?_); try simp only [Ad])
   refine hK _ (k + 1, { q with pt := P ++ [(v, k + 1)] }) ⟨hM.edge1 hEk hpos (by omega), hqX⟩ (by simp only; omega) ?_
   simp only [Lq]
   (refine Bh ?_; simp only [CS, go_sem]; try simp)
  have d3 : decide (q.O[tn] < 0) = true := by rw [<- fo]; simpa using ho
  (repeat (first | (refine AA ?_; intro K hK) | refine Ai ?_ | refine Ag ?_ | (refine AX rfl rfl ?_; intro K1 hK1; simp only [go_sem, go1, lO, A4, d3]; (first | refine hK1 _ ?_ | refine AE (hK1 _ ?_)); clear hK1 K1) | ((first | refine Aa ?_ | refine Am ?_); refine hK _ ?_; clear hK K)))
  (refine Ah ?_; intro X Y hX hY; simp only [go_sem])
  refine hX ?_
  clear hX hY X Y
  (repeat (first | (refine AA ?_; intro K hK) | refine Ai ?_ | refine Ag ?_ | (refine AX rfl rfl ?_; intro K1 hK1; simp only [go_sem]; (first | refine hK1 _ ?_ | refine AE (hK1 _ ?_)); clear hK1 K1) | ((first | refine Aa ?_ | refine Am ?_); refine hK _ ?_; clear hK K)))
  (refine AF [] (.m 0 0 0 (.m 1 0 0 (.m 2 0 0 (.m 3 0 0 (.m 4 0 0 (.m 5 1 12 (.m 6 0 0 (.m 7 0 0 (.m 8 0 0 (.m 9 1 12 (.m 10 0 0 (.m 11 0 0 (.a 12 .e))))))))))))) (by kernel_rfl) (by kernel_rfl) (by intro c st h; simp [Ad, Ay, Vl] at h) ?_)
  (repeat (first | ((first | refine VJ rfl rfl rfl ?_ | refine VK rfl rfl rfl rfl rfl rfl rfl ?_ | refine OO rfl rfl rfl ?_); intro K1 hK1; simp only [go_sem, gw, gx, lW, lX, A4]; (first | refine hK1 _ ?_ | refine AE (hK1 _ ?_)); clear hK1 K1) | (refine DY ⟨by simp, by simp, ?_⟩; refine hK _ ?_; clear hK K)))
  (refine VM rfl rfl rfl rfl ?_; intro K1 hK1; refine Bc rfl ?_; simp only [go_sem, ST.put, De, A0.cells, Bj, A4, lW]; (first | refine hK1 _ ?_ | refine AE (hK1 _ ?_)); clear hK1 K1)
  refine DY ⟨by simp, by simp, ?_⟩
  simp only [Ad, Ay]
  refine hK _ (k + 1, { q with W := q.W.set v (Wk (Wh q.W 0 v) (Wh q.X 0 tn)), pt := P ++ [(v, k + 1)] }) ⟨hM.edge2 hEk hpos ho, hqX⟩ (by simp only; omega) ?_
  simp only [Lq, Wk, fw, fx, gAT, gAV, gAX, gAI, gAJ, gAO]
  (refine Bh ?_; simp only [CS, go_sem]; try simp)
 have d1 : decide ((k : Int) < (A.length : Int)) = false := by simpa using hlt
 have hkE : (Wi t R v).length <= k := by rw [hE, gAN]; omega
 have gw : (A9 q.W)[v]? = some (.v (.int .i64 q.W[v])) := At (gE1 (by omega))
 have fw : Wh q.W 0 v = q.W[v] := BQ (by omega)
 have gx : (A9 q.X)[v]? = some (.v (.int .i64 q.X[v])) := At (gE1 (by omega))
 have fx : Wh q.X 0 v = q.X[v] := BQ (by omega)
 simp only [Lq, eL]
 (repeat (first | (refine AA ?_; intro K hK) | refine Ai ?_ | refine Ag ?_ | (refine AX rfl rfl ?_; intro K1 hK1; simp only [go_sem, c1, d1, A3, Aq, gBr]; (first | refine hK1 _ ?_ | refine AE (hK1 _ ?_)); clear hK1 K1) | ((first | refine Aa ?_ | refine Am ?_); refine hK _ ?_; clear hK K)))
 (refine Ah ?_; intro X Y hX hY; simp only [go_sem])
 refine hY ?_
 clear hX hY X Y
 (refine Du ?_; simp only [Ad, Ay, reduceIte, Nat.reduceEqDiff]; (first | refine hK _ ?_ | (clear hK K; refine hK _ ?_) | (clear hK K; clear hK K; refine hK _ ?_) | (clear hK K; clear hK K; clear hK K; refine hK _ ?_) | (clear hK K; clear hK K; clear hK K; clear hK K; refine hK _ ?_) | (clear hK K; clear hK K; clear hK K; clear hK K; clear hK K; refine hK _ ?_)); clear hK K)
 (repeat (first | (refine AA ?_; intro K hK) | refine Ai ?_ | refine Ag ?_ | (refine AX rfl rfl ?_; intro K1 hK1; simp only [go_sem]; (first | refine hK1 _ ?_ | refine AE (hK1 _ ?_)); clear hK1 K1) | ((first | refine Aa ?_ | refine Am ?_); refine hK _ ?_; clear hK K)))
 (refine Af 8 [(0, 0), (1, 0), (2, 0), (3, 1), (4, 0), (5, 0), (6, 0), (7, 1), (8, 2)] (by kernel_rfl) (by kernel_rfl) (by intro c st h; simp [Ad, Ay, Vl] at h) ?_)
 (repeat (first | ((first | refine QP rfl rfl rfl ?_ | refine QQ rfl rfl rfl ?_); intro K1 hK1; simp only [go_sem, gw, gx, lW, lX, A4]; (first | refine hK1 _ ?_ | refine AE (hK1 _ ?_)); clear hK1 K1) | (refine QR rfl rfl rfl rfl ?_; intro K1 hK1; simp only [go_sem, gw, gx, lW, lX, A4]; (first | refine hK1 _ ?_ | refine AE (hK1 _ ?_)); clear hK1 K1) | (refine IR ?_; refine hK _ ?_; clear hK K)))
 refine Ke hK (fun x : Tst × List Int => I8 R t R.length i (P.length * 2) v x.1 x.2 J2) (fun x => x.1.pt = q.pt /\ x.1.W = q.W /\ x.1.X = q.X /\ Wj (Wi t R) R.length { x.1 with W := Ez q.W v P, pt := P }) ?_ ?_
 ·clear hK; intro hK
  by_cases hl : Wh q.W 0 v = Wh q.X 0 v
  rotate_left
  ·have d2 : (q.W[v] == q.X[v]) = false := by rw [<- fw, <- fx]; simpa using hl
   (refine Ah ?_; intro X Y hX hY; simp only [go_sem, d2])
   refine hY ?_
   clear hX hY X Y
   ((try refine Aa ?_); (try refine Am ?_); try simp only [Ad])
   refine hK _ (q, J) ⟨rfl, rfl, rfl, hM.pop hkE hl⟩ ?_
   simp only [I8, eL]
   (refine Bh ?_; simp only [CS, go_sem]; try simp)
  have d2 : (q.W[v] == q.X[v]) = true := by rw [<- fw, <- fx]; simpa using hl
  (refine Ah ?_; intro X Y hX hY; simp only [go_sem, d2])
  refine hX ?_
  clear hX hY X Y
  obtain ⟨O1, O2, ho, ho1, ho2, hob⟩ := hM.split
  have hC := hM.close hkE hl ho
  have hopn := hM.1.len.2.1
  have hgj : ∀ j, j < q.op.length -> (q.op.map Int.ofNat ++ J)[j]? = q.op[j]?.map Int.ofNat := fun j hj => by
   rw [gEa (by simpa using hj), gAC]
  have hO1 : O1.length < q.op.length := by rw [ho]; simp
  have hcl := OU (q.op.map Int.ofNat ++ J) q.O q.op.length O1.length v hO1 (by simp) (by rw [hgj _ hO1, ho]; simp)
   (fun j hj1 hj2 => by
    rw [hgj j hj2, ho, gEb (by omega)]
    obtain ⟨d, hd⟩ : ∃ d, j - O1.length = d + 1 := ⟨j - O1.length - 1, by omega⟩
    rw [hd, List.getElem?_cons_succ]
    intro hx
    obtain ⟨y, hy1, hy2⟩ := gBG.1 hx
    have hyv : y = v := Int.ofNat.inj hy2
    have := ho2 y (gE9 hy1)
    rw [hyv] at this
    omega)
   (fun j x hj1 hj2 hx => by
    rw [hgj j hj2] at hx
    obtain ⟨y, hy1, hy2⟩ := gBG.1 hx
    have := hob y (gE9 hy1)
    rw [<- hy2, lO]
    exact ⟨Int.natCast_nonneg y, Int.ofNat_lt.2 this⟩)
   (by omega) (by omega)
  have hseg : ((q.op.map Int.ofNat ++ J).drop O1.length).take (q.op.length - O1.length) = (v :: O2).map Int.ofNat := by
   rw [ho, gAT, gAj, List.drop_append_of_le_length (by simp), List.drop_of_length_le (by simp), gBc, gBm (by simp), gE7 (by simp)]
  rw [hseg, lO] at hcl
  have hJ : q.op.map Int.ofNat ++ J = O1.map Int.ofNat ++ ((v :: O2).map Int.ofNat ++ J) := by rw [ho, gAT, gAj]
  (repeat (first | (refine AA ?_; intro K hK) | refine Ai ?_ | refine Ag ?_ | (refine AX rfl rfl ?_; intro K1 hK1; simp only [go_sem]; (first | refine hK1 _ ?_ | refine AE (hK1 _ ?_)); clear hK1 K1) | ((first | refine Aa ?_ | refine Am ?_); refine hK _ ?_; clear hK K)))
  (refine Aj rfl ?_; intro K1 hK1; refine Ax (ids := []) [4, 1] (hcl) rfl rfl (by simp only [go_sem]) (by first | assumption | kernel_rfl) rfl rfl (by (simp only [gAT, gAk, go_sem]) <;> rfl) (by (simp only [Vk, Be, A5, go_sem]) <;> rfl) ?_ ?_)
  ·rintro _ _ ⟨rfl, rfl⟩; rfl
  rintro _ _ ⟨rfl, rfl⟩
  (simp only [Ap, AC, Be, AL, gAk, gBc, gAN, go_sem]; refine hK1 _ ?_; clear hK1 K1)
  (repeat (first | (refine AA ?_; intro K hK) | refine Ai ?_ | refine Ag ?_ | (refine AX rfl rfl ?_; intro K1 hK1; simp only [go_sem]; (first | refine hK1 _ ?_ | refine AE (hK1 _ ?_)); clear hK1 K1) | ((first | refine Aa ?_ | refine Am ?_); refine hK _ ?_; clear hK K)))
  ((try refine Aa ?_); (try refine Am ?_); try simp only [Ad])
  refine hK _ ({ q with O := Eg q.O ((v :: O2).map Int.ofNat) (Gc v ((v :: O2).map Int.ofNat)), op := O1 }, (v :: O2).map Int.ofNat ++ J) ⟨rfl, rfl, rfl, hC⟩ ?_
  rw [hJ]
  simp only [I8, eL]
  (refine Bh ?_; simp only [CS, go_sem]; try simp)
 clear hK
 rintro ⟨r, J3⟩ ⟨hr1, hr2, hr3, hB⟩
 simp only at hr1 hr2 hr3 hB
 rw [<- hr3] at hms hvis hxi
 have rL : r.pt.length = P.length + 1 := by rw [hr1, eL]
 have rP : r.pt = P ++ [(v, k)] := by rw [hr1, eP]
 have rW : r.W.length = R.length := by rw [hr2, lW]
 have hl7 : P.length + 1 <= (r.pt.map Wl ++ J2).length := by rw [gAI, gAN, rL]; omega
 have rJ : r.pt.map Wl ++ J2 = P.map Wl ++ (Wl (v, k) :: J2) := by rw [rP, gAT, gAj]; rfl
 simp only [I8, rL]
 rcases List.eq_nil_or_concat P with hP | ⟨P', ⟨u, j⟩, hP⟩
 ·have hPl : P.length = 0 := by rw [hP]; rfl
  have d5 : decide ((P.length : Int) > 0) = false := by rw [hPl]; rfl
  (repeat (first | (refine AA ?_; intro K hK) | refine Ai ?_ | refine Ag ?_ | (refine AX rfl rfl ?_; intro K1 hK1; simp only [go_sem, e5, d5, AD]; (first | refine hK1 _ ?_ | refine AE (hK1 _ ?_)); clear hK1 K1) | ((first | refine Aa ?_ | refine Am ?_); refine hK _ ?_; clear hK K)))
  (refine Ah ?_; intro X Y hX hY; simp only [go_sem])
  refine hY ?_
  clear hX hY X Y
  ((try refine Aa ?_); (try refine Am ?_); try simp only [Ad])
  refine hKo _ (false, { r with W := Ez q.W v P, pt := P }, J3, Wl (v, k) :: J2) ⟨hB, hvis, .inl hxi⟩ ?_ ?_
  ·simp only [Tst.ms]; simp; omega
  have eW : Ez q.W v P = r.W := by unfold Ez; rw [hP]; exact hr2.symm
  rw [eW]
  rw [rJ]
  simp only [EZ]
  (refine Bh ?_; simp only [CS, go_sem]; try simp)
 rw [List.concat_eq_append] at hP
 have hPl : P.length = P'.length + 1 := by rw [hP]; simp
 have d5 : decide ((P.length : Int) > 0) = true := by rw [hPl]; simp
 have e6 : (P.length : Int) - 1 = (P'.length : Int) := by omega
 have c6 := MM P' u j (Wl (v, k) :: J2)
 rw [<- hP, <- rJ] at c6
 have hun : u < R.length := hM.1.ti.lt u (hM.1.ti.pop u j (by show (u, j) ∈ q.pt; rw [eP, hP]; simp)).1
 have gw2 : (A9 r.W)[v]? = some (.v (.int .i64 r.W[v])) := At (gE1 (by omega))
 have gu2 : (A9 r.W)[u]? = some (.v (.int .i64 r.W[u])) := At (gE1 (by omega))
 have fw2 : Wh r.W 0 v = r.W[v] := BQ (by omega)
 have fu2 : Wh r.W 0 u = r.W[u] := BQ (by omega)
 have eW : Ez q.W v P = r.W.set u (Wk r.W[u] r.W[v]) := by
  rw [<- fw2, <- fu2, hr2]; unfold Ez; rw [hP]; simp
 (repeat (first | (refine AA ?_; intro K hK) | refine Ai ?_ | refine Ag ?_ | (refine AX rfl rfl ?_; intro K1 hK1; simp only [go_sem, e5, d5, AD]; (first | refine hK1 _ ?_ | refine AE (hK1 _ ?_)); clear hK1 K1) | ((first | refine Aa ?_ | refine Am ?_); refine hK _ ?_; clear hK K)))
 (refine Ah ?_; intro X Y hX hY; simp only [go_sem])
 refine hX ?_
 clear hX hY X Y
 (repeat (first | (refine AA ?_; intro K hK) | refine Ai ?_ | refine Ag ?_ | (refine AX rfl rfl ?_; intro K1 hK1; simp only [go_sem, e6, c6, AD, gBr]; (first | refine hK1 _ ?_ | refine AE (hK1 _ ?_)); clear hK1 K1) | ((first | refine Aa ?_ | refine Am ?_); refine hK _ ?_; clear hK K)))
 (refine AF [] (.m 0 0 0 (.m 1 0 0 (.m 2 0 0 (.m 3 0 0 (.m 4 0 0 (.m 5 1 12 (.m 6 0 0 (.m 7 0 0 (.m 8 0 0 (.m 9 1 12 (.m 10 0 0 (.m 11 0 0 (.a 12 .e))))))))))))) (by kernel_rfl) (by kernel_rfl) (by intro c st h; simp [Ad, Ay, Vl] at h) ?_)
 (repeat (first | ((first | refine VJ rfl rfl rfl ?_ | refine VK rfl rfl rfl rfl rfl rfl rfl ?_ | refine OO rfl rfl rfl ?_); intro K1 hK1; simp only [go_sem, gw2, gu2, rW, A4]; (first | refine hK1 _ ?_ | refine AE (hK1 _ ?_)); clear hK1 K1) | (refine DY ⟨by simp, by simp, ?_⟩; refine hK _ ?_; clear hK K)))
 (refine VM rfl rfl rfl rfl ?_; intro K1 hK1; refine Bc rfl ?_; simp only [go_sem, ST.put, De, A0.cells, Bj, A4, rW]; (first | refine hK1 _ ?_ | refine AE (hK1 _ ?_)); clear hK1 K1)
 refine DY ⟨by simp, by simp, ?_⟩
 simp only [Ad, Ay]
 refine hKo _ (false, { r with W := Ez q.W v P, pt := P }, J3, Wl (v, k) :: J2) ⟨hB, hvis, .inl hxi⟩ ?_ ?_
 ·simp only [Tst.ms]; simp; omega
 rw [eW, rJ]
 simp only [EZ, Wk]
 (refine Bh ?_; simp only [CS, go_sem]; try simp)
end Go.Proofs.YtbnabodoabimnaaGreat
