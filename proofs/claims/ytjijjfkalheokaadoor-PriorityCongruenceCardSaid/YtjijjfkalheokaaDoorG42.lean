/- Lemmas. -/
import Derived.Test.YtjijjfkalheokaaDoorG11
import Derived.Test.YtjijjfkalheokaaDoorMlz
import Derived.Test.YtjijjfkalheokaaDoorTj1
namespace Go.Proofs.YtjijjfkalheokaaDoor
set_option linter.unusedVariables false
set_option linter.unusedSimpArgs false
open Go.RowKit
set_option maxRecDepth 100000
attribute [local go_sem] lga C.pl C.one

def UB (f:Nat × Nat):Ar:=((f.1:Int),(f.2:Int))
def E5 (R:List (List Ar)) (t:Bool) (n i:Nat) (p:Tst) (J:List Int) (J2:List Ar):ST:=
  { tm:=[(1,.b t),(2,.a (.c (.p 0 0))),(6,.a (.c (.s 1 n))),(7,.a (.c (.s 2 n))),(8,.a (.c (.s 3 n))),(9,.i p.c),(10,.a (.c (.s 5 p.pt.length))),(11,.a (.c (.s 4 p.op.length))),(31,.i n),(32,.i i)],
    hp:=[.r ⟨24,1,false,[.t 1 (Ae R)]⟩,.r ⟨3,1,true,A5 p.O⟩,.r ⟨3,1,true,A5 p.X⟩,.r ⟨3,1,true,A5 p.W⟩,.r ⟨3,1,true,A5 (p.op.map Int.ofNat++J)⟩,.r ⟨109,2,true,Ao (p.pt.map UB++J2)⟩],n:=171,pin:=0 }

def Hr (R:List (List Ar)) (t:Bool) (n i off v:Nat) (p:Tst) (J:List Int) (J2:List Ar):ST:=
  { tm:=[(1,.b t),(2,.a (.c (.p 0 0))),(6,.a (.c (.s 1 n))),(7,.a (.c (.s 2 n))),(8,.a (.c (.s 3 n))),(9,.i p.c),(10,.a (.c (.s 5 p.pt.length))),(11,.a (.c (.s 4 p.op.length))),(13,.a (.c (.p 5 off))),(14,.i v),(31,.i n),(32,.i i)],
    hp:=[.r ⟨24,1,false,[.t 1 (Ae R)]⟩,.r ⟨3,1,true,A5 p.O⟩,.r ⟨3,1,true,A5 p.X⟩,.r ⟨3,1,true,A5 p.W⟩,.r ⟨3,1,true,A5 (p.op.map Int.ofNat++J)⟩,.r ⟨109,2,true,Ao (p.pt.map UB++J2)⟩],n:=171,pin:=0 }
def K8 (R:List (List Ar)) (t:Bool) (n i off v:Nat) (A:List Ar) (p:Tst) (J:List Int) (J2:List Ar):ST:=
  { tm:=[(1,.b t),(2,.a (.c (.p 0 0))),(6,.a (.c (.s 1 n))),(7,.a (.c (.s 2 n))),(8,.a (.c (.s 3 n))),(9,.i p.c),(10,.a (.c (.s 5 p.pt.length))),(11,.a (.c (.s 4 p.op.length))),(13,.a (.c (.p 5 off))),(14,.i v),(15,.a (.c (.t 2 (Al A)))),(31,.i n),(32,.i i)],
    hp:=[.r ⟨24,1,false,[.t 1 (Ae R)]⟩,.r ⟨3,1,true,A5 p.O⟩,.r ⟨3,1,true,A5 p.X⟩,.r ⟨3,1,true,A5 p.W⟩,.r ⟨3,1,true,A5 (p.op.map Int.ofNat++J)⟩,.r ⟨109,2,true,Ao (p.pt.map UB++J2)⟩],n:=171,pin:=0 }
theorem Gn (l:List Nat) (v:Nat) (J:List Int):(A5 (l.map Int.ofNat++J)).take l.length++[C.v (.int .i64 v)]=A5 ((l++[v]).map Int.ofNat++[]):=by
 rw [AB,List.take_append_of_le_length (by simp),gE7 (by simp),Az,List.append_nil,List.map_append];rfl
theorem FQ (f:List Nat) (L:List Ar):(Ao L).map (C.ren f)=Ao L:=by
 unfold Ao
 rw [List.map_flatMap]
 rfl
theorem Jc {P:Program} {c:Code} {Q:Exit->ST->Prop} {K:ST->Prop} {G:Prop} {α:Type} (hK:∀ st',AW P c st' Q->K st') (T:α->ST) (good:α->Prop) (hb:(∀ st' x,good x->Le st' (T x)->K st')->G) (h:∀ x,good x->AW P c (T x) Q):G:=
 hb fun st' x hg hl=>hK st' (B1 hl (h x hg))
theorem Jd (P:List (Nat × Nat)) (v k:Nat) (J:List Ar):Ao ((P++[(v,k)]).map UB++J)=Ao (P.map UB)++(C.v (.int .i64 v) :: C.v (.int .i64 k) :: Ao J):=by
 rw [List.map_append,<- F1,<- F1,List.append_assoc];rfl
theorem E6 (P:List (Nat × Nat)):(Ao (P.map UB)).length=P.length*2:=by rw [Aq,List.length_map]
theorem Lp (P:List (Nat × Nat)) (v k:Nat) (J:List Ar):(Ao ((P++[(v,k)]).map UB++J))[P.length*2]?=some (.v (.int .i64 v)):=by
 rw [Jd,gEb (by rw [E6];exact Nat.le_refl _),E6,Nat.sub_self];rfl
theorem ON (P:List (Nat × Nat)) (v k:Nat) (J:List Ar):(Ao ((P++[(v,k)]).map UB++J))[P.length*2+1]?=some (.v (.int .i64 k)):=by
 rw [Jd,gEb (by rw [E6];omega),E6,Nat.add_sub_cancel_left];rfl
theorem PB (P:List (Nat × Nat)) (v k:Nat) (J:List Ar) (k':Nat):(Ao ((P++[(v,k)]).map UB++J)).set (P.length*2+1) (.v (.int .i64 k'))=Ao ((P++[(v,k')]).map UB++J):=by
 rw [Jd,Jd,List.set_append_right _ _ (by rw [E6];omega),E6,Nat.add_sub_cancel_left];rfl
theorem NA (P:List (Nat × Nat)) (t:Nat) (J:List Ar):(Ao (P.map UB++J)).take (P.length*2)++[C.v (.int .i64 t),C.v (.int .i64 0)]=Ao ((P++[(t,0)]).map UB++[]):=by
 rw [FP,List.take_append_of_le_length (by simp),gE7 (by simp),List.append_nil,List.map_append,<- F1];rfl
theorem Lq {L:List Int} {t v:Nat} {c:Nat} (ht:t<L.length) (h:0<Ux L 0 v):0<Ux (L.set t ((c:Int)+1)) 0 v:=by
 rw [CO ht];unfold upd;split <;> omega
theorem Lt {P:Program} {c:Code} {Q:Exit->ST->Prop} {K:ST->Prop} {G:Prop} (hK:∀ st',AW P c st' Q->K st') (T:ST) (hb:(∀ st',Le st' T->K st')->G) (h:AW P c T Q):G:=
 hb fun st' hl=>hK st' (B1 hl h)
set_option maxHeartbeats 8000000 in
theorem PC (R : List (List Ar)) (t : Bool) (hv : Bg R = true) (h1 : 1 <= R.length) (hn : R.length <= 1000000) (hr : ∀ r ∈ R, r.length <= 1000000) : FC Tryd.prog 43 [BS R, .b t] [] (fun r o => ∃ C : List Int, C.length = R.length /\ (∀ v, v < R.length -> Least (Uy t R) v (Ux C (-1) v)) /\ o = [Am C] /\ r = .a (.c (.s 0 R.length))) := by
 refine A8 Tryd.func43 rfl (by rw [Tryd.ntmps43]; simp) ?_
 rw [Tryd.ntmps43]
 simp only [Bs, BS]
 (repeat (first | (refine Au ?_; intro K hK) | refine Ah ?_ | refine Aa ?_ | (refine B4 rfl rfl ?_; intro K1 hK1; simp only [go_sem]; (first | refine hK1 _ ?_ | refine AE (hK1 _ ?_)); clear hK1 K1) | ((first | refine Ab ?_ | refine Aj ?_); refine hK _ ?_; clear hK K)))
 (refine A9 rfl ?_; intro K1 hK1; refine (Bu (ids := []) (CC R (by omega) (fun r h => by have := hr r h; omega)) rfl rfl (by simp only [go_sem]) (by kernel_rfl) (by (simp only [List.append_nil, go_sem]) <;> rfl) ?_).stp)
 rintro _ _ ⟨rfl, rfl⟩
 (simp only [AK, CB, List.append_nil, List.nil_append, List.length_map, go_sem]; refine hK1 _ ?_; clear hK1 K1)
 (repeat (first | (refine Au ?_; intro K hK) | refine Ah ?_ | refine Aa ?_ | (refine B4 rfl rfl ?_; intro K1 hK1; simp only [go_sem, hv, Bool.not_true]; (first | refine hK1 _ ?_ | refine AE (hK1 _ ?_)); clear hK1 K1) | ((first | refine Ab ?_ | refine Aj ?_); refine hK _ ?_; clear hK K)))
 (refine Aw ?_; intro X Y hX hY; simp only [go_sem])
 refine hY ?_
 clear hX hY X Y
 (repeat (first | (refine Au ?_; intro K hK) | refine Ah ?_ | refine Aa ?_ | (refine B4 rfl rfl ?_; intro K1 hK1; simp only [go_sem, A6]; (first | refine hK1 _ ?_ | refine AE (hK1 _ ?_)); clear hK1 K1) | ((first | refine Ab ?_ | refine Aj ?_); refine hK _ ?_; clear hK K)))
 (refine A9 rfl ?_; intro K1 hK1; refine As (ids := []) [1] (F8 (-1) R.length h1 hn) rfl rfl (by simp only [go_sem]) (by first | assumption | kernel_rfl) rfl rfl (by (simp only [List.map_append, List.append_nil, go_sem]) <;> rfl) (by (simp only [Tx, Am, A5, go_sem]) <;> rfl) ?_ ?_)
 ·rintro _ _ ⟨rfl, rfl⟩; rfl
 rintro _ _ ⟨rfl, rfl⟩
 (simp only [AK, CB, Am, Bw, List.append_nil, List.nil_append, List.length_map, go_sem]; refine hK1 _ ?_; clear hK1 K1)
 (repeat (first | (refine Au ?_; intro K hK) | refine Ah ?_ | refine Aa ?_ | (refine B4 rfl rfl ?_; intro K1 hK1; simp only [go_sem]; (first | refine hK1 _ ?_ | refine AE (hK1 _ ?_)); clear hK1 K1) | ((first | refine Ab ?_ | refine Aj ?_); refine hK _ ?_; clear hK K)))
 refine Lt hK { tm := [(1, .b t), (2, .a (.c (.p 0 0))), (5, .i R.length), (6, .a (.c (.s 1 R.length))), (7, .a (.c (.s 2 R.length))), (8, .a (.c (.s 3 R.length)))], hp := [.r ⟨24, 1, false, [.t 1 (Ae R)]⟩, .r ⟨3, 1, true, A5 (List.replicate R.length (-1))⟩, .r ⟨3, 1, true, A5 (List.replicate R.length 0)⟩, .r ⟨3, 1, true, A5 (List.replicate R.length 0)⟩], n := 171, pin := 0 } ?_ ?_
 ·clear hK; intro hK
  have e0 : List.replicate R.length (C.v (.int .i64 0)) = A5 (List.replicate R.length 0) := by simp [A5]
  (refine B7 [] (.m 0 0 0 (.m 2 0 0 (.f 1 (.m 4 0 0 (.a 3 (.m 5 0 0 .e))) 3 (.a 1 (.m 4 0 0 (.m 5 0 0 .e)))))) (by kernel_rfl) (by kernel_rfl) (by intro c st h; simp [Ai, AX, Tz] at h) ?_)
  (repeat (first | ((first | refine U2 rfl rfl rfl ?_ | refine U3 rfl rfl rfl rfl rfl rfl rfl ?_ | refine Ng rfl rfl rfl ?_); intro K1 hK1; simp only [go_sem]; (first | refine hK1 _ ?_ | refine AE (hK1 _ ?_)); clear hK1 K1) | (refine CA ⟨by simp, by simp, ?_⟩; refine hK _ ?_; clear hK K)))
  refine U6 ?_ ?_
  ·(refine U4 rfl rfl ?_; intro K1 hK1; refine BW rfl ?_; simp only [go_sem]; (first | refine hK1 _ ?_ | refine AE (hK1 _ ?_)); clear hK1 K1)
   (repeat (first | ((first | refine U2 rfl rfl rfl ?_ | refine U3 rfl rfl rfl rfl rfl rfl rfl ?_ | refine Ng rfl rfl rfl ?_); intro K1 hK1; simp only [go_sem]; (first | refine hK1 _ ?_ | refine AE (hK1 _ ?_)); clear hK1 K1) | (refine CA ⟨by simp, by simp, ?_⟩; refine hK _ ?_; clear hK K)))
   (refine U4 rfl rfl ?_; intro K1 hK1; refine BW rfl ?_; simp only [go_sem]; (first | refine hK1 _ ?_ | refine AE (hK1 _ ?_)); clear hK1 K1)
   (repeat (first | ((first | refine U2 rfl rfl rfl ?_ | refine U3 rfl rfl rfl rfl rfl rfl rfl ?_ | refine Ng rfl rfl rfl ?_); intro K1 hK1; simp only [go_sem]; (first | refine hK1 _ ?_ | refine AE (hK1 _ ?_)); clear hK1 K1) | (refine CA ⟨by simp, by simp, ?_⟩; refine hK _ ?_; clear hK K)))
   rw [e0]
   refine Le.trans (Ad [0, 2, 3, 4] rfl rfl) ?_
   (try simp only [List.set_nil, List.take_nil, List.take_zero, List.map_append, go_sem])
   (try simp only [A7])
   (refine BG ?_; simp only [Dl, go_sem]; try simp)
  ·(refine U4 rfl rfl ?_; intro K1 hK1; refine BW rfl ?_; simp only [go_sem]; (first | refine hK1 _ ?_ | refine AE (hK1 _ ?_)); clear hK1 K1)
   (repeat (first | ((first | refine U2 rfl rfl rfl ?_ | refine U3 rfl rfl rfl rfl rfl rfl rfl ?_ | refine Ng rfl rfl rfl ?_); intro K1 hK1; simp only [go_sem]; (first | refine hK1 _ ?_ | refine AE (hK1 _ ?_)); clear hK1 K1) | (refine CA ⟨by simp, by simp, ?_⟩; refine hK _ ?_; clear hK K)))
   (refine U4 rfl rfl ?_; intro K1 hK1; refine BW rfl ?_; simp only [go_sem]; (first | refine hK1 _ ?_ | refine AE (hK1 _ ?_)); clear hK1 K1)
   (repeat (first | ((first | refine U2 rfl rfl rfl ?_ | refine U3 rfl rfl rfl rfl rfl rfl rfl ?_ | refine Ng rfl rfl rfl ?_); intro K1 hK1; simp only [go_sem]; (first | refine hK1 _ ?_ | refine AE (hK1 _ ?_)); clear hK1 K1) | (refine CA ⟨by simp, by simp, ?_⟩; refine hK _ ?_; clear hK K)))
   rw [e0]
   refine Le.trans (Ad [0, 2, 4, 3] rfl rfl) ?_
   (try simp only [List.set_nil, List.take_nil, List.take_zero, List.map_append, go_sem])
   (try simp only [A7])
   (refine BG ?_; simp only [Dl, go_sem]; try simp)
 (repeat (first | (refine Au ?_; intro K hK) | refine Ah ?_ | refine Aa ?_ | (refine B4 rfl rfl ?_; intro K1 hK1; simp only [go_sem]; (first | refine hK1 _ ?_ | refine AE (hK1 _ ?_)); clear hK1 K1) | ((first | refine Ab ?_ | refine Aj ?_); refine hK _ ?_; clear hK K)))
 refine B1 (CK 10 109 2 ?_) ?_
 ·simp only [go_sem]
 refine B1 (CK 11 3 1 ?_) ?_
 ·simp only [go_sem]
 refine B1 (Ad [0, 1, 2, 3, 5, 4] rfl rfl) ?_
 (try simp only [List.set_nil, List.take_nil, List.take_zero, List.map_append, go_sem])
 (try simp only [A7])
 refine Ac (fun x : Nat × Tst × List Int × List Ar => E5 R t R.length x.1 x.2.1 x.2.2.1 x.2.2.2) (fun x => x.1 <= R.length /\ x.2.1.pt = [] /\ Tst.Ok (Uy t R) R.length x.2.1 /\ (∀ v, v < x.1 -> 0 < Ux x.2.1.X 0 v)) (fun x => R.length - x.1) (0, { X := List.replicate R.length 0, W := List.replicate R.length 0, O := List.replicate R.length (-1), op := [], pt := [], c := 0 }, [], []) ?_ ?_ ?_
 ·exact ⟨by simp, rfl, Tst.start, fun v h => by simp at h⟩
 ·unfold E5
  (refine BG ?_; simp only [Dl, go_sem]; try simp)
 rintro ⟨i, p, J, J2⟩ ⟨hi, hp, hO, hvis⟩ K hK
 simp only at hi hp hO hvis
 have lX := hO.lX
 by_cases hlt : i < R.length
 rotate_left
 ·have d1 : decide ((i : Int) < (R.length : Int)) = false := by simpa using hlt
  unfold E5
  (repeat (first | (refine Au ?_; intro K hK) | refine Ah ?_ | refine Aa ?_ | (refine B4 rfl rfl ?_; intro K1 hK1; simp only [go_sem, d1]; (first | refine hK1 _ ?_ | refine AE (hK1 _ ?_)); clear hK1 K1) | ((first | refine Ab ?_ | refine Aj ?_); refine hK _ ?_; clear hK K)))
  (refine Aw ?_; intro X Y hX hY; simp only [go_sem])
  refine hY ?_
  clear hX hY X Y
  (refine Dk ?_; simp only [Ai, AX, reduceIte, Nat.reduceEqDiff]; (first | refine hK _ ?_ | (clear hK K; refine hK _ ?_) | (clear hK K; clear hK K; refine hK _ ?_) | (clear hK K; clear hK K; clear hK K; refine hK _ ?_) | (clear hK K; clear hK K; clear hK K; clear hK K; refine hK _ ?_) | (clear hK K; clear hK K; clear hK K; clear hK K; clear hK K; refine hK _ ?_)); clear hK K)
  (repeat (first | (refine Au ?_; intro K hK) | refine Ah ?_ | refine Aa ?_ | (refine B4 rfl rfl ?_; intro K1 hK1; simp only [go_sem]; (first | refine hK1 _ ?_ | refine AE (hK1 _ ?_)); clear hK1 K1) | ((first | refine Ab ?_ | refine Aj ?_); refine hK _ ?_; clear hK K)))
  ((try refine AU ?_); (try simp only [Ai, AX]); refine BQ (Ad [1] rfl rfl) ?_; (try simp only [List.set_nil, List.take_nil, List.take_zero, List.map_append, go_sem]); ((try refine AU ?_); (try refine Ab ?_); (try simp only [Ai, AX]); refine C6 (by first | exact .inl rfl | exact .inr rfl) rfl ?_; simp only [TC, GQ, FD, Hb, Tryd.results43, go_sem, true_and, and_true, A7]))
  have hie : i = R.length := by omega
  refine ⟨p.O, hO.lO, fun v hv2 => hO.ti.done hp (hvis v (by omega)), rfl⟩
 have d1 : decide ((i : Int) < (R.length : Int)) = true := by simpa using hlt
 unfold E5
 (repeat (first | (refine Au ?_; intro K hK) | refine Ah ?_ | refine Aa ?_ | (refine B4 rfl rfl ?_; intro K1 hK1; simp only [go_sem, d1]; (first | refine hK1 _ ?_ | refine AE (hK1 _ ?_)); clear hK1 K1) | ((first | refine Ab ?_ | refine Aj ?_); refine hK _ ?_; clear hK K)))
 (refine Aw ?_; intro X Y hX hY; simp only [go_sem])
 refine hX ?_
 clear hX hY X Y
 (repeat (first | (refine Au ?_; intro K hK) | refine Ah ?_ | refine Aa ?_ | (refine B4 rfl rfl ?_; intro K1 hK1; simp only [go_sem]; (first | refine hK1 _ ?_ | refine AE (hK1 _ ?_)); clear hK1 K1) | ((first | refine Ab ?_ | refine Aj ?_); refine hK _ ?_; clear hK K)))
 refine Na ?_
 have hiX : i < p.X.length := by omega
 have gx : (A5 p.X)[i]? = some (.v (.int .i64 p.X[i])) := Ak (gE1 hiX)
 have hxi : Ux p.X 0 i = p.X[i] := BB hiX
 by_cases hx : p.X[i] > 0
 ·have d2 : decide (p.X[i] > 0) = true := by simpa using hx
  (repeat (first | (refine Au ?_; intro K hK) | refine Ah ?_ | refine Aa ?_ | (refine B4 rfl rfl ?_; intro K1 hK1; simp only [go_sem, gx, A2, lX, d2]; (first | refine hK1 _ ?_ | refine AE (hK1 _ ?_)); clear hK1 K1) | ((first | refine Ab ?_ | refine Aj ?_); refine hK _ ?_; clear hK K)))
  (refine Aw ?_; intro X Y hX hY; simp only [go_sem])
  refine hX ?_
  clear hX hY X Y
  (refine Dk ?_; simp only [Ai, AX, reduceIte, Nat.reduceEqDiff]; (first | refine hK _ ?_ | (clear hK K; refine hK _ ?_) | (clear hK K; clear hK K; refine hK _ ?_) | (clear hK K; clear hK K; clear hK K; refine hK _ ?_) | (clear hK K; clear hK K; clear hK K; clear hK K; refine hK _ ?_) | (clear hK K; clear hK K; clear hK K; clear hK K; clear hK K; refine hK _ ?_)); clear hK K)
  (repeat (first | (refine Au ?_; intro K hK) | refine Ah ?_ | refine Aa ?_ | (refine B4 rfl rfl ?_; intro K1 hK1; simp only [go_sem]; (first | refine hK1 _ ?_ | refine AE (hK1 _ ?_)); clear hK1 K1) | ((first | refine Ab ?_ | refine Aj ?_); refine hK _ ?_; clear hK K)))
  ((try refine Ab ?_); (try refine Aj ?_); try simp only [Ai])
  refine hK _ (i + 1, p, J, J2) ⟨by simp only; omega, hp, hO, fun v hv => ?_⟩ (by simp only; omega) ?_
  rotate_left
  ·unfold E5
   (refine BG ?_; simp only [Dl, go_sem]; try simp)
  rcases Nat.lt_or_ge v i with h | h
  ·exact hvis v h
  have : v = i := by simp only at hv; omega
  subst this; rw [hxi]; exact hx
 have d2 : decide (p.X[i] > 0) = false := by simpa using hx
 have hx0 : Ux p.X 0 i = 0 := by have := hO.ti.nn i; have e : p.S.idx i = Ux p.X 0 i := rfl; omega
 (repeat (first | (refine Au ?_; intro K hK) | refine Ah ?_ | refine Aa ?_ | (refine B4 rfl rfl ?_; intro K1 hK1; simp only [go_sem, gx, A2, lX, d2]; (first | refine hK1 _ ?_ | refine AE (hK1 _ ?_)); clear hK1 K1) | ((first | refine Ab ?_ | refine Aj ?_); refine hK _ ?_; clear hK K)))
 (refine Aw ?_; intro X Y hX hY; simp only [go_sem])
 refine hY ?_
 clear hX hY X Y
 (repeat (first | (refine Au ?_; intro K hK) | refine Ah ?_ | refine Aa ?_ | (refine B4 rfl rfl ?_; intro K1 hK1; simp only [go_sem, hp, List.length_nil, Nat.zero_mul, List.take_zero, List.nil_append, List.map_nil]; (first | refine hK1 _ ?_ | refine AE (hK1 _ ?_)); clear hK1 K1) | ((first | refine Ab ?_ | refine Aj ?_); refine hK _ ?_; clear hK K)))
 refine Nb ?_
 simp only [Ai]
 refine hK _ ?_
 clear hK K
 (repeat (first | (refine Au ?_; intro K hK) | refine Ah ?_ | refine Aa ?_ | (refine B4 rfl rfl ?_; intro K1 hK1; simp only [go_sem]; (first | refine hK1 _ ?_ | refine AE (hK1 _ ?_)); clear hK1 K1) | ((first | refine Ab ?_ | refine Aj ?_); refine hK _ ?_; clear hK K)))
 refine B1 (Ad [0, 1, 2, 3, 4, 7] rfl rfl) ?_
 (try simp only [List.set_nil, List.take_nil, List.take_zero, List.map_append, go_sem])
 (try simp only [A7])
 refine Ac (fun x : Bool × Tst × List Int × List Ar => E5 R t R.length i x.2.1 x.2.2.1 x.2.2.2) (fun x => Hd (Uy t R) R.length x.1 x.2.1 /\ (∀ v, v < i -> 0 < Ux x.2.1.X 0 v) /\ (0 < Ux x.2.1.X 0 i \/ x.1 = true /\ x.2.1.pt = [(i, 0)])) (fun x => x.2.1.ms x.1) (true, { p with pt := [(i, 0)] }, J, []) ?_ ?_ ?_
 ·exact ⟨hO.root hp hlt hx0, hvis, .inr ⟨rfl, rfl⟩⟩
 ·unfold E5
  (refine BG ?_; simp only [Dl, go_sem]; try simp)
 rintro ⟨b, p, J, J2⟩ ⟨hH, hvis, hri⟩ K hK
 simp only at hH hvis hri
 rcases List.eq_nil_or_concat p.pt with e | ⟨P, ⟨v, k⟩, e⟩
 ·cases b with
  | true => obtain ⟨P1, t', q, e2, _⟩ := hH; rw [e] at e2; simp at e2
  | false =>
   have hB : Uz (Uy t R) R.length p := hH
   have hxi2 : 0 < Ux p.X 0 i := by
    rcases hri with h | ⟨h, _⟩
    ·exact h
    cases h
   have d3 : decide ((p.pt.length : Int) > 0) = false := by simp [e]
   unfold E5
   (repeat (first | (refine Au ?_; intro K hK) | refine Ah ?_ | refine Aa ?_ | (refine B4 rfl rfl ?_; intro K1 hK1; simp only [go_sem, d3]; (first | refine hK1 _ ?_ | refine AE (hK1 _ ?_)); clear hK1 K1) | ((first | refine Ab ?_ | refine Aj ?_); refine hK _ ?_; clear hK K)))
   (refine Aw ?_; intro X Y hX hY; simp only [go_sem])
   refine hY ?_
   clear hX hY X Y
   (refine Dk ?_; simp only [Ai, AX, reduceIte, Nat.reduceEqDiff]; (first | refine hK _ ?_ | (clear hK K; refine hK _ ?_) | (clear hK K; clear hK K; refine hK _ ?_) | (clear hK K; clear hK K; clear hK K; refine hK _ ?_) | (clear hK K; clear hK K; clear hK K; clear hK K; refine hK _ ?_) | (clear hK K; clear hK K; clear hK K; clear hK K; clear hK K; refine hK _ ?_)); clear hK K)
   (repeat (first | (refine Au ?_; intro K hK) | refine Ah ?_ | refine Aa ?_ | (refine B4 rfl rfl ?_; intro K1 hK1; simp only [go_sem]; (first | refine hK1 _ ?_ | refine AE (hK1 _ ?_)); clear hK1 K1) | ((first | refine Ab ?_ | refine Aj ?_); refine hK _ ?_; clear hK K)))
   ((try refine Ab ?_); (try refine Aj ?_); try simp only [Ai])
   refine hK _ (i + 1, p, J, J2) ⟨by simp only; omega, e, hB.1, fun v hv => ?_⟩ (by simp only; omega) ?_
   rotate_left
   ·unfold E5
    (refine BG ?_; simp only [Dl, go_sem]; try simp)
   rcases Nat.lt_or_ge v i with h | h
   ·exact hvis v h
   have : v = i := by simp only at hv; omega
   subst this; exact hxi2
 rw [List.concat_eq_append] at e
 have hKo := hK
 generalize hm0 : p.ms b = m0 at hKo
 have eL : p.pt.length = P.length + 1 := by rw [e]; simp
 have hpl : P.length + 1 <= R.length := by
  rw [<- eL]
  cases b with
  | true =>
   obtain ⟨P1, t1, _, _, hM, _⟩ := HdA.visit (show HdA (Uy t R) R.length p from hH)
   exact hM.1.len.1
  | false => exact (show Uz (Uy t R) R.length p from hH).1.len.1
 have d3 : decide (((P.length + 1 : Nat) : Int) > 0) = true := by simp
 have e5 : ((P.length + 1 : Nat) : Int) - 1 = (P.length : Int) := by omega
 have c0 := Lp P v k J2
 have c1 := ON P v k J2
 rw [<- e] at c0 c1
 have hl6 : P.length + 1 <= (p.pt.map UB ++ J2).length := by rw [List.length_append, List.length_map, eL]; omega
 unfold E5
 rw [eL]
 (repeat (first | (refine Au ?_; intro K hK) | refine Ah ?_ | refine Aa ?_ | (refine B4 rfl rfl ?_; intro K1 hK1; simp only [go_sem, d3]; (first | refine hK1 _ ?_ | refine AE (hK1 _ ?_)); clear hK1 K1) | ((first | refine Ab ?_ | refine Aj ?_); refine hK _ ?_; clear hK K)))
 (refine Aw ?_; intro X Y hX hY; simp only [go_sem])
 refine hX ?_
 clear hX hY X Y
 (repeat (first | (refine Au ?_; intro K hK) | refine Ah ?_ | refine Aa ?_ | (refine B4 rfl rfl ?_; intro K1 hK1; simp only [go_sem, e5, Aq, c0, c1, Nat.add_zero]; (first | refine hK1 _ ?_ | refine AE (hK1 _ ?_)); clear hK1 K1) | ((first | refine Ab ?_ | refine Aj ?_); refine hK _ ?_; clear hK K)))
 refine Jc hK (fun x : Tst × List Int × List Ar => Hr R t R.length i (P.length * 2) v x.1 x.2.1 x.2.2) (fun x => Mid (Uy t R) R.length x.1 P v k /\ 2 * x.1.X.count 0 + (P.length + 1) <= p.ms b /\ (∀ u, u < i -> 0 < Ux x.1.X 0 u) /\ 0 < Ux x.1.X 0 i) ?_ ?_
 ·clear hK; intro hK
  cases b with
  | true =>
   have hA : HdA (Uy t R) R.length p := hH
   have lX := (show Tst.Ok _ _ { p with pt := _ } from hA.choose_spec.choose_spec.choose_spec.2.2.2.1).lX
   have lW := (show Tst.Ok _ _ { p with pt := _ } from hA.choose_spec.choose_spec.choose_spec.2.2.2.1).lW
   have lop := (show Tst.Ok _ _ { p with pt := _ } from hA.choose_spec.choose_spec.choose_spec.2.2.2.1).len.2.1
   simp only at lX lW lop
   obtain ⟨P1, t1, q1, q2, hM, hms, hcn⟩ := hA.visit
   rw [e] at q1
   obtain ⟨rfl, q3⟩ := List.append_inj' q1 rfl
   cases q3
   have d4 : (((0 : Nat) : Int) == 0) = true := rfl
   have hvl : v < p.X.length := by omega
   have op1 := Gn p.op v J
   have hopl : p.op.length <= (p.op.map Int.ofNat ++ J).length := by simp
   (repeat (first | (refine Au ?_; intro K hK) | refine Ah ?_ | refine Aa ?_ | (refine B4 rfl rfl ?_; intro K1 hK1; simp only [go_sem, d4]; (first | refine hK1 _ ?_ | refine AE (hK1 _ ?_)); clear hK1 K1) | ((first | refine Ab ?_ | refine Aj ?_); refine hK _ ?_; clear hK K)))
   (refine Aw ?_; intro X Y hX hY; simp only [go_sem, d4])
   refine hX ?_
   clear hX hY X Y
   (repeat (first | (refine Au ?_; intro K hK) | refine Ah ?_ | refine Aa ?_ | (refine B4 rfl rfl ?_; intro K1 hK1; simp only [go_sem, A2, lX, lW, ST.put, De, A0.cells, AL, op1]; (first | refine hK1 _ ?_ | refine AE (hK1 _ ?_)); clear hK1 K1) | ((first | refine Ab ?_ | refine Aj ?_); refine hK _ ?_; clear hK K)))
   ((try refine Ab ?_); (try refine Aj ?_); try simp only [Ai])
   refine hK _ ({ p with X := p.X.set v (p.c + 1), W := p.W.set v (p.c + 1), op := p.op ++ [v], c := p.c + 1 }, [], J2) ⟨hM, ?_, fun u hu => Lq hvl (hvis u hu), ?_⟩ ?_
   ·simp only; omega
   ·rcases hri with h | ⟨_, h⟩
    ·exact Lq hvl h
    rw [e] at h
    have hvi : v = i := by
     have := List.append_inj' (t₁ := [(v, 0)]) (s₂ := []) h rfl
     cases this.2; rfl
    subst hvi
    simp only
    rw [CO hvl, Bv]; omega
   refine Le.trans (Ad [0, 1, 2, 3, 7, 5] rfl rfl) ?_
   (try simp only [List.set_nil, List.take_nil, List.take_zero, List.map_append, go_sem])
   (try simp only [A7, FQ])
   simp only [Hr, eL, List.map_append, List.map_cons, List.map_nil, List.length_append, List.length_cons, List.length_nil]
   (refine BG ?_; simp only [Dl, go_sem]; try simp)
  | false =>
   have hB : Uz (Uy t R) R.length p := hH
   have hk1 := hB.2 v k (by rw [e]; simp)
   have d4 : ((k : Int) == 0) = false := by simp; omega
   (repeat (first | (refine Au ?_; intro K hK) | refine Ah ?_ | refine Aa ?_ | (refine B4 rfl rfl ?_; intro K1 hK1; simp only [go_sem, d4]; (first | refine hK1 _ ?_ | refine AE (hK1 _ ?_)); clear hK1 K1) | ((first | refine Ab ?_ | refine Aj ?_); refine hK _ ?_; clear hK K)))
   (refine Aw ?_; intro X Y hX hY; simp only [go_sem, d4])
   refine hY ?_
   clear hX hY X Y
   ((try refine Ab ?_); (try refine Aj ?_); try simp only [Ai])
   refine hK _ (p, J, J2) ⟨⟨hB.1, e, fun g j hg => hB.2 g j (by rw [e]; exact List.mem_append_left _ hg)⟩, ?_, hvis, ?_⟩ ?_
   ·simp only [Tst.ms, eL]; simp
   ·rcases hri with h | ⟨h, _⟩
    ·exact h
    cases h
   simp only [Hr, eL]
   (refine BG ?_; simp only [Dl, go_sem]; try simp)
 clear hK
 clear c0 c1 hl6 eL e hH hri hvis
 rw [hm0]
 clear hm0
 rintro ⟨p, J, J2⟩ ⟨hM, hms, hvis, hxi⟩
 simp only at hM hms hvis hxi
 have hvn : v < R.length := hM.lt
 have hrv := hr _ (gE6 hvn)
 unfold Hr
 (repeat (first | (refine Au ?_; intro K hK) | refine Ah ?_ | refine Aa ?_ | (refine B4 rfl rfl ?_; intro K1 hK1; simp only [go_sem]; (first | refine hK1 _ ?_ | refine AE (hK1 _ ?_)); clear hK1 K1) | ((first | refine Ab ?_ | refine Aj ?_); refine hK _ ?_; clear hK K)))
 (refine A9 rfl ?_; intro K1 hK1; refine (Bu (ids := []) (Gm R v t hvn (by omega) (by omega)) rfl rfl (by simp only [go_sem]) (by kernel_rfl) (by (simp only [List.append_nil, go_sem]) <;> rfl) ?_).stp)
 rintro _ _ ⟨rfl, rfl⟩
 (simp only [AK, CB, List.append_nil, List.nil_append, List.length_map, go_sem]; refine hK1 _ ?_; clear hK1 K1)
 (repeat (first | (refine Au ?_; intro K hK) | refine Ah ?_ | refine Aa ?_ | (refine B4 rfl rfl ?_; intro K1 hK1; simp only [go_sem]; (first | refine hK1 _ ?_ | refine AE (hK1 _ ?_)); clear hK1 K1) | ((first | refine Ab ?_ | refine Aj ?_); refine hK _ ?_; clear hK K)))
 obtain ⟨A, hA⟩ : ∃ A, A = Bm t R[v] := ⟨_, rfl⟩
 have hE : Uy t R v = A.map fun a => a.2.toNat := by
  unfold Uy
  rw [hA, gE2, gE1 hvn]; rfl
 have hAb : ∀ a ∈ A, 0 <= a.2 /\ a.2 < (R.length : Int) := fun a ha => by
  have h1 : a ∈ R[v] := by
   rw [hA] at ha; unfold Bm at ha
   split at ha
   ·exact (List.takeWhile_sublist _).subset ha
   exact ha
  have h2 := (gE4 hv).1.2.2.2 _ (gE6 hvn) a h1
  exact ⟨h2.2.2.1, h2.2.2.2⟩
 have hAl : A.length <= 1000000 := by
  have : A.length <= R[v].length := by
   rw [hA]; unfold Bm
   split
   ·exact (List.takeWhile_sublist _).length_le
   exact Nat.le_refl _
  omega
 rw [<- hA]
 refine Ac (fun x : Nat × Tst => K8 R t R.length i (P.length * 2) v A x.2 J J2) (fun x => Mid (Uy t R) R.length x.2 P v x.1 /\ x.2.X = p.X) (fun x => A.length - x.1) (k, p) ?_ ?_ ?_
 ·exact ⟨hM, rfl⟩
 ·simp only [K8]
  (refine BG ?_; simp only [Dl, go_sem]; try simp)
 rintro ⟨k, q⟩ ⟨hM, hqX⟩ K hK
 simp only at hM hqX
 rw [<- hqX] at hms hvis hxi
 have eP := hM.2.1
 have eL : q.pt.length = P.length + 1 := by rw [eP]; simp
 have lX := hM.1.lX
 have lW := hM.1.lW
 have lO := hM.1.lO
 have c0 := Lp P v k J2
 have c1 := ON P v k J2
 rw [<- eP] at c0 c1
 by_cases hlt : k < A.length
 ·have d1 : decide ((k : Int) < (A.length : Int)) = true := by simpa using hlt
  have ha1 := Nn hlt
  obtain ⟨tn, htn⟩ : ∃ tn : Nat, A[k].2 = tn := ⟨A[k].2.toNat, by have := (hAb _ (gE6 hlt)).1; omega⟩
  have htl : tn < R.length := by have := (hAb _ (gE6 hlt)).2; omega
  have hEk : (Uy t R v)[k]? = some tn := by
   rw [hE, List.getElem?_map, gE1 hlt, Option.map_some, htn]; rfl
  rw [htn] at ha1
  have ek : (k : Int) + 1 = ((k + 1 : Nat) : Int) := by omega
  have ts : (Ao (q.pt.map UB ++ J2)).set (P.length * 2 + 1) (.v (.int .i64 ((k + 1 : Nat) : Int))) = Ao ((P ++ [(v, k + 1)]).map UB ++ J2) := by rw [eP]; exact PB P v k J2 (k + 1)
  have gx : (A5 q.X)[tn]? = some (.v (.int .i64 q.X[tn])) := Ak (gE1 (by omega))
  have fx : Ux q.X 0 tn = q.X[tn] := BB (by omega)
  have hl5 : P.length + 1 <= (q.pt.map UB ++ J2).length := by rw [List.length_append, List.length_map, eL]; omega
  simp only [K8, eL]
  (repeat (first | (refine Au ?_; intro K hK) | refine Ah ?_ | refine Aa ?_ | (refine B4 rfl rfl ?_; intro K1 hK1; simp only [go_sem, c1, d1, A4, AA, Nat.add_zero]; (first | refine hK1 _ ?_ | refine AE (hK1 _ ?_)); clear hK1 K1) | ((first | refine Ab ?_ | refine Aj ?_); refine hK _ ?_; clear hK K)))
  (refine Aw ?_; intro X Y hX hY; simp only [go_sem])
  refine hX ?_
  clear hX hY X Y
  (repeat (first | (refine Au ?_; intro K hK) | refine Ah ?_ | refine Aa ?_ | (refine B4 rfl rfl ?_; intro K1 hK1; simp only [go_sem, c1, ha1, ek, ts, gx, lX, A2, Aq, A4, AA, Nat.add_zero, ST.put, De, A0.cells]; (first | refine hK1 _ ?_ | refine AE (hK1 _ ?_)); clear hK1 K1) | ((first | refine Ab ?_ | refine Aj ?_); refine hK _ ?_; clear hK K)))
  by_cases h0 : Ux q.X 0 tn = 0
  ·have d2 : (q.X[tn] == 0) = true := by rw [<- fx]; simpa using h0
   have tp := NA (P ++ [(v, k + 1)]) tn J2
   rw [show (P ++ [(v, k + 1)]).length = P.length + 1 from by simp] at tp
   have hpu := hM.push hEk htl h0
   have hl6 : P.length + 1 <= ((P ++ [(v, k + 1)]).map UB ++ J2).length := by simp
   (refine Aw ?_; intro X Y hX hY; simp only [go_sem, d2])
   refine hX ?_
   clear hX hY X Y
   (repeat (first | (refine Au ?_; intro K hK) | refine Ah ?_ | refine Aa ?_ | (refine B4 rfl rfl ?_; intro K1 hK1; simp only [go_sem, tp, Aq]; (first | refine hK1 _ ?_ | refine AE (hK1 _ ?_)); clear hK1 K1) | ((first | refine Ab ?_ | refine Aj ?_); refine hK _ ?_; clear hK K)))
   (refine Dk ?_; simp only [Ai, AX, reduceIte, Nat.reduceEqDiff])
   refine hKo _ (true, { q with pt := P ++ [(v, k + 1)] ++ [(tn, 0)] }, J, []) ⟨hpu, hvis, .inl hxi⟩ ?_ ?_
   ·simp only [Tst.ms, if_true, List.length_append, List.length_cons, List.length_nil]
    omega
   refine Le.trans (Ad [0, 1, 2, 3, 4, 7] rfl rfl) ?_
   (try simp only [List.set_nil, List.take_nil, List.take_zero, List.map_append, go_sem])
   (try simp only [A7, FQ])
   simp only [E5, List.map_append, List.map_cons, List.map_nil, List.length_append, List.length_cons, List.length_nil]
   (refine BG ?_; simp only [Dl, go_sem]; try simp)
  have d2 : (q.X[tn] == 0) = false := by rw [<- fx]; simpa using h0
  have hpos : 0 < Ux q.X 0 tn := by have := hM.1.ti.nn tn; have e : q.S.idx tn = Ux q.X 0 tn := rfl; omega
  have go1 : (A5 q.O)[tn]? = some (.v (.int .i64 q.O[tn])) := Ak (gE1 (by omega))
  have fo : Ux q.O (-1) tn = q.O[tn] := BB (by omega)
  have gw : (A5 q.W)[v]? = some (.v (.int .i64 q.W[v])) := Ak (gE1 (by omega))
  have fw : Ux q.W 0 v = q.W[v] := BB (by omega)
  (refine Aw ?_; intro X Y hX hY; simp only [go_sem, d2])
  refine hY ?_
  clear hX hY X Y
  by_cases ho : Ux q.O (-1) tn < 0
  rotate_left
  ·have d3 : decide (q.O[tn] < 0) = false := by rw [<- fo]; simpa using ho
   (repeat (first | (refine Au ?_; intro K hK) | refine Ah ?_ | refine Aa ?_ | (refine B4 rfl rfl ?_; intro K1 hK1; simp only [go_sem, go1, lO, A2, d3]; (first | refine hK1 _ ?_ | refine AE (hK1 _ ?_)); clear hK1 K1) | ((first | refine Ab ?_ | refine Aj ?_); refine hK _ ?_; clear hK K)))
   (refine Aw ?_; intro X Y hX hY; simp only [go_sem])
   refine hY ?_
   clear hX hY X Y
   (repeat (first | (refine Au ?_; intro K hK) | refine Ah ?_ | refine Aa ?_ | (refine B4 rfl rfl ?_; intro K1 hK1; simp only [go_sem]; (first | refine hK1 _ ?_ | refine AE (hK1 _ ?_)); clear hK1 K1) | ((first | refine Ab ?_ | refine Aj ?_); refine hK _ ?_; clear hK K)))
   ((try refine Ab ?_); (try refine Aj ?_); try simp only [Ai])
   refine hK _ (k + 1, { q with pt := P ++ [(v, k + 1)] }) ⟨hM.edge1 hEk hpos (by omega), hqX⟩ (by simp only; omega) ?_
   simp only [K8]
   (refine BG ?_; simp only [Dl, go_sem]; try simp)
  have d3 : decide (q.O[tn] < 0) = true := by rw [<- fo]; simpa using ho
  (repeat (first | (refine Au ?_; intro K hK) | refine Ah ?_ | refine Aa ?_ | (refine B4 rfl rfl ?_; intro K1 hK1; simp only [go_sem, go1, lO, A2, d3]; (first | refine hK1 _ ?_ | refine AE (hK1 _ ?_)); clear hK1 K1) | ((first | refine Ab ?_ | refine Aj ?_); refine hK _ ?_; clear hK K)))
  (refine Aw ?_; intro X Y hX hY; simp only [go_sem])
  refine hX ?_
  clear hX hY X Y
  (repeat (first | (refine Au ?_; intro K hK) | refine Ah ?_ | refine Aa ?_ | (refine B4 rfl rfl ?_; intro K1 hK1; simp only [go_sem]; (first | refine hK1 _ ?_ | refine AE (hK1 _ ?_)); clear hK1 K1) | ((first | refine Ab ?_ | refine Aj ?_); refine hK _ ?_; clear hK K)))
  (refine B7 [] (.m 0 0 0 (.m 1 0 0 (.m 2 0 0 (.m 3 0 0 (.m 4 0 0 (.m 5 1 12 (.m 6 0 0 (.m 7 0 0 (.m 8 0 0 (.m 9 1 12 (.m 10 0 0 (.m 11 0 0 (.a 12 .e))))))))))))) (by kernel_rfl) (by kernel_rfl) (by intro c st h; simp [Ai, AX, Tz] at h) ?_)
  (repeat (first | ((first | refine U2 rfl rfl rfl ?_ | refine U3 rfl rfl rfl rfl rfl rfl rfl ?_ | refine Ng rfl rfl rfl ?_); intro K1 hK1; simp only [go_sem, gw, gx, lW, lX, A2]; (first | refine hK1 _ ?_ | refine AE (hK1 _ ?_)); clear hK1 K1) | (refine CA ⟨by simp, by simp, ?_⟩; refine hK _ ?_; clear hK K)))
  (refine U5 rfl rfl rfl rfl ?_; intro K1 hK1; refine Ba rfl ?_; simp only [go_sem, ST.put, De, A0.cells, AL, A2, lW]; (first | refine hK1 _ ?_ | refine AE (hK1 _ ?_)); clear hK1 K1)
  refine CA ⟨by simp, by simp, ?_⟩
  simp only [Ai, AX]
  refine hK _ (k + 1, { q with W := q.W.set v (UA (Ux q.W 0 v) (Ux q.X 0 tn)), pt := P ++ [(v, k + 1)] }) ⟨hM.edge2 hEk hpos ho, hqX⟩ (by simp only; omega) ?_
  simp only [K8, UA, fw, fx, List.map_append, List.map_cons, List.map_nil, List.length_append, List.length_cons, List.length_nil]
  (refine BG ?_; simp only [Dl, go_sem]; try simp)
 have d1 : decide ((k : Int) < (A.length : Int)) = false := by simpa using hlt
 have hkE : (Uy t R v).length <= k := by rw [hE, List.length_map]; omega
 have gw : (A5 q.W)[v]? = some (.v (.int .i64 q.W[v])) := Ak (gE1 (by omega))
 have fw : Ux q.W 0 v = q.W[v] := BB (by omega)
 have gx : (A5 q.X)[v]? = some (.v (.int .i64 q.X[v])) := Ak (gE1 (by omega))
 have fx : Ux q.X 0 v = q.X[v] := BB (by omega)
 simp only [K8, eL]
 (repeat (first | (refine Au ?_; intro K hK) | refine Ah ?_ | refine Aa ?_ | (refine B4 rfl rfl ?_; intro K1 hK1; simp only [go_sem, c1, d1, A4, AA, Nat.add_zero]; (first | refine hK1 _ ?_ | refine AE (hK1 _ ?_)); clear hK1 K1) | ((first | refine Ab ?_ | refine Aj ?_); refine hK _ ?_; clear hK K)))
 (refine Aw ?_; intro X Y hX hY; simp only [go_sem])
 refine hY ?_
 clear hX hY X Y
 (refine Dk ?_; simp only [Ai, AX, reduceIte, Nat.reduceEqDiff]; (first | refine hK _ ?_ | (clear hK K; refine hK _ ?_) | (clear hK K; clear hK K; refine hK _ ?_) | (clear hK K; clear hK K; clear hK K; refine hK _ ?_) | (clear hK K; clear hK K; clear hK K; clear hK K; refine hK _ ?_) | (clear hK K; clear hK K; clear hK K; clear hK K; clear hK K; refine hK _ ?_)); clear hK K)
 (repeat (first | (refine Au ?_; intro K hK) | refine Ah ?_ | refine Aa ?_ | (refine B4 rfl rfl ?_; intro K1 hK1; simp only [go_sem]; (first | refine hK1 _ ?_ | refine AE (hK1 _ ?_)); clear hK1 K1) | ((first | refine Ab ?_ | refine Aj ?_); refine hK _ ?_; clear hK K)))
 (refine Ag 8 [(0, 0), (1, 0), (2, 0), (3, 1), (4, 0), (5, 0), (6, 0), (7, 1), (8, 2)] (by kernel_rfl) (by kernel_rfl) (by intro c st h; simp [Ai, AX, Tz] at h) ?_)
 (repeat (first | ((first | refine QN rfl rfl rfl ?_ | refine QO rfl rfl rfl ?_); intro K1 hK1; simp only [go_sem, gw, gx, lW, lX, A2]; (first | refine hK1 _ ?_ | refine AE (hK1 _ ?_)); clear hK1 K1) | (refine QP rfl rfl rfl rfl ?_; intro K1 hK1; simp only [go_sem, gw, gx, lW, lX, A2]; (first | refine hK1 _ ?_ | refine AE (hK1 _ ?_)); clear hK1 K1) | (refine Hh ?_; refine hK _ ?_; clear hK K)))
 refine Jc hK (fun x : Tst × List Int => Hr R t R.length i (P.length * 2) v x.1 x.2 J2) (fun x => x.1.pt = q.pt /\ x.1.W = q.W /\ x.1.X = q.X /\ Uz (Uy t R) R.length { x.1 with W := DM q.W v P, pt := P }) ?_ ?_
 ·clear hK; intro hK
  by_cases hl : Ux q.W 0 v = Ux q.X 0 v
  rotate_left
  ·have d2 : (q.W[v] == q.X[v]) = false := by rw [<- fw, <- fx]; simpa using hl
   (refine Aw ?_; intro X Y hX hY; simp only [go_sem, d2])
   refine hY ?_
   clear hX hY X Y
   ((try refine Ab ?_); (try refine Aj ?_); try simp only [Ai])
   refine hK _ (q, J) ⟨rfl, rfl, rfl, hM.pop hkE hl⟩ ?_
   simp only [Hr, eL]
   (refine BG ?_; simp only [Dl, go_sem]; try simp)
  have d2 : (q.W[v] == q.X[v]) = true := by rw [<- fw, <- fx]; simpa using hl
  (refine Aw ?_; intro X Y hX hY; simp only [go_sem, d2])
  refine hX ?_
  clear hX hY X Y
  obtain ⟨O1, O2, ho, ho1, ho2, hob⟩ := hM.split
  have hC := hM.close hkE hl ho
  have hopn := hM.1.len.2.1
  have hgj : ∀ j, j < q.op.length -> (q.op.map Int.ofNat ++ J)[j]? = q.op[j]?.map Int.ofNat := fun j hj => by
   rw [gEa (by simpa using hj), List.getElem?_map]
  have hO1 : O1.length < q.op.length := by rw [ho]; simp
  have hcl := Ns (q.op.map Int.ofNat ++ J) q.O q.op.length O1.length v hO1 (by simp) (by rw [hgj _ hO1, ho]; simp)
   (fun j hj1 hj2 => by
    rw [hgj j hj2, ho, gEb (by omega)]
    obtain ⟨d, hd⟩ : ∃ d, j - O1.length = d + 1 := ⟨j - O1.length - 1, by omega⟩
    rw [hd, List.getElem?_cons_succ]
    intro hx
    obtain ⟨y, hy1, hy2⟩ := Option.map_eq_some_iff.1 hx
    have hyv : y = v := Int.ofNat.inj hy2
    have := ho2 y (gE9 hy1)
    rw [hyv] at this
    omega)
   (fun j x hj1 hj2 hx => by
    rw [hgj j hj2] at hx
    obtain ⟨y, hy1, hy2⟩ := Option.map_eq_some_iff.1 hx
    have := hob y (gE9 hy1)
    rw [<- hy2, lO]
    exact ⟨Int.natCast_nonneg y, Int.ofNat_lt.2 this⟩)
   (by omega) (by omega)
  have hseg : ((q.op.map Int.ofNat ++ J).drop O1.length).take (q.op.length - O1.length) = (v :: O2).map Int.ofNat := by
   rw [ho, List.map_append, List.append_assoc, List.drop_append_of_le_length (by simp), List.drop_of_length_le (by simp), List.nil_append, List.take_append_of_le_length (by simp), gE7 (by simp)]
  rw [hseg, lO] at hcl
  have hJ : q.op.map Int.ofNat ++ J = O1.map Int.ofNat ++ ((v :: O2).map Int.ofNat ++ J) := by rw [ho, List.map_append, List.append_assoc]
  (repeat (first | (refine Au ?_; intro K hK) | refine Ah ?_ | refine Aa ?_ | (refine B4 rfl rfl ?_; intro K1 hK1; simp only [go_sem]; (first | refine hK1 _ ?_ | refine AE (hK1 _ ?_)); clear hK1 K1) | ((first | refine Ab ?_ | refine Aj ?_); refine hK _ ?_; clear hK K)))
  (refine A9 rfl ?_; intro K1 hK1; refine As (ids := []) [4, 1] (hcl) rfl rfl (by simp only [go_sem]) (by first | assumption | kernel_rfl) rfl rfl (by (simp only [List.map_append, List.append_nil, go_sem]) <;> rfl) (by (simp only [Tx, Am, A7, go_sem]) <;> rfl) ?_ ?_)
  ·rintro _ _ ⟨rfl, rfl⟩; rfl
  rintro _ _ ⟨rfl, rfl⟩
  (simp only [AK, CB, Am, Bw, List.append_nil, List.nil_append, List.length_map, go_sem]; refine hK1 _ ?_; clear hK1 K1)
  (repeat (first | (refine Au ?_; intro K hK) | refine Ah ?_ | refine Aa ?_ | (refine B4 rfl rfl ?_; intro K1 hK1; simp only [go_sem]; (first | refine hK1 _ ?_ | refine AE (hK1 _ ?_)); clear hK1 K1) | ((first | refine Ab ?_ | refine Aj ?_); refine hK _ ?_; clear hK K)))
  ((try refine Ab ?_); (try refine Aj ?_); try simp only [Ai])
  refine hK _ ({ q with O := Dq q.O ((v :: O2).map Int.ofNat) (Fl v ((v :: O2).map Int.ofNat)), op := O1 }, (v :: O2).map Int.ofNat ++ J) ⟨rfl, rfl, rfl, hC⟩ ?_
  rw [hJ]
  simp only [Hr, eL]
  (refine BG ?_; simp only [Dl, go_sem]; try simp)
 clear hK
 rintro ⟨r, J3⟩ ⟨hr1, hr2, hr3, hB⟩
 simp only at hr1 hr2 hr3 hB
 rw [<- hr3] at hms hvis hxi
 have rL : r.pt.length = P.length + 1 := by rw [hr1, eL]
 have rP : r.pt = P ++ [(v, k)] := by rw [hr1, eP]
 have rW : r.W.length = R.length := by rw [hr2, lW]
 have hl7 : P.length + 1 <= (r.pt.map UB ++ J2).length := by rw [List.length_append, List.length_map, rL]; omega
 have rJ : r.pt.map UB ++ J2 = P.map UB ++ (UB (v, k) :: J2) := by rw [rP, List.map_append, List.append_assoc]; rfl
 simp only [Hr, rL]
 rcases List.eq_nil_or_concat P with hP | ⟨P', ⟨u, j⟩, hP⟩
 ·have hPl : P.length = 0 := by rw [hP]; rfl
  have d5 : decide ((P.length : Int) > 0) = false := by rw [hPl]; rfl
  (repeat (first | (refine Au ?_; intro K hK) | refine Ah ?_ | refine Aa ?_ | (refine B4 rfl rfl ?_; intro K1 hK1; simp only [go_sem, e5, d5, Aq]; (first | refine hK1 _ ?_ | refine AE (hK1 _ ?_)); clear hK1 K1) | ((first | refine Ab ?_ | refine Aj ?_); refine hK _ ?_; clear hK K)))
  (refine Aw ?_; intro X Y hX hY; simp only [go_sem])
  refine hY ?_
  clear hX hY X Y
  ((try refine Ab ?_); (try refine Aj ?_); try simp only [Ai])
  refine hKo _ (false, { r with W := DM q.W v P, pt := P }, J3, UB (v, k) :: J2) ⟨hB, hvis, .inl hxi⟩ ?_ ?_
  ·simp only [Tst.ms]; simp; omega
  have eW : DM q.W v P = r.W := by unfold DM; rw [hP]; exact hr2.symm
  rw [eW]
  rw [rJ]
  simp only [E5]
  (refine BG ?_; simp only [Dl, go_sem]; try simp)
 rw [List.concat_eq_append] at hP
 have hPl : P.length = P'.length + 1 := by rw [hP]; simp
 have d5 : decide ((P.length : Int) > 0) = true := by rw [hPl]; simp
 have e6 : (P.length : Int) - 1 = (P'.length : Int) := by omega
 have c6 := Lp P' u j (UB (v, k) :: J2)
 rw [<- hP, <- rJ] at c6
 have hun : u < R.length := hM.1.ti.lt u (hM.1.ti.pop u j (by show (u, j) ∈ q.pt; rw [eP, hP]; simp)).1
 have gw2 : (A5 r.W)[v]? = some (.v (.int .i64 r.W[v])) := Ak (gE1 (by omega))
 have gu2 : (A5 r.W)[u]? = some (.v (.int .i64 r.W[u])) := Ak (gE1 (by omega))
 have fw2 : Ux r.W 0 v = r.W[v] := BB (by omega)
 have fu2 : Ux r.W 0 u = r.W[u] := BB (by omega)
 have eW : DM q.W v P = r.W.set u (UA r.W[u] r.W[v]) := by
  rw [<- fw2, <- fu2, hr2]; unfold DM; rw [hP]; simp
 (repeat (first | (refine Au ?_; intro K hK) | refine Ah ?_ | refine Aa ?_ | (refine B4 rfl rfl ?_; intro K1 hK1; simp only [go_sem, e5, d5, Aq]; (first | refine hK1 _ ?_ | refine AE (hK1 _ ?_)); clear hK1 K1) | ((first | refine Ab ?_ | refine Aj ?_); refine hK _ ?_; clear hK K)))
 (refine Aw ?_; intro X Y hX hY; simp only [go_sem])
 refine hX ?_
 clear hX hY X Y
 (repeat (first | (refine Au ?_; intro K hK) | refine Ah ?_ | refine Aa ?_ | (refine B4 rfl rfl ?_; intro K1 hK1; simp only [go_sem, e6, c6, Aq, Nat.add_zero]; (first | refine hK1 _ ?_ | refine AE (hK1 _ ?_)); clear hK1 K1) | ((first | refine Ab ?_ | refine Aj ?_); refine hK _ ?_; clear hK K)))
 (refine B7 [] (.m 0 0 0 (.m 1 0 0 (.m 2 0 0 (.m 3 0 0 (.m 4 0 0 (.m 5 1 12 (.m 6 0 0 (.m 7 0 0 (.m 8 0 0 (.m 9 1 12 (.m 10 0 0 (.m 11 0 0 (.a 12 .e))))))))))))) (by kernel_rfl) (by kernel_rfl) (by intro c st h; simp [Ai, AX, Tz] at h) ?_)
 (repeat (first | ((first | refine U2 rfl rfl rfl ?_ | refine U3 rfl rfl rfl rfl rfl rfl rfl ?_ | refine Ng rfl rfl rfl ?_); intro K1 hK1; simp only [go_sem, gw2, gu2, rW, A2]; (first | refine hK1 _ ?_ | refine AE (hK1 _ ?_)); clear hK1 K1) | (refine CA ⟨by simp, by simp, ?_⟩; refine hK _ ?_; clear hK K)))
 (refine U5 rfl rfl rfl rfl ?_; intro K1 hK1; refine Ba rfl ?_; simp only [go_sem, ST.put, De, A0.cells, AL, A2, rW]; (first | refine hK1 _ ?_ | refine AE (hK1 _ ?_)); clear hK1 K1)
 refine CA ⟨by simp, by simp, ?_⟩
 simp only [Ai, AX]
 refine hKo _ (false, { r with W := DM q.W v P, pt := P }, J3, UB (v, k) :: J2) ⟨hB, hvis, .inl hxi⟩ ?_ ?_
 ·simp only [Tst.ms]; simp; omega
 rw [eW, rJ]
 simp only [E5, UA]
 (refine BG ?_; simp only [Dl, go_sem]; try simp)
end Go.Proofs.YtjijjfkalheokaaDoor
