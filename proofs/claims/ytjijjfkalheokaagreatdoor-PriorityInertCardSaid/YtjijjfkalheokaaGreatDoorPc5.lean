/- Lemmas. -/
import Derived.Test.YtjijjfkalheokaaGreatDoorZk
import Derived.Test.YtjijjfkalheokaaGreatDoorCh2
import Derived.Test.YtjijjfkalheokaaGreatDoorG37
import Derived.Test.YtjijjfkalheokaaGreatDoorBase
import Derived.Deep.Slices
import Derived.ProofKit
import Derived.Test.YtjijjfkalheokaaGreatDoorMF
import Derived.Test.YtjijjfkalheokaaGreatDoorRows
import Derived.OpenShut
import Derived.Test.YtjijjfkalheokaaGreatDoorMA
import Derived.Lib.LaidTab
import Derived.LaidMore
namespace Go.Proofs.YtjijjfkalheokaaGreatDoor
set_option linter.unusedVariables false
set_option linter.unusedSimpArgs false
open Go.RowKit
set_option maxRecDepth 100000
attribute [local go_sem] lga C.pl C.one

theorem Zo (T : List Int) (hT : TpOk T) (a0 : Nat) (ha : a0 <= 500000) :
  FC Tryz.prog 10 [.a (.c (.p 0 0)), .i 7] [tape T a0] (fun r o => ∃ (a' : Nat) (R : List (List Ar)), (o = [tape T a', Kv R] /\ r = B7 R) /\ a' <= a0 + 60 /\ Bv R = true /\ R.length <= 7 /\ Bw R <= 200) :=
 (T9 T hT a0 7 (by omega) (by omega) (by omega)).mono fun r o ⟨a', R, h0, h2, h3, h4, h5⟩ => by
  obtain ⟨q1, q2, q3⟩ := Rg h5 rfl h3 (by omega) (by omega)
  exact ⟨a', R, h0, by omega, q1, h4, q2⟩
theorem YB (R:List (List Ar)) (hv:Bv R=true) (hn:R.length<=30) (ht:Bw R<=400):∃ Z,FC Tryz.prog 14 [B7 R] [] (fun r o=>o=[.r ⟨25,1,false,[.t 1 (Ah Z)]⟩]/\r=.tup [.g [.t 1 (Ah Z)],.c (.v (.int .i64 0))])/\
  FC Tryz.prog 15 [B7 R] [] (fun r o=>∃ b:Bool,(b=true->EqW R Z=true)/\(∀ n V,n<=40->Cpy n V R->b=true)/\o=[]/\r=.b b)/\
  FC Tryz.prog 16 [B7 R,B7 Z] [] (fun r o=>o=[]/\r=.b (EqW R Z)):=by
 have hr:∀ r∈R,r.length<=1000000:=fun r h=>by have:=Q6 r h;omega
 have hl:=Om hv
 have t1:=B2 hl
 have t2:=Ol R
 have b1:=(OD (R:=R.map Yj) (B:=Bw (R.map Yj)) (gE4 hl).1 (fun r hr a ha=>by have:=(gE4 hl).2.2.2 r hr a ha;exact ⟨this.2.2.1,this.2.2.2⟩) (fun r hr=>Q6 r hr)).1
 rw [List.length_map] at b1
 refine ⟨(BT (R.map Yj)).1,Qx R hv (by omega) hr,(QC R hv (by omega) hr).mono ?_,Zs R _ hv (B0 hl) (by omega) (by omega) hr (fun r h=>by have:=Q6 r h;omega)⟩
 rintro _ _ ⟨B,c,p,hB,hc,_,hp,rfl,rfl⟩
 exact ⟨_,fun h=>Z5 hv (by omega) ht hB hc hp h,fun n V hn h=>h.all hv hn hB hc,rfl,rfl⟩
set_option maxHeartbeats 8000000 in
theorem Z7 (T:List Int) (hT:TpOk T) (R0:List (List Ar)) (hn0:R0.length<=140737488355328) (hr0:∀ r∈R0,r.length<=140737488355328):FC Tryz.prog 4 [As T,B7 R0] [] (fun r _=>r=.b true):=by
 refine A6 Tryz.func4 rfl (by rw [Tryz.ntmps4];simp) ?_
 rw [Tryz.ntmps4]
 simp only [Bf,As,B7]
 (refine Wt ?_;(repeat clear hK K);repeat refine kq fun K hK=>?_)
 (refine Wy (TV T) ?_;intro K1 hK1)
 rintro _ _ ⟨rfl,rfl⟩
 (simp only [As,Bl,tape,List.append_nil,List.nil_append,List.length_map,go_sem];refine hK1 _ ?_;clear hK1 K1)
 (refine Wt ?_;(repeat clear hK K);repeat refine kq fun K hK=>?_)
 refine A8 (fun p:Nat × Nat=>{ tm:=[(3,.a (.c (.p 0 0))),(5,.a (.c (.p 1 0))),(6,.i p.1)],hp:=[.r ⟨25,1,false,[.t 1 (Ah R0)]⟩,.r ⟨41,2,false,[.t 1 (Ab T),.v (.int .i64 p.2)]⟩],n:=83,pin:=0 }) (fun p=>p.1<=3/\p.2<=200*p.1) (fun p=>3 - p.1) (0,0) ?_ ?_ ?_
 ·exact ⟨by simp,by simp⟩
 ·exact WE
 rintro ⟨k,a⟩ ⟨hk,ha⟩ K hK
 simp only at hk ha ⊢
 (refine Wt ?_;(repeat clear hK K);repeat refine kq fun K hK=>?_)
 (refine At ?_;intro X Y hX hY;simp only [go_sem])
 refine ⟨fun h=>hX ?_,fun h=>hY ?_⟩
 rotate_left
 ·clear hX hY X Y
  (refine Wx ?_;repeat clear hK K)
  (refine Wt ?_;(repeat clear hK K);repeat refine kq fun K hK=>?_)
  (refine Wy (T7 R0 hn0 hr0) ?_;intro K1 hK1)
  rintro _ _ ⟨rfl,rfl⟩
  (refine Wz ?_;clear hK1 K1)
  cases hb:HI R0 with
  | true=>
   (refine Wt ?_;(repeat clear hK K);repeat refine kq fun K hK=>?_)
   refine WB ?_
   (refine Wt ?_;(repeat clear hK K);repeat refine kq fun K hK=>?_)
   (refine Wy OO ?_;intro K1 hK1)
   rintro _ _ rfl
   (refine Wz ?_;clear hK1 K1)
   (refine Wt ?_;(repeat clear hK K);repeat refine kq fun K hK=>?_)
   exact M6 Tryz.results4
  | false=>
   have hb2:R0.length<=12/\Bw R0<=60:=by
    unfold HI at hb
    simp only [Bool.or_eq_false_iff,decide_eq_false_iff_not] at hb
    omega
   cases hv:Bv R0 with
   | false=>
    have g2:=QH R0 hv hn0 hr0
    simp only [B7] at g2
    (refine Wt ?_;(repeat clear hK K);repeat refine kq fun K hK=>?_)
    (refine BV rfl rfl (by simp only [go_sem] <;> rfl) ?_;intro K1 hK1;refine (Bb (ids:=[]) (g2) rfl rfl (by simp only [go_sem]) (by kernel_rfl) (by (simp only [List.append_nil,go_sem]) <;> rfl) ?_).stp)
    rintro _ _ ⟨rfl,rfl⟩
    (refine Wz ?_;clear hK1 K1)
    (refine Wu @Bool.not_false ?_;(repeat clear hK K);repeat refine kq fun K hK=>?_)
    refine WB ?_
    (refine Wt ?_;(repeat clear hK K);repeat refine kq fun K hK=>?_)
    (refine Wy OO ?_;intro K1 hK1)
    rintro _ _ rfl
    (refine Wz ?_;clear hK1 K1)
    (refine Wt ?_;(repeat clear hK K);repeat refine kq fun K hK=>?_)
    exact M6 Tryz.results4
   | true=>
    obtain ⟨Z,g1,g2,g3⟩:=YB R0 hv (by omega) (by omega)
    simp only [B7] at g1 g2 g3
    (refine Wt ?_;(repeat clear hK K);repeat refine kq fun K hK=>?_)
    (refine BV rfl rfl (by simp only [go_sem] <;> rfl) ?_;intro K1 hK1;refine (Bb (ids:=[]) (g2) rfl rfl (by simp only [go_sem]) (by kernel_rfl) (by (simp only [List.append_nil,go_sem]) <;> rfl) ?_).stp)
    rintro _ _ ⟨b,hb3,_,rfl,rfl⟩
    (refine Wz ?_;clear hK1 K1)
    cases b with
    | false=>
     (refine Wu @Bool.not_false ?_;(repeat clear hK K);repeat refine kq fun K hK=>?_)
     refine WB ?_
     (refine Wt ?_;(repeat clear hK K);repeat refine kq fun K hK=>?_)
     (refine Wy OO ?_;intro K1 hK1)
     rintro _ _ rfl
     (refine Wz ?_;clear hK1 K1)
     (refine Wt ?_;(repeat clear hK K);repeat refine kq fun K hK=>?_)
     exact M6 Tryz.results4
    | true=>
     rw [hb3 rfl] at g3
     (refine Wu @Bool.not_true ?_;(repeat clear hK K);repeat refine kq fun K hK=>?_)
     refine WC ?_
     (refine Wt ?_;(repeat clear hK K);repeat refine kq fun K hK=>?_)
     (refine Wy g1 ?_;intro K1 hK1)
     rintro _ _ ⟨rfl,rfl⟩
     (refine Wz ?_;clear hK1 K1)
     (refine Jb ?_;(repeat clear hK K);repeat refine kq fun K hK=>?_)
     (refine BV rfl rfl (by simp only [go_sem] <;> rfl) ?_;intro K1 hK1;refine (Bb (ids:=[]) (g3) rfl rfl (by simp only [go_sem]) (by kernel_rfl) (by (simp only [List.append_nil,go_sem]) <;> rfl) ?_).stp)
     rintro _ _ ⟨rfl,rfl⟩
     (refine Wz ?_;clear hK1 K1)
     (refine Wt ?_;(repeat clear hK K);repeat refine kq fun K hK=>?_)
     (refine BV rfl rfl (by simp only [go_sem] <;> rfl) ?_;intro K1 hK1;refine (Bb (ids:=[]) (OO) rfl rfl (by simp only [go_sem]) (by kernel_rfl) (by (simp only [List.append_nil,go_sem]) <;> rfl) ?_).stp)
     rintro _ _ rfl
     (refine Wz ?_;clear hK1 K1)
     (refine Wt ?_;(repeat clear hK K);repeat refine kq fun K hK=>?_)
     exact M6 Tryz.results4
 have hlt:k<3:=by simp at h;omega
 clear hX hY X Y h
 (refine Wt ?_;(repeat clear hK K);repeat refine kq fun K hK=>?_)
 (refine Ai rfl ?_;intro K1 hK1;refine ct [1] (Zo T hT a (by omega)) ?_ ?_)
 ·rintro _ _ ⟨_,_,⟨rfl,rfl⟩,_⟩;rfl
 rintro _ _ ⟨a1,X0,⟨rfl,rfl⟩,ha1,hXv,hXn,hXt⟩
 (simp only [As,Bl,tape,Kv,B7,List.append_nil,List.nil_append,List.length_map,go_sem];refine hK1 _ ?_;clear hK1 K1)
 obtain ⟨Z,g1,g2,g3⟩:=YB X0 hXv (by omega) (by omega)
 simp only [B7] at g1 g2 g3
 (refine Jb ?_;(repeat clear hK K);repeat refine kq fun K hK=>?_)
 (refine Wy g1 ?_;intro K1 hK1)
 rintro _ _ ⟨rfl,rfl⟩
 (refine Wz ?_;clear hK1 K1)
 (repeat (first | (refine AC ?_;intro K hK) | refine Aj ?_ | refine Ad ?_ | (refine B5 rfl rfl ?_;intro K1 hK1;simp only [go_sem,ST.put,DJ,A0.cells,bne_self_eq_false];(first | refine hK1 _ ?_ | refine AD (hK1 _ ?_));clear hK1 K1) | ((first | refine Aa ?_ | refine Al ?_);refine hK _ ?_;clear hK K)))
 (refine BV rfl rfl (by simp only [go_sem] <;> rfl) ?_;intro K1 hK1;refine (Bb (ids:=[]) (g2) rfl rfl (by simp only [go_sem]) (by kernel_rfl) (by (simp only [List.append_nil,go_sem]) <;> rfl) ?_).stp)
 rintro _ _ ⟨b,hb,_,rfl,rfl⟩
 (refine Wz ?_;clear hK1 K1)
 cases b with
 | false=>
  (refine Wt ?_;(repeat clear hK K);repeat refine kq fun K hK=>?_)
  refine WC ?_
  (refine Jb ?_;(repeat clear hK K);repeat refine kq fun K hK=>?_)
  (refine Ai rfl ?_;intro K1 hK1;refine ct [1] (YH T hT a1 (by omega)) ?_ ?_)
  ·rintro _ _ ⟨_,_,_,⟨rfl,rfl⟩,_⟩;rfl
  rintro _ _ ⟨a2,V,Y0,⟨rfl,rfl⟩,ha2,hV4,hCp,hYv,hYt⟩
  (simp only [As,Bl,tape,Kv,B7,List.append_nil,List.nil_append,List.length_map,go_sem];refine hK1 _ ?_;clear hK1 K1)
  obtain ⟨Z2,k1,k2,k3⟩:=YB Y0 hYv (by rw [hCp.lY];omega) (by omega)
  simp only [B7] at k1 k2 k3
  (refine Jb ?_;(repeat clear hK K);repeat refine kq fun K hK=>?_)
  (refine Wy k1 ?_;intro K1 hK1)
  rintro _ _ ⟨rfl,rfl⟩
  (refine Wz ?_;clear hK1 K1)
  (repeat (first | (refine AC ?_;intro K hK) | refine Aj ?_ | refine Ad ?_ | (refine B5 rfl rfl ?_;intro K1 hK1;simp only [go_sem,ST.put,DJ,A0.cells,bne_self_eq_false];(first | refine hK1 _ ?_ | refine AD (hK1 _ ?_));clear hK1 K1) | ((first | refine Aa ?_ | refine Al ?_);refine hK _ ?_;clear hK K)))
  (refine BV rfl rfl (by simp only [go_sem] <;> rfl) ?_;intro K1 hK1;refine (Bb (ids:=[]) (k2) rfl rfl (by simp only [go_sem]) (by kernel_rfl) (by (simp only [List.append_nil,go_sem]) <;> rfl) ?_).stp)
  rintro _ _ ⟨b2,hb2,hb3,rfl,rfl⟩
  obtain rfl:=hb3 _ _ (by omega) hCp
  rw [hb2 rfl] at k3
  (refine Wz ?_;clear hK1 K1)
  (refine Wu @Bool.not_true ?_;(repeat clear hK K);repeat refine kq fun K hK=>?_)
  (refine BV rfl rfl (by simp only [go_sem] <;> rfl) ?_;intro K1 hK1;refine (Bb (ids:=[]) (k3) rfl rfl (by simp only [go_sem]) (by kernel_rfl) (by (simp only [List.append_nil,go_sem]) <;> rfl) ?_).stp)
  rintro _ _ ⟨rfl,rfl⟩
  (refine Wz ?_;clear hK1 K1)
  (refine Wu @Bool.not_true ?_;(repeat clear hK K);repeat refine kq fun K hK=>?_)
  refine WC ?_
  (refine Wt ?_;(repeat clear hK K);repeat refine kq fun K hK=>?_)
  refine WD ?_
  refine hK _ (k+1,a2) ⟨by simp only;omega,by simp only;omega⟩ (by simp only;omega) ?_
  refine Le.trans (A9 [0,1] rfl rfl) ?_
  (try simp only [List.set_nil,List.take_nil,List.take_zero,List.map_append,go_sem])
  exact WE
 | true=>
  rw [hb rfl] at g3
  (refine Wt ?_;(repeat clear hK K);repeat refine kq fun K hK=>?_)
  (refine BV rfl rfl (by simp only [go_sem] <;> rfl) ?_;intro K1 hK1;refine (Bb (ids:=[]) (g3) rfl rfl (by simp only [go_sem]) (by kernel_rfl) (by (simp only [List.append_nil,go_sem]) <;> rfl) ?_).stp)
  rintro _ _ ⟨rfl,rfl⟩
  (refine Wz ?_;clear hK1 K1)
  (refine Wu @Bool.not_true ?_;(repeat clear hK K);repeat refine kq fun K hK=>?_)
  refine WC ?_
  (refine Jb ?_;(repeat clear hK K);repeat refine kq fun K hK=>?_)
  (refine Ai rfl ?_;intro K1 hK1;refine ct [1] (YH T hT a1 (by omega)) ?_ ?_)
  ·rintro _ _ ⟨_,_,_,⟨rfl,rfl⟩,_⟩;rfl
  rintro _ _ ⟨a2,V,Y0,⟨rfl,rfl⟩,ha2,hV4,hCp,hYv,hYt⟩
  (simp only [As,Bl,tape,Kv,B7,List.append_nil,List.nil_append,List.length_map,go_sem];refine hK1 _ ?_;clear hK1 K1)
  obtain ⟨Z2,k1,k2,k3⟩:=YB Y0 hYv (by rw [hCp.lY];omega) (by omega)
  simp only [B7] at k1 k2 k3
  (refine Jb ?_;(repeat clear hK K);repeat refine kq fun K hK=>?_)
  (refine Wy k1 ?_;intro K1 hK1)
  rintro _ _ ⟨rfl,rfl⟩
  (refine Wz ?_;clear hK1 K1)
  (repeat (first | (refine AC ?_;intro K hK) | refine Aj ?_ | refine Ad ?_ | (refine B5 rfl rfl ?_;intro K1 hK1;simp only [go_sem,ST.put,DJ,A0.cells,bne_self_eq_false];(first | refine hK1 _ ?_ | refine AD (hK1 _ ?_));clear hK1 K1) | ((first | refine Aa ?_ | refine Al ?_);refine hK _ ?_;clear hK K)))
  (refine BV rfl rfl (by simp only [go_sem] <;> rfl) ?_;intro K1 hK1;refine (Bb (ids:=[]) (k2) rfl rfl (by simp only [go_sem]) (by kernel_rfl) (by (simp only [List.append_nil,go_sem]) <;> rfl) ?_).stp)
  rintro _ _ ⟨b2,hb2,hb3,rfl,rfl⟩
  obtain rfl:=hb3 _ _ (by omega) hCp
  rw [hb2 rfl] at k3
  (refine Wz ?_;clear hK1 K1)
  (refine Wu @Bool.not_true ?_;(repeat clear hK K);repeat refine kq fun K hK=>?_)
  (refine BV rfl rfl (by simp only [go_sem] <;> rfl) ?_;intro K1 hK1;refine (Bb (ids:=[]) (k3) rfl rfl (by simp only [go_sem]) (by kernel_rfl) (by (simp only [List.append_nil,go_sem]) <;> rfl) ?_).stp)
  rintro _ _ ⟨rfl,rfl⟩
  (refine Wz ?_;clear hK1 K1)
  (refine Wu @Bool.not_true ?_;(repeat clear hK K);repeat refine kq fun K hK=>?_)
  refine WC ?_
  (refine Wt ?_;(repeat clear hK K);repeat refine kq fun K hK=>?_)
  refine WD ?_
  refine hK _ (k+1,a2) ⟨by simp only;omega,by simp only;omega⟩ (by simp only;omega) ?_
  refine Le.trans (A9 [0,1] rfl rfl) ?_
  (try simp only [List.set_nil,List.take_nil,List.take_zero,List.map_append,go_sem])
  exact WE
open Go.RowKit Go.Deep Go.ChangeShapes
theorem HM {w:World} {a:Addr} {v:Value} (h:w.cell? a=some v):a.spot=none/\a.block<w.heap.size:=by
 constructor
 rotate_left
 ·rcases Nat.lt_or_ge a.block w.heap.size with hl | hl
  ·exact hl
  simp [World.cell?,Array.getElem?_eq_none hl] at h
 unfold World.cell? at h
 split at h
 rotate_left
 ·cases h
 split at h
 ·cases h
 rename_i hs;cases hsp:a.spot with
 | none=>rfl
 | some x=>simp [hsp] at hs
theorem Ls.of_cells {α:Type} {f:α->List Value} {k:Nat} (hfk:∀ x,(f x).length=k) (hk:0<k) {w:World} {b off n c:Nat} {xs:List α} (hn:xs.length=n) (hc:n<=c) (hb:0<n->b<w.heap.size)
  (h:∀ (i:Nat) (x:α),xs[i]?=some x->∀ (q:Nat) (u:Value),(f x)[q]?=some u->w.cell? ⟨b,off+(i*k+q),none⟩=some u):Ls f k [] w (some ⟨b,off,none⟩) n c xs:=by
 subst hn
 refine ⟨⟨Dc f k hfk xs,hc,fun hp=>⟨b,off,rfl,by simp,hb hp,fun j u hu=>?_⟩⟩,rfl⟩
 have hjl:=(List.getElem?_eq_some_iff.1 hu).1
 rw [Dc f k hfk] at hjl
 have hd:j / k<xs.length:=Nat.div_lt_of_lt_mul (by rw [Nat.mul_comm];exact hjl)
 have hm:j % k<k:=Nat.mod_lt _ hk
 have htd:j / k*k+j % k=j:=by rw [Nat.mul_comm];exact Nat.div_add_mod j k
 have hg:=Fy f k hfk xs (j / k) (j % k) xs[j / k] (gE1 hd) hm
 rw [htd] at hg
 rw [hg] at hu
 have:=h (j / k) xs[j / k] (gE1 hd) (j % k) u hu
 rw [htd] at this
 exact this
theorem Ls.none0 {α:Type} {f:α->List Value} {k:Nat} {w:World} {A:Option Addr} {c:Nat}:Ls f k [] w A 0 c []:=⟨⟨by simp,Nat.zero_le _,fun h=>absurd h (by omega)⟩,rfl⟩

theorem Ek {α:Type} {p:Nat->α->Prop}:∀ (n:Nat),(∀ q,q<n->∃ x,p q x)->∃ xs:List α,xs.length=n/\∀ q x,xs[q]?=some x->p q x
 | 0,_=>⟨[],rfl,by simp⟩
 | n+1,h=>by
  obtain ⟨xs,hl,hx⟩:=Ek n (fun q hq=>h q (by omega))
  obtain ⟨x,hp⟩:=h n (by omega)
  refine ⟨xs++[x],by simp [hl],fun q y hy=>?_⟩
  by_cases hq:q<xs.length
  ·rw [gEa hq] at hy;exact hx q y hy
  ·rw [gEb (by omega)] at hy
   have hq2:q - xs.length=0:=by
    rcases Nat.eq_zero_or_pos (q - xs.length) with h | h
    ·exact h
    ·rw [List.getElem?_eq_none (by simp;omega)] at hy;cases hy
   rw [hq2] at hy
   simp at hy
   subst hy
   rw [show q=n by omega];exact hp

variable {H : Type} {enc : TypeId × Value -> H}
theorem M2 {P:Program} {w:World} {t e i:TypeId} {f0 f1:Field} {fuel:Nat} {v:Value} {x:DataW H × List MemPlace} (ht:P.underlying t=some (.slice e)) (he:P.underlying e=some (.struct #[f0,f1])) (hc:P.cellsOf e=2)
  (hf0:f0.type=i/\f0.offset=0) (hf1:f1.type=i/\f1.offset=1) (hi:P.underlying i=some (.int .i64)) (hci:P.cellsOf i=1) (h:DataW.trod enc P w 0 (fun _=>true) true fuel t [v]=some x)
  (hby:P.bytesOf e=16) (hwt:∀ k∈x.1.weights P t,k<=reachBytes):
  ∃ A n c xs,v=.slice A n c/\Tw [] w A n c xs/\n<=140737488355328:=by
 rcases open_slice ht h with ⟨hcs,_⟩ | ⟨a,len,cap,m,n,D,Pl,hcs,_,hl,hm,hmm,hxe,hx⟩
 ·simp at hcs;subst hcs
  exact ⟨none,0,0,[],rfl,Ls.none0,by omega⟩
 simp at hcs;subst hcs
 simp at hmm
 subst hmm
 have hlen47:len<=140737488355328:=by
  have:=hwt ((((List.range len).map D).length+((List.range (m - len)).map fun j=>D (len+j)).length)*16) (by rw [hxe];simp [DataW.weights,ht,hby])
  simp only [List.length_map,List.length_range] at this
  have hr:=reachBytes_lt
  omega
 have hx2:∀ q,q<len->∃ X Y:Int,w.cell? (a.add (q*2))=some (.int .i64 X)/\w.cell? ((a.add (q*2)).add 1)=some (.int .i64 Y):=by
  intro q hq
  obtain ⟨cs',h1,h2⟩:=hx q (by omega)
  rw [hc] at h1
  obtain ⟨_,hlen,hcell⟩:=World.cells?_some h1
  match cs',hlen with
  | [c0,c1],_=>
   obtain ⟨y0,y1,n',_,_,e0,e1⟩:=trod_struct2 he h2
   rw [hf0.1,hf0.2,hci] at e0
   rw [hf1.1,hf1.2,hci] at e1
   obtain ⟨X,hX,_,_⟩:=DataW.trod_int hi e0
   obtain ⟨Y,hY,_,_⟩:=DataW.trod_int hi e1
   simp at hX hY
   subst hX;subst hY
   have z0:=hcell 0 (by omega)
   have z1:=hcell 1 (by omega)
   simp [Addr.add] at z0
   exact ⟨X,Y,by simpa [Addr.add] using z0,by simpa using z1⟩
 by_cases h0:len=0
 ·subst h0
  exact ⟨some a,0,m,[],rfl,Ls.none0,by omega⟩
 obtain ⟨X0,_,hX0,_⟩:=hx2 0 (by omega)
 simp [Addr.add] at hX0
 obtain ⟨hsp,hlt⟩:=HM hX0
 obtain ⟨b,off,rfl⟩:∃ b off,a=⟨b,off,none⟩:=⟨a.block,a.off,by cases a;simp at hsp;subst hsp;rfl⟩
 have hadd:∀ q,(⟨b,off,none⟩:Addr).add q=⟨b,off+q,none⟩:=fun q=>by unfold Addr.add;split <;> simp_all
 have hadd2:∀ q,(⟨b,off+q,none⟩:Addr).add 1=⟨b,off+(q+1),none⟩:=fun q=>by unfold Addr.add;simp;omega
 obtain ⟨xs,hxl,hxs⟩:=Ek (α:=Int × Int) (p:=fun q x=>w.cell? ⟨b,off+q*2,none⟩=some (.int .i64 x.1)/\w.cell? ⟨b,off+(q*2+1),none⟩=some (.int .i64 x.2)) len (fun q hq=>by
  obtain ⟨X,Y,h1,h2⟩:=hx2 q hq
  rw [hadd] at h1 h2
  rw [hadd2] at h2
  exact ⟨(X,Y),h1,h2⟩)
 refine ⟨some ⟨b,off,none⟩,len,m,xs,rfl,?_,hlen47⟩
 refine Ls.of_cells (f:=cp) (k:=2) (fun _=>rfl) (by omega) hxl hl (fun _=>hlt) (fun q x hqx r u hu=>?_)
 obtain ⟨h1,h2⟩:=hxs q x hqx
 match r,hu with
 | 0,hu=>simp [cp] at hu;subst hu;simpa using h1
 | 1,hu=>simp [cp] at hu;subst hu;exact h2
 | r+2,hu=>simp [cp] at hu

theorem GD {P:Program} {e:TypeId} {ds:List (DataW H)} {d:DataW H} (h:d∈ds) {k:Nat} (hk:k∈d.weights P e):k∈DataW.weightsAll P e ds:=by
 induction ds with
 | nil=>cases h
 | cons x xs ih=>
  simp only [DataW.weightsAll,List.mem_append]
  rcases List.mem_cons.1 h with rfl | h
  ·exact .inl hk
  exact .inr (ih h)
theorem OQ {P:Program} {w:World} {T t e i:TypeId} {f0 f1:Field} {fuel:Nat} {v:Value} {x:DataW H × List MemPlace} (hT:P.underlying T=some (.slice t)) (hct:P.cellsOf t=1) (ht:P.underlying t=some (.slice e)) (he:P.underlying e=some (.struct #[f0,f1])) (hc:P.cellsOf e=2)
  (hf0:f0.type=i/\f0.offset=0) (hf1:f1.type=i/\f1.offset=1) (hi:P.underlying i=some (.int .i64)) (hci:P.cellsOf i=1) (h:DataW.trod enc P w 0 (fun _=>true) true fuel T [v]=some x)
  (hbT:P.bytesOf t=24) (hby:P.bytesOf e=16) (hwt:∀ k∈x.1.weights P T,k<=reachBytes):
  ∃ A n c rows,v=.slice A n c/\Ll cp 2 [] w A n c rows/\n<=140737488355328/\∀ r∈rows,r.length<=140737488355328:=by
 rcases open_slice1 hT hct h with ⟨hcs,_⟩ | ⟨a,len,cap,m,n,V,D,Pl,hcs,_,hl,hm,hmm,hxe,hx⟩
 ·simp at hcs;subst hcs
  exact ⟨none,0,0,[],rfl,Ll.nil _ _ _ _,by omega,by simp⟩
 simp at hcs;subst hcs
 simp at hmm
 subst hmm
 have hlen47:len<=140737488355328:=by
  have:=hwt ((((List.range len).map D).length+((List.range (m - len)).map fun j=>D (len+j)).length)*24) (by rw [hxe];simp [DataW.weights,hT,hbT])
  simp only [List.length_map,List.length_range] at this
  have hr:=reachBytes_lt
  omega
 obtain ⟨rows,hrl,hrs⟩:=Ek (α:=List (Int × Int)) (p:=fun q r=>w.cell? (a.add q)=some (V q)/\LsV cp 2 [] w (V q) r/\r.length<=140737488355328) len (fun q hq=>by
  obtain ⟨h1,h2⟩:=hx q (by omega)
  obtain ⟨A,n',c,xs,hv,hp,hn⟩:=M2 ht he hc hf0 hf1 hi hci h2 hby (fun k hk=>hwt k (by
   rw [hxe]
   simp only [DataW.weights,hT,List.mem_cons,List.mem_append]
   exact .inr (.inl (GD (List.mem_map.2 ⟨q,by simpa using hq,rfl⟩) hk))))
  exact ⟨xs,h1,⟨A,n',c,hv,hp⟩,by rw [hp.n_eq];exact hn⟩)
 refine ⟨some a,len,m,rows,rfl,?_,hlen47,fun r hr=>by obtain ⟨q,hq⟩:=List.getElem?_of_mem hr;exact (hrs q r hq).2.2⟩
 by_cases h0:len=0
 ·subst h0
  have:rows=[]:=List.length_eq_zero_iff.1 hrl
  subst this
  exact ⟨[],Ls.none0,LRel.nil⟩
 obtain ⟨hX0,_⟩:=hx 0 (by omega)
 simp [Addr.add] at hX0
 obtain ⟨hsp,hlt⟩:=HM hX0
 obtain ⟨b,off,rfl⟩:∃ b off,a=⟨b,off,none⟩:=⟨a.block,a.off,by cases a;simp at hsp;subst hsp;rfl⟩
 have hadd:∀ q,(⟨b,off,none⟩:Addr).add q=⟨b,off+q,none⟩:=fun q=>by unfold Addr.add;split <;> simp_all
 refine ⟨(List.range len).map V,?_,by simp [hrl],fun q v r hv hr=>?_⟩
 rotate_left
 ·have hq:q<len:=by have:=(List.getElem?_eq_some_iff.1 hv).1;simpa using this
  have hy:v=V q:=by simp [hq] at hv;exact hv.symm
  subst hy
  exact (hrs q r hr).2.1
 refine Ls.of_cells (f:=cv) (k:=1) (fun _=>rfl) (by omega) (by simp) hl (fun _=>hlt) (fun q y hqy r u hu=>?_)
 have hq:q<len:=by have:=(List.getElem?_eq_some_iff.1 hqy).1;simpa using this
 have hy:y=V q:=by simp [hq] at hqy;exact hqy.symm
 subst hy
 have:=(hx q (by omega)).1
 rw [hadd] at this
 match r,hu with
 | 0,hu=>simp [cv] at hu;subst hu;simpa using this
 | r+1,hu=>simp [cv] at hu
end Go.Proofs.YtjijjfkalheokaaGreatDoor
namespace Go.Proofs.YtjijjfkalheokaaGreatDoor
set_option linter.unusedVariables false
set_option linter.unusedSimpArgs false
open Go.RowKit Go.Deep Go.ChangeShapes Go.WideShapes

def Yy:Nat->Prop:=fun _=>False
theorem QM {w:World} {A:Option Addr} {n c k:Nat} {cs:List Value} (h:Sl [] w A n c k cs) (h1:∀ u∈cs,u.oneCell'=true):Rd Yy w (.l k (cs.map .v)) (.slice A n c):=by
 rcases Nat.eq_zero_or_pos n with h0 | h0
 ·subst h0
  have:cs=[]:=List.eq_nil_of_length_eq_zero (by rw [h.len];simp)
  subst this
  exact .e _ _ _
 obtain ⟨b,off,rfl,_,hb,hc⟩:=h.at_ h0
 refine .l k _ b off n c (fun j=>(cs[j]?).getD undef) (by rw [List.length_map];exact h.len) h0 h.cap (fun h=>h) hb (fun j t hj=>?_) (fun j t hj=>?_)
 ·rw [List.getElem?_map,Option.map_eq_some_iff] at hj
  obtain ⟨u,hu,rfl⟩:=hj
  rw [hu];exact hc j u hu
 rw [List.getElem?_map,Option.map_eq_some_iff] at hj
 obtain ⟨u,hu,rfl⟩:=hj
 rw [hu]
 exact .v u (h1 u (gE9 hu))
theorem OR:∀ vs:List Value,vs.flatMap cv=vs
 | []=>rfl
 | v :: r=>by
  show v :: r.flatMap cv=v :: r
  rw [OR r]
theorem M3 {w:World} {A:Option Addr} {n c:Nat} {xs:List (Int × Int)} (h:Tw [] w A n c xs):Rd Yy w (.l 2 (Ao xs)) (.slice A n c):=by
 have:=QM h.sl (by
  intro u hu
  obtain ⟨x,_,hx⟩:=List.mem_flatMap.1 hu
  simp [cp] at hx
  rcases hx with rfl | rfl <;> rfl)
 have e:(xs.flatMap cp).map Tr.v=Ao xs:=by simp [Ao,List.map_flatMap,cp]
 rwa [e] at this
theorem QN {α:Type} {f:α->List Value} {k:Nat} {tr:List α->List Tr} {w:World} {A:Option Addr} {n c:Nat} {rs:List (List α)} (h:Ll f k [] w A n c rs)
  (hf:∀ {A:Option Addr} {n c:Nat} {xs:List α},Ls f k [] w A n c xs->Rd Yy w (.l k (tr xs)) (.slice A n c)):Rd Yy w (.l 1 (rs.map fun r=>.l k (tr r))) (.slice A n c):=by
 obtain ⟨vs,h1,h2⟩:=h.ex
 have hl:rs.length=n:=by rw [<- h2.1];exact h1.n_eq
 rcases Nat.eq_zero_or_pos n with h0 | h0
 ·subst h0
  have:rs=[]:=List.eq_nil_of_length_eq_zero hl
  subst this
  exact .e _ _ _
 obtain ⟨b,off,rfl,_,hb,hc⟩:=h1.sl.at_ h0
 have hcv:∀ j v,vs[j]?=some v->w.cell? ⟨b,off+j,none⟩=some v:=fun j v hv=>by
  refine hc j v ?_
  rw [OR];exact hv
 refine .l 1 _ b off n c (fun j=>(vs[j]?).getD undef) (by simp [hl]) h0 h1.sl.cap (fun h=>h) hb (fun j t hj=>?_) (fun j t hj=>?_)
 ·rw [List.getElem?_map,Option.map_eq_some_iff] at hj
  obtain ⟨r,hr,rfl⟩:=hj
  obtain ⟨v,hv,_⟩:=h2.get' hr
  rw [hv];exact hcv j v hv
 rw [List.getElem?_map,Option.map_eq_some_iff] at hj
 obtain ⟨r,hr,rfl⟩:=hj
 obtain ⟨v,hv,A,n',c',e,hx⟩:=h2.get' hr
 rw [hv,e]
 exact hf hx
theorem M4 {w:World} {A:Option Addr} {n c:Nat} {R:List (List (Int × Int))} (h:Ll cp 2 [] w A n c R):Rd Yy w (.l 1 (Ah R)) (.slice A n c):=QN h M3

variable {H : Type} {enc : TypeId × Value -> H}
theorem Tj {P:Program} {w:World} {t e:TypeId} {fuel:Nat} {v:Value} {x:DataW H × List MemPlace} (ht:P.underlying t=some (.slice e)) (he:P.underlying e=some (.int .i64)) (hc:P.cellsOf e=1) (h:DataW.trod enc P w 0 (fun _=>true) true fuel t [v]=some x):
  ∃ zs,Rd Yy w (.l 1 (Ab zs)) v/\zs.length<=9223372036854775807/\∀ y∈zs,Ld y:=by
 rcases open_ints ht he hc h with ⟨hcs,_⟩ | ⟨a,l,c,zs,hcs,_,hl,hm,hz,_,hcell,hwz⟩
 ·simp at hcs;subst hcs
  exact ⟨[],.e _ _ _,by simp,by simp⟩
 simp at hcs;subst hcs
 have hzl:zs.length=c:=by simpa using hz
 simp only [maxLen] at hm
 refine ⟨zs.take l,?_,by simp;omega,fun y hy=>?_⟩
 rotate_left
 ·have:=hwz y (List.mem_of_mem_take hy)
  have h2 : -9223372036854775808<=y/\y<=9223372036854775807:=by simpa [Lit.wf,IntKind.min,IntKind.max,IntKind.signed,IntKind.bits] using this
  exact ⟨h2.1,by omega⟩
 rcases Nat.eq_zero_or_pos l with h0 | h0
 ·subst h0;exact .e _ _ _
 have hX0:=hcell 0 (by omega)
 simp [Addr.add] at hX0
 obtain ⟨hsp,hlt⟩:=HM hX0
 obtain ⟨b,off,rfl⟩:∃ b off,a=⟨b,off,none⟩:=⟨a.block,a.off,by cases a;simp at hsp;subst hsp;rfl⟩
 have hadd:∀ q,(⟨b,off,none⟩:Addr).add q=⟨b,off+q,none⟩:=fun q=>by unfold Addr.add;split <;> simp_all
 refine .l 1 _ b off l c (fun j=>.int .i64 (zs.getD j 0)) (by simp [Ab];omega) h0 hl (fun h=>h) hlt (fun j t hj=>?_) (fun j t hj=>?_)
 ·have hj2:j<l:=by
   have:=(List.getElem?_eq_some_iff.1 hj).1
   simp [Ab] at this;omega
  rw [<- hadd];exact hcell j (by omega)
 have hj2:j<l:=by
  have:=(List.getElem?_eq_some_iff.1 hj).1
  simp [Ab] at this;omega
 simp only [Ab,List.getElem?_map,List.getElem?_take,if_pos hj2] at hj
 rw [gE1 (by omega)] at hj
 simp at hj
 subst hj
 rw [List.getD,gE1 (by omega)]
 exact .v _ rfl
theorem OS {P:Program} {f:FuncId} {args:List AV} (h:FC P f args [] (fun r _=>r=.b true)) (W:World) (vals:List Value) (hl:vals.length=args.length)
  (ha:∀ (i:Nat) (x:AV),args[i]?=some x->∃ v,vals[i]?=some v/\∀ g:Gh,g.M=Yy->AVR (CR g [] W) x v) (hgl:GlR Yy W:=by intro n vs h;cases h):Calls P f vals.toArray W fun e W'=>e=.returned (.bool true)/\Fr [] W W':=by
 let g:Gh:=⟨fun _=>0,fun _=>0,Yy⟩
 have lv:∀ ℓ,¬ Lv [] g ℓ:=by
  intro ℓ hl
  cases ℓ with
  | ob i=>rcases hl with ⟨r,e,_⟩ | ⟨kv,e⟩ <;> simp at e
  | cl i j=>obtain ⟨r,k,cs,e,_⟩:=hl;simp at e
 have hr:HR g [] W:=⟨fun b hb=>hb.elim,fun ℓ hl=>(lv ℓ hl).elim,fun ℓ _ hl _ _=>(lv ℓ hl).elim,fun id r e=>by simp at e,fun id kv e=>by simp at e,hgl.keep (Nat.le_refl _) (fun _ _ _=>rfl) (fun k _ ho=>ho.elim (fun h=>h) (fun ⟨ℓ,hl,_⟩=>(lv ℓ hl).elim))⟩
 refine (h g W vals hr ⟨hl,fun i x hx=>by obtain ⟨v,h1,h2⟩:=ha i x hx;exact ⟨v,h1,h2 g rfl⟩⟩).mono ?_
 rintro e W' ⟨v,r,outs,g',rfl,rfl,_,_,_,hv,hf⟩
 exact ⟨by rw [show v=.bool true from hv],hf.fr fun k _ ⟨ℓ,hl,_⟩=>(lv ℓ hl).elim⟩
theorem Tk {g:Gh} (h:g.M=Yy) {b:Nat}:¬ Ow [] g b:=by
 rintro (ho | ⟨ℓ,hl,_⟩)
 ·rw [h] at ho;exact ho
 cases ℓ with
 | ob i=>rcases hl with ⟨r,e,_⟩ | ⟨kv,e⟩ <;> simp at e
 | cl i j=>obtain ⟨r,k,cs,e,_⟩:=hl;simp at e
theorem Rn {g:Gh} {W:World} {k:Nat} {cs:List Tr} {v:Value} (h:Rd Yy W (.l k cs) v) (hg:g.M=Yy):AVR (CR g [] W) (.a (.c (.t k cs))) v:=h.mono fun _ _ ho=>absurd ho (Tk hg)
theorem ZA:ownKnob Tryz.prog.godebug=none:=by kernel_rfl
theorem La:laidOutB Tryz.prog=true:=by kernel_rfl
end Go.Proofs.YtjijjfkalheokaaGreatDoor
namespace Go.Proofs.YtjijjfkalheokaaGreatDoor
set_option linter.unusedVariables false
set_option linter.unusedSimpArgs false
open Go.RowKit Go.Deep Go.ChangeShapes Go.WideShapes

theorem Tl {t i:TypeId} {n0 n1:String} (ht:Tryz.prog.underlying t=some (.struct (Tryz.prog.fieldsOf t))) (hf:(Tryz.prog.fieldsOf t).toList.map (fun f=>(f.name,f.type,f.offset))=[(n0,i,0),(n1,i,1)]):
  ∃ f0 f1,Tryz.prog.underlying t=some (.struct #[f0,f1])/\(f0.type=i/\f0.offset=0)/\(f1.type=i/\f1.offset=1):=by
 match h:(Tryz.prog.fieldsOf t).toList,hf with
 | [f,g],hf=>
  simp only [List.map_cons,List.map_nil,List.cons.injEq,Prod.mk.injEq,and_true] at hf
  obtain ⟨⟨_,a1,a2⟩,_,b1,b2⟩:=hf
  refine ⟨f,g,?_,⟨a1,a2⟩,⟨b1,b2⟩⟩
  rw [ht]
  have:Tryz.prog.fieldsOf t=#[f,g]:=by apply Array.ext';simpa using h
  rw [this]
 | [],hf=>simp at hf
 | [_],hf=>simp at hf
 | _ :: _ :: _ :: _,hf=>simp at hf
theorem Tm {t i:TypeId} {n0:String} (ht:Tryz.prog.underlying t=some (.struct (Tryz.prog.fieldsOf t))) (hf:(Tryz.prog.fieldsOf t).toList.map (fun f=>(f.name,f.type,f.offset))=[(n0,i,0)]):
  ∃ f0,Tryz.prog.underlying t=some (.struct #[f0])/\(f0.type=i/\f0.offset=0):=by
 match h:(Tryz.prog.fieldsOf t).toList,hf with
 | [f],hf=>
  simp only [List.map_cons,List.map_nil,List.cons.injEq,Prod.mk.injEq,and_true] at hf
  obtain ⟨_,a1,a2⟩:=hf
  refine ⟨f,?_,⟨a1,a2⟩⟩
  rw [ht]
  have:Tryz.prog.fieldsOf t=#[f]:=by apply Array.ext';simpa using h
  rw [this]
 | [],hf=>simp at hf
 | _ :: _ :: _,hf=>simp at hf
theorem Vx:∃ f0 f1,Tryz.prog.underlying 46=some (.struct #[f0,f1])/\(f0.type=3/\f0.offset=0)/\(f1.type=3/\f1.offset=1):=Tl (n0:= "Event") (n1:= "To") (by kernel_rfl) (by kernel_rfl)
theorem Vy:∃ f0,Tryz.prog.underlying 25=some (.struct #[f0])/\(f0.type=23/\f0.offset=0):=Tm (n0:= "Out") (by kernel_rfl) (by kernel_rfl)

variable {H : Type} {enc : TypeId × Value -> H}
set_option maxRecDepth 100000 in
theorem QO {W:World} {v:Value} {d:DataW H} {p:List MemPlace} {r:Reach} {b0:Nat} (hv:Value.okWide Tryz.prog W r b0 25 v) (h:DataW.Trod enc Tryz.prog W 0 (fun _=>true) true 25 v d p) (hwt:∀ k∈d.weights Tryz.prog 25,k<=reachBytes):
  ∃ A n c rows,v=.agg #[.slice A n c]/\Ll cp 2 [] W A n c rows/\n<=140737488355328/\∀ r∈rows,r.length<=140737488355328:=by
 obtain ⟨f0,hs,hf1,hf2⟩:=Vy
 obtain ⟨a0,a1,he,ha0,ha1⟩:=Vx
 obtain ⟨cs,rfl,hsz⟩:=okWide_struct hs hv
 have hC:Tryz.prog.cellsOf 25=1:=by kernel_rfl
 rw [hC] at hsz
 obtain ⟨c0,rfl⟩:∃ c0,cs=#[c0]:=by
  match cs,hsz with
  | ⟨[c0]⟩,_=>exact ⟨c0,rfl⟩
 obtain ⟨fuel,hf⟩:=h
 obtain ⟨y0,n,hx,_,h0⟩:=trod_struct1 hs hf
 have hC2:Tryz.prog.cellsOf 23=1:=by kernel_rfl
 rw [hf1,hf2,hC2] at h0
 simp [Value.cells] at h0
 have hd:d=.agg [y0.1]:=by simpa using congrArg Prod.fst hx
 subst hd
 obtain ⟨A,n,c,rows,hv2,h1,h2,h3⟩:=OQ Tryz.underlying23 (by kernel_rfl) Tryz.underlying42 he (by kernel_rfl) ha0 ha1 Tryz.underlying3 (by kernel_rfl) h0 (by kernel_rfl) (by kernel_rfl) (fun k hk=>hwt k (by
  simp only [DataW.weights,hs,List.toList_toArray,List.map_cons,List.map_nil,DataW.weightsEach,hf1,List.append_nil];exact hk))
 exact ⟨A,n,c,rows,by rw [hv2],h1,h2,h3⟩

theorem Tn {g:Gh} {W:World} {A:Option Addr} {n c:Nat} {R:List (List (Int × Int))} (h:Ll cp 2 [] W A n c R) (hg:g.M=Yy):AVR (CR g [] W) (B7 R) (.agg #[.slice A n c]):=by
 refine ⟨[.slice A n c],rfl,rfl,fun i x hx=>?_⟩
 match i,hx with
 | 0,hx=>simp at hx;subst hx;exact ⟨_,rfl,Rn (M4 h) hg⟩
 | i+1,hx=>simp at hx
end Go.Proofs.YtjijjfkalheokaaGreatDoor
namespace Go.Proofs.YtjijjfkalheokaaGreatDoor
set_option linter.unusedVariables false
set_option linter.unusedSimpArgs false
open Go.ChangeShapes Go.WideShapes Go.ChangeAt Go.RowKit

def QP:List Int:=Lib.deBruijn64tab.map fun (k:Nat)=>(k:Int)
def OT:List (String × DataW Unit):=[("math/bits.deBruijn64tab",Lib.tabData .u8 QP)]
theorem Vl:Tryz.prog.globalNamed "math/bits.deBruijn64tab" = some 0:=by kernel_rfl
theorem JF {W:World} (h:laidMetH Tryz.prog OT W):GlR (fun _=>False) W:=by
 rw [MakeChecks.laidMetH_plain _ _ _ (by kernel_rfl)] at h
 have hT:=Lib.tabIs_of_head (n:=64) (k:=.u8) Vl (by kernel_rfl) Tryz.underlying187 Tryz.underlying5 (by kernel_rfl) (by kernel_rfl) h
 intro n vs hn
 unfold Ro at hn
 rw [List.lookup_cons] at hn
 split at hn
 rotate_left
 ·cases hn
 rename_i e
 have e2:n=0:=by simpa using e
 subst e2
 cases hn
 have hl:(Lib.deBruijn64tab).length=64:=by decide
 have hc:∀ j,j<64->W.cell? ⟨0,j,none⟩=some (.int .u8 (QP.getD j 0)):=fun j hj=>hT.cell Vl j (by simp [QP,hl,hj])
 refine ⟨fun h=>h,(HM (hc 0 (by omega))).2,fun j v hj=>?_⟩
 rw [List.getElem?_map,Option.map_eq_some_iff] at hj
 obtain ⟨k,hk,rfl⟩:=hj
 have hj2:j<64:=by have:=(List.getElem?_eq_some_iff.1 hk).1;omega
 refine ⟨rfl,?_⟩
 rw [hc j hj2]
 simp [QP,gE2,hk]
end Go.Proofs.YtjijjfkalheokaaGreatDoor
