/- Lemmas. -/
import Derived.Test.YtjijjfkalheokaaGreatDoorZk
import Derived.Test.YtjijjfkalheokaaGreatDoorW01
import Derived.Test.YtjijjfkalheokaaGreatDoorMno
import Derived.Test.YtjijjfkalheokaaGreatDoorG70
import Derived.Test.YtjijjfkalheokaaGreatDoorG53
import Derived.Test.YtjijjfkalheokaaGreatDoorMit
import Derived.Test.YtjijjfkalheokaaGreatDoorDl1
namespace Go.Proofs.YtjijjfkalheokaaGreatDoor
set_option linter.unusedVariables false
set_option linter.unusedSimpArgs false
open Go.RowKit
set_option maxRecDepth 100000
attribute [local go_sem] lga C.pl C.one

section
variable {o : Oper} {st : ST} {K : ST -> Prop}
theorem Gw (L:List Int) (ρ:List Nat):(AA L).ren ρ=AA L:=by simp [AA,Ob.ren,Af]
theorem HG (L:List Int) (f:Nat->Nat):(AA L).up f=AA L:=by simp [AA,Ob.up,BQ]
theorem Dr (L:List Int):Cd (AA L)=true:=by
 show (A7 L).all C.pl=true
 rw [List.all_eq_true]
 intro c hc
 obtain ⟨x,_,rfl⟩:=List.mem_map.1 hc
 rfl
theorem O9 {x:Operand} {ts:Array TypeId} {a:Nat} {L:List Int} (hd:VJ o st.n=true) (ho:o.op=.call { callee:=.value (.func 106),args:=#[x],argTypes:=ts }) (hx:st.ev x=.a (.c (.s a L.length))) (ha:st.hp[a]?=some (AA L)) (hL:L.length<=100000000)
  (hnb:Fi [a] st.tm=st.tm) (h:∀ L':List Int,L'.Perm L->L'.Pairwise (fun a b=>a<=b)->K ({ st with hp:=st.hp.set a (AA L') }.put o.dst .u)):Stp Tryz.prog o st K:=by
 have i1:idx [a] a 0=some 0:=by simp [idx]
 refine AH (ids:=[]) [a] (KD L hL) hd ho rfl (by kernel_rfl) rfl (by simp [Br ha]) ?_ ?_ ?_ ?_
 ·simp [hx,Em,AV.ren,A0.ren,C.ren,i1]
 ·have:=Gw L [a]
  simp only [VS,List.map_cons,List.map_nil,D0 ha,this];rfl
 ·rintro r outs ⟨rfl,L',_,_,rfl⟩;rfl
 rintro r outs ⟨rfl,L',h1,h2,rfl⟩
 have e:st.back [a] [.r ⟨3,1,true,A7 L'⟩]={ st with hp:=st.hp.set a (AA L') }:=by
  unfold ST.back
  rw [hnb]
  have:=HG L' (VV [a] st.hp.length)
  simp only [AA] at this
  simp only [List.map_cons,List.map_nil,this,Cb,List.append_nil,AA]
 rw [e];exact h L' h1 h2
theorem SK {x:Operand} {ts:Array TypeId} {a:Nat} {L:List Int} (hd:VJ o st.n=true) (ho:o.op=.call { callee:=.value (.func 86),args:=#[x],argTypes:=ts }) (hx:st.ev x=.a (.c (.s a L.length))) (ha:st.hp[a]?=some (AA L)) (hL:L.length<=100000000)
  (hnb:Fi [a] st.tm=st.tm) (h:K (st.put o.dst (.a (.c (.v (Jx L)))))):Stp Tryz.prog o st K:=by
 have i1:idx [a] a 0=some 0:=by simp [idx]
 refine AH (ids:=[]) [a] (FC.inS1 (e:=3) (Uf L hL)) hd ho rfl (by kernel_rfl) rfl (by simp [Br ha]) ?_ ?_ ?_ ?_
 ·simp [hx,Em,AV.ren,A0.ren,C.ren,i1]
 ·have:=Gw L [a]
  simp only [VS,List.map_cons,List.map_nil,D0 ha,this];rfl
 ·rintro r outs ⟨rfl,rfl⟩;rfl
 rintro r outs ⟨rfl,rfl⟩
 have e:st.back [a] [.r ⟨3,1,true,A7 L⟩]=st:=by
  unfold ST.back
  rw [hnb]
  have:=HG L (VV [a] st.hp.length)
  simp only [AA] at this
  simp only [List.map_cons,List.map_nil,this,Cb,List.append_nil]
  rw [FN (by exact ha)]
 rw [e];exact h
end
theorem H3 {α β:Type} {f:α->β}:∀ {l:List α},(l.map f).Nodup->∀ {a b},a∈l->b∈l->f a=f b->a=b
 | [],_,_,_,h,_,_=>by simp at h
 | x :: l,hn,a,b,ha,hb,e=>by
  simp only [List.map_cons,List.nodup_cons] at hn
  rcases List.mem_cons.1 ha with h1 | h1
  ·rcases List.mem_cons.1 hb with h2 | h2
   ·rw [h1,h2]
   ·exact absurd (List.mem_map.2 ⟨b,h2,by rw [<- e,h1]⟩) hn.1
  ·rcases List.mem_cons.1 hb with h2 | h2
   ·exact absurd (List.mem_map.2 ⟨a,h1,by rw [e,h2]⟩) hn.1
   ·exact H3 hn.2 h1 h2 e
def Ye (V:List (Int × Nat × Nat)) (seen:List Nat):List Int:=seen.map fun z=>(V.map (·.1)).getD z 0
theorem Qr (V:List (Int × Nat × Nat)) (seen:List Nat) (z:Nat):Ye V (seen++[z])=Ye V seen++[(V.map (·.1)).getD z 0]:=by simp [Ye]
theorem SL (V:List (Int × Nat × Nat)) (seen:List Nat):(Ye V seen).length=seen.length:=by simp [Ye]
theorem Qs {V:List (Int × Nat × Nat)} {seen:List Nat} (hnd:seen.Nodup) (h1:∀ z∈seen,z<V.length) (h2:∀ z,z<V.length->z∈seen):(Ye V seen).Perm (V.map (·.1)):=by
 have hp:seen.Perm (List.range V.length):=(List.perm_ext_iff_of_nodup hnd List.nodup_range).2 fun z=>by rw [List.mem_range];exact ⟨h1 z,h2 z⟩
 have e:(List.range V.length).map (fun z=>(V.map (·.1)).getD z 0)=V.map (·.1):=by
  refine List.ext_getElem (by simp) fun i h1 h2=>?_
  have hi:i<V.length:=by simpa using h2
  simp [gE2,hi]
 have:=hp.map (fun z=>(V.map (·.1)).getD z 0)
 rw [e] at this
 exact this
def Yf (V:List (Int × Nat × Nat)) (e:Int):Nat:=((V.find? fun p=>p.1 == e).map (·.2.2)).getD 0
theorem Oa {V:List (Int × Nat × Nat)} (hnd:(V.map (·.1)).Nodup) {p:Int × Nat × Nat} (hp:p∈V):Yf V p.1=p.2.2:=by
 unfold Yf
 cases hf:V.find? (fun q=>q.1 == p.1) with
 | none=>exact absurd (List.find?_eq_none.1 hf p hp) (by simp)
 | some q=>
  have h1:=List.find?_some hf
  have h2:=List.mem_of_find?_eq_some hf
  have:q=p:=H3 hnd h2 hp (by simpa using h1)
  rw [this];rfl
def Yg (V:List (Int × Nat × Nat)) (e:Int):Int × Nat:=(e,Yf V e)
theorem Oc (x:Int) (t:Nat) (V:List (Int × Nat)) (p:Int × Nat):FM x t (V++[p])=FM x t V++(p.1 :: ((AQ p.2).length:Int) :: AQ p.2):=by simp [FM]
theorem Qt (x:Int) (t:Nat) (V:List (Int × Nat)):(FM x t V).length<=66+V.length*66:=by
 unfold FM
 have h0:=CP t
 have h1:(V.flatMap fun p=>p.1 :: ((AQ p.2).length:Int) :: AQ p.2).length<=V.length*66:=by
  induction V with
  | nil=>simp
  | cons p V ih=>
   have:=CP p.2
   simp only [List.flatMap_cons,List.length_append,List.length_cons] at ih ⊢
   omega
 simp only [List.length_cons,List.length_append]
 omega
set_option maxHeartbeats 4000000 in
theorem SM (H:List Ob) (yb ta vi n c x m w:Nat) (cls:Int) (tc vc:List C) (V:List (Int × Nat × Nat)) (hyb:H[yb]?=some (.r ⟨133,2,false,[.s ta n,.s vi n]⟩)) (hta:H[ta]?=some (.r ⟨135,1,true,tc⟩)) (hvi:H[vi]?=some (.r ⟨138,1,true,vc⟩)) (htl:tc.length=n) (hvl:vc.length=n) (hn:n<=1000000)
  (hc:c<n) (gt:tc[c]?=some (.s x 1)) (gx:H[x]?=some (C4 w)) (hw:w<2 ^ 64) (gv:vc[c]?=some (.m m)) (gm:H[m]?=some (.m (Y4 V))) (hnd:(V.map (·.1)).Nodup) (hV:∀ p∈V,H[p.2.1]?=some (C4 p.2.2)/\p.2.2<2 ^ 64) (hVl:V.length<=2000) (hok:H.all Cd=true):
  FC Tryz.prog 78 [.a (.c (.p yb 0)),.i cls,.i (c:Int)] H (fun r o=>(∃ VL:List (Int × Nat),WI (VL.map (·.1))/\(∀ q,q∈VL↔∃ p∈V,q=(p.1,p.2.2))/\r=.a (.c (.v (Jx (FM cls w VL)))))/\Pre H o/\o.all Cd=true):=by
 refine A6 Tryz.func78 rfl (by rw [Tryz.ntmps78];simp) ?_
 rw [Tryz.ntmps78]
 simp only [Bf]
 have hbl:=CP w
 (refine Wu (an @hyb (an @hta (an @htl @gt))) ?_;(repeat clear hK K);repeat refine kq fun K hK=>?_)
 (refine Ai rfl ?_;intro K1 hK1;refine L1 (a:=x) (w:=w) rfl rfl (by simp only [go_sem]) gx hw (by simp [Fi,AV.nb,A0.nb,C.nb]) ?_;simp only [go_sem];refine hK1 _ ?_;clear hK1 K1)
 refine BC (fun G=>Pre H G/\G[H.length]?=some (AA (AQ w))/\G.all Cd=true) ?_ ?_
 ·exact ⟨Pre.push _ _,Bp _ _,Bi hok (Dr _)⟩
 rintro G ⟨hP,gl,hokG⟩
 simp only
 have hll:=Br gl
 obtain ⟨lid,hlid⟩:∃ l,H.length=l:=⟨_,rfl⟩
 rw [hlid] at gl hll ⊢
 (refine Wt ?_;(repeat clear hK K);repeat refine kq fun K hK=>?_)
 refine BC (fun G2=>Pre G G2/\G2[G.length]?=some (AA [cls,(AQ w).length])/\G2.all Cd=true) ?_ ?_
 ·exact ⟨Pre.push _ _,Bp _ _,Bi hokG rfl⟩
 rintro G2 ⟨hP2,gn,hok2⟩
 simp only
 have gl2:=hP2.at gl
 have gn':G2[G.length]?=some (.r ⟨3,1,true,A7 [cls,(AQ w).length]⟩):=gn
 have gl2':G2[lid]?=some (.r ⟨3,1,true,A7 (AQ w)⟩):=gl2
 obtain ⟨nid,hnid⟩:∃ l,G.length=l:=⟨_,rfl⟩
 rw [hnid] at gn gn' hll ⊢
 (refine Wu (an @gn' (an @gl2' (an @List.set_cons_zero.{0} (an @List.set_cons_succ.{0} (an @List.take_succ_cons.{0} (an @List.take_zero.{0} (an @List.drop_zero.{0} (an @List.length_take.{0} (an @List.length_drop.{0} (an @List.length_append.{0} (an @A4 (an @Az (an @AN (an @Bm (an @A5 (an @AU (an @AE (an @B1 (an @AG @AM))))))))))))))))))) ?_;(repeat clear hK K);repeat refine kq fun K hK=>?_)
 refine BC (fun G3=>Pre H G3/\G3[G2.length]?=some (AA (cls :: ((AQ w).length:Int) :: AQ w))/\G3.all Cd=true) ?_ ?_
 ·refine ⟨(((hP.trans hP2).set (by omega) _).trans (Pre.push _ _)),?_,Bi (C2 hok2 rfl _) (Dr _)⟩
  have:=Bp (G2.set nid Ob.d) (AA (cls :: ((AQ w).length:Int) :: List.take (AQ w).length (AQ w)))
  rw [List.length_set,List.take_length] at this
  rw [List.take_length]
  exact this
 have hnG2:=Br gn
 rintro G3 ⟨hP3,gn3,hok3⟩
 simp only
 obtain ⟨id3,hid3⟩:∃ l,G2.length=l:=⟨_,rfl⟩
 rw [hid3] at gn3 hnG2 ⊢
 have hid3l:=Br gn3
 (refine Wu (an (hP3.at hyb) (an (hP3.at hvi) (an @hvl @gv))) ?_;(repeat clear hK K);repeat refine kq fun K hK=>?_)
 (refine Ai rfl ?_;intro K1 hK1;refine Ia (mid:=m) (kv:=Y4 V) Tryz.underlying138 rfl rfl (by simp only [go_sem]) (hP3.at gm) (L3 V) ?_;simp only [go_sem,Cu];refine hK1 _ ?_;clear hK1 K1)
 (refine Wt ?_;(repeat clear hK K);repeat refine kq fun K hK=>?_)
 refine Au (CT 9 3 1 ?_) ?_
 ·simp only [go_sem]
 simp only [List.length_append,List.length_cons,List.length_nil,Nat.zero_add]
 refine H2 (fun G=>Pre H G/\G[id3]?=some (AA (cls :: ((AQ w).length:Int) :: AQ w))/\G[G3.length]?=some (.m (Gx (some m) V.length [] V.length))/\G[G3.length+1]?=some (AA [])/\G.all Cd=true) ?_ ?_
 ·refine ⟨(hP3.trans (Pre.push _ _)).trans (Pre.push _ _),(Pre.push _ _).at ((Pre.push _ _).at gn3),(Pre.push _ _).at (Bp _ _),?_,Bi (Bi hok3 rfl) rfl⟩
  have:=Bp (G3++[Ob.m (Gx (some m) V.length [] V.length)]) (AA [])
  rwa [List.length_append] at this
 obtain ⟨itd,hitd⟩:∃ l,G3.length=l:=⟨_,rfl⟩
 rw [hitd] at hid3l ⊢
 rintro G ⟨hPG,g1,g2,g3,hokG⟩
 simp only
 refine A8 (fun x:List Nat × List Ob × Nat=>{ tm:=[(0,.a (.c (.p yb 0))),(2,.i c),(8,.a (.c (.s id3 (2+(AQ w).length)))),(9,.a (.c (.s x.2.2 (Ye V x.1).length))),(34,.a (.c (.p itd 0)))],hp:=x.2.1,n:=72,pin:=lid }) (fun x=>Pre H x.2.1/\x.2.1[id3]?=some (AA (cls :: ((AQ w).length:Int) :: AQ w))/\x.2.1[itd]?=some (.m (Gx (some m) V.length x.1 V.length))/\x.2.1[x.2.2]?=some (AA (Ye V x.1))/\id3<x.2.2/\(x.1.Nodup/\∀ z∈x.1,z<V.length)/\x.2.1.all Cd=true) (fun x=>V.length - x.1.length) ([],G,itd+1) ?_ ?_ ?_
 ·exact ⟨hPG,g1,g2,g3,by simp only;omega,⟨by simp,by simp⟩,hokG⟩
 ·simp only [Ye,List.map_nil,List.length_nil]
  exact WE
 clear hPG g1 g2 g3 hokG G
 rintro ⟨seen,G,eid⟩ ⟨hPG,g1,g2,g3,hide,⟨hsn,hsb⟩,hokG⟩ K hK
 simp only at hPG g1 g2 g3 hide hsn hsb hokG
 simp only
 refine AC ?_
 intro K hK
 refine Ad ?_
 have hne:itd ≠ eid:=by rintro rfl;rw [g2] at g3;cases g3
 (refine Ai rfl ?_;intro K1 hK1;refine JU (id:=itd) (mid:=m) (kv:=Y4 V) (since:=V.length) (last:=V.length) (seen:=seen) rfl rfl (by simp only [go_sem]) g2 (hPG.at gm) (L3 V) (Gu V) (by rw [Cu];exact Nat.le_refl _) (Nat.le_refl _) ?_ ?_)
 rotate_left
 ·intro z pz hz hzn
  obtain ⟨hzl,hzp⟩:=List.getElem?_eq_some_iff.1 hz
  rw [Cu] at hzl
  have hgz:=gE1 hzl
  have hpz:=O3 hgz
  rw [hz] at hpz
  cases hpz
  have hev:=Qr V seen z
  have hzg:(V.map (·.1)).getD z 0=V[z].1:=by rw [gE2,List.getElem?_map,hgz];rfl
  rw [hzg] at hev
  generalize V[z]=p at *
  obtain ⟨e,pk,pw⟩:=p
  simp only at hev hgz hzp
  have hlen:(seen++[z]).length<=V.length:=by
   have h:=Da (l:=seen++[z]) (m:=List.range V.length) (by rw [List.nodup_append];exact ⟨hsn,by simp,fun a ha b hb=>by simp only [List.mem_singleton] at hb;rw [hb];rintro rfl;exact hzn ha⟩) (fun y hy=>by
    rcases List.mem_append.1 hy with h | h
    ·simpa using hsb y h
    ·simp only [List.mem_singleton] at h;subst h;simpa using hzl)
   rwa [List.length_range] at h
  rw [List.length_append,List.length_cons,List.length_nil] at hlen
  have hevl:=SL V seen
  have hlit:lid<=itd:=by omega
  (simp only [go_sem,Cu];refine hK1 _ ?_;clear hK1 K1)
  refine BC (fun G4=>Pre H G4/\G4[id3]?=some (AA (cls :: ((AQ w).length:Int) :: AQ w))/\G4[itd]?=some (.m (Gx (some m) V.length (seen++[z]) V.length))/\G4[eid]?=some (.r ⟨3,1,true,A7 (Ye V seen)⟩)/\G4.all Cd=true) ?_ ?_
  ·exact ⟨hPG.set (by omega) _,by rw [gE5 (by omega)];exact g1,gEc (Br g2),by rw [gE5 hne];exact g3,C2 hokG rfl _⟩
  clear hPG g1 g2 g3 hokG
  rintro G4 ⟨hPG,g1,g2,g3,hokG⟩
  simp only
  (refine Wt ?_;(repeat clear hK K);repeat refine kq fun K hK=>?_)
  refine WB ?_
  (refine Wt ?_;(repeat clear hK K);repeat refine kq fun K hK=>?_)
  (refine Ai rfl ?_;intro K1 hK1;refine Ib (id:=itd) (mid:=m) (kv:=Y4 V) (since:=V.length) (seen:=seen) (i:=z) rfl rfl (by simp only [go_sem]) (by rw [Cu];exact g2) (hPG.at gm) (L3 V) (Gu V) hz ?_;simp only [go_sem];refine hK1 _ ?_;clear hK1 K1)
  (refine Wt ?_;(repeat clear hK K);repeat refine kq fun K hK=>?_)
  refine BC (fun G5=>Pre G4 G5/\G5[G4.length]?=some (.r ⟨3,1,true,A7 [e]⟩)/\G5.all Cd=true) ?_ ?_
  ·exact ⟨Pre.push _ _,Bp _ _,Bi hokG rfl⟩
  have hel:=Br g3
  rintro G5 ⟨hP5,g5,hok5⟩
  simp only
  obtain ⟨l4,hl4⟩:∃ l,G4.length=l:=⟨_,rfl⟩
  rw [hl4] at g5 hel ⊢
  have g5e:=hP5.at g3
  have hl45:=Br g5
  (refine Wu (an @g5 (an @g5e (an @List.set_cons_zero.{0} (an @List.set_cons_succ.{0} (an @List.take_succ_cons.{0} (an @List.take_zero.{0} (an @List.drop_zero.{0} (an @List.length_take.{0} (an @List.length_drop.{0} (an @List.length_append.{0} (an @A4 (an @Az (an @AN (an @Bm (an @A5 (an @AU (an @AE (an @B1 (an @AG @AM))))))))))))))))))) ?_;(repeat clear hK K);repeat refine kq fun K hK=>?_)
  have hevl2:(Ye V seen).length+1=(Ye V (seen++[z])).length:=by rw [hev];simp
  refine BC (fun G6=>Pre H G6/\G6[id3]?=some (AA (cls :: ((AQ w).length:Int) :: AQ w))/\G6[itd]?=some (.m (Gx (some m) V.length (seen++[z]) V.length))/\G6[G5.length]?=some (AA (Ye V (seen++[z])))/\G6.all Cd=true) ?_ ?_
  ·have hq1:=hPG.1
   refine ⟨((hPG.trans hP5).set (by omega) _).trans (Pre.push _ _),(Pre.push _ _).at ?_,(Pre.push _ _).at ?_,?_,Bi (C2 hok5 rfl _) (Dr _)⟩
   ·rw [gE5 (by omega)];exact hP5.at g1
   ·rw [gE5 (Ne.symm hne)];exact hP5.at g2
   ·have:=Bp (G5.set eid Ob.d) (AA (Ye V (seen++[z])))
    rw [List.length_set] at this
    rw [hev] at this ⊢
    rw [List.take_length]
    simp [AA]
  rintro G6 ⟨hP6,h6a,h6b,h6c,hok6⟩
  simp only
  rw [hevl2]
  have hi5:id3<G5.length:=by omega
  generalize G5.length=eid2 at *
  refine WD ?_
  refine hK _ (seen++[z],G6,eid2) ⟨hP6,h6a,h6b,h6c,hi5,⟨?_,?_⟩,hok6⟩ ?_ ?_
  rotate_left 2
  ·simp only [List.length_append,List.length_cons,List.length_nil];omega
  ·exact WE
  ·rw [List.nodup_append];exact ⟨hsn,by simp,fun a ha b hb=>by simp only [List.mem_singleton] at hb;rw [hb];rintro rfl;exact hzn ha⟩
  intro y hy
  rcases List.mem_append.1 hy with h | h
  ·exact hsb y h
  simp only [List.mem_singleton] at h;subst h;exact hzl
 intro hall
 rw [Cu] at hall
 have hperm:=Qs hsn hsb hall
 have hel:(Ye V seen).length<=100000000:=by rw [hperm.length_eq,List.length_map];omega
 (simp only [go_sem];refine hK1 _ ?_;clear hK1 K1)
 (refine Wt ?_;(repeat clear hK K);repeat refine kq fun K hK=>?_)
 refine WC ?_
 (refine Wx ?_;repeat clear hK K)
 (refine Wt ?_;(repeat clear hK K);repeat refine kq fun K hK=>?_)
 (refine Ai rfl ?_;intro K1 hK1;refine O9 (a:=eid) (L:=Ye V seen) rfl rfl (by simp only [go_sem]) g3 hel (by simp [Fi,AV.nb,A0.nb,C.nb]) ?_;intro ES hES1 hES2;simp only [go_sem];refine hK1 _ ?_;clear hK1 K1)
 have hperm2:=hES1.trans hperm
 have hESl:ES.length=V.length:=by rw [hperm2.length_eq,List.length_map]
 have hESn:ES.Nodup:=hperm2.nodup_iff.2 hnd
 have hESa:WI ES:=by
  unfold WI
  refine (hES2.and hESn).imp fun {a b} h=>?_
  obtain ⟨h1,h2⟩:=h
  omega
 have hESm:∀ e,e∈ES↔∃ p∈V,p.1=e:=fun e=>by rw [hperm2.mem_iff,List.mem_map]
 refine BC (fun G4=>Pre H G4/\G4[id3]?=some (AA (cls :: ((AQ w).length:Int) :: AQ w))/\G4[eid]?=some (AA ES)/\G4.all Cd=true) ?_ ?_
 ·have:=hPG.1
  exact ⟨hPG.set (by omega) _,by rw [gE5 (by omega)];exact g1,gEc (Br g3),C2 hokG (Dr _) _⟩
 have hlide:lid<=eid:=by have:=hPG.1;omega
 clear hPG g1 g2 g3 hokG
 rintro G ⟨hPG,g1,g3,hokG⟩
 simp only
 have hevl:(Ye V seen).length=ES.length:=hES1.length_eq.symm
 rw [hevl]
 (refine Wt ?_;(repeat clear hK K);repeat refine kq fun K hK=>?_)
 have e0:2+(AQ w).length=(FM cls w ((ES.take 0).map (Yg V))).length:=by simp [FM];omega
 refine A8 (fun x:Nat × List Ob × Nat=>{ tm:=[(0,.a (.c (.p yb 0))),(2,.i c),(8,.a (.c (.s x.2.2 (FM cls w ((ES.take x.1).map (Yg V))).length))),(45,.a (.c (.s eid ES.length))),(46,.i ES.length),(47,.i x.1)],hp:=x.2.1,n:=72,pin:=lid }) (fun x=>x.1<=ES.length/\Pre H x.2.1/\x.2.1[x.2.2]?=some (AA (FM cls w ((ES.take x.1).map (Yg V))))/\x.2.1[eid]?=some (AA ES)/\x.2.2 ≠ eid/\lid<=x.2.2/\x.2.1.all Cd=true) (fun x=>ES.length - x.1) (0,G,id3) ?_ ?_ ?_
 ·exact ⟨by simp,hPG,by simpa [FM] using g1,g3,by simp only;omega,by simp only;omega,hokG⟩
 ·rw [<- e0]
  exact WE
 clear hPG g1 g3 hokG e0
 rintro ⟨j,G,nid⟩ ⟨hj,hPG,g1,g3,hne2,hlin,hokG⟩ K hK
 simp only at hj hPG g1 g3 hne2 hlin hokG
 simp only
 have hkl:=Qt cls w ((ES.take j).map (Yg V))
 rw [List.length_map,List.length_take] at hkl
 by_cases hlj:j<ES.length
 rotate_left
 ·have d1:decide ((j:Int)<(ES.length:Int))=false:=by simpa using hlj
  have hje:ES.take j=ES:=gE7 (by omega)
  rw [hje] at g1 hkl ⊢
  (refine Wu @d1 ?_;(repeat clear hK K);repeat refine kq fun K hK=>?_)
  refine WC ?_
  (refine Wx ?_;repeat clear hK K)
  (refine Wt ?_;(repeat clear hK K);repeat refine kq fun K hK=>?_)
  (refine Ai rfl ?_;intro K1 hK1;refine SK (a:=nid) (L:=FM cls w (ES.map (Yg V))) rfl rfl (by simp only [go_sem]) g1 (by omega) (by simp [Fi,AV.nb,A0.nb,C.nb]) ?_;simp only [go_sem];refine hK1 _ ?_;clear hK1 K1)
  (refine Wt ?_;(repeat clear hK K);repeat refine kq fun K hK=>?_)
  subst hlid
  refine WH Tryz.results78 ?_
  refine ⟨⟨ES.map (Yg V),?_,fun q=>?_,rfl⟩,hPG,hokG⟩
  ·rw [List.map_map]
   have:(Prod.fst ∘ Yg V)=id:=rfl
   simpa [Function.comp_def,Yg] using hESa
  rw [List.mem_map]
  constructor
  rotate_left
  ·rintro ⟨p,hp,rfl⟩
   exact ⟨p.1,(hESm _).2 ⟨p,hp,rfl⟩,by unfold Yg;rw [Oa hnd hp]⟩
  rintro ⟨e,he,rfl⟩
  obtain ⟨p,hp,rfl⟩:=(hESm e).1 he
  exact ⟨p,hp,by unfold Yg;rw [Oa hnd hp]⟩
 have d1:decide ((j:Int)<(ES.length:Int))=true:=by simpa using hlj
 obtain ⟨p,hp,hpe⟩:=(hESm _).1 (gE6 hlj)
 have gE:=Am (gE1 hlj)
 have gE2:=Aq (gE1 hlj)
 have hwd:=Oa hnd hp
 have htk:(ES.take (j+1)).map (Yg V)=(ES.take j).map (Yg V)++[(p.1,p.2.2)]:=by
  rw [gE8 hlj,List.map_append,<- hpe,List.map_cons,List.map_nil]
  unfold Yg
  rw [hwd]
 obtain ⟨hp1,hp2⟩:=hV p hp
 obtain ⟨jj,hf⟩:=FO hnd hp rfl 0
 rw [<- hpe] at gE gE2
 have hks:=Oc cls w ((ES.take j).map (Yg V)) (p.1,p.2.2)
 rw [<- htk] at hks
 simp only at hks
 obtain ⟨e,pk,pw⟩:=p
 simp only at hp1 hp2 gE gE2 hf hks
 have hbl2:=CP pw
 generalize FM cls w ((ES.take j).map (Yg V))=L0 at *
 have g3':G[eid]?=some (.r ⟨3,1,true,A7 ES⟩):=g3
 (refine Wu @d1 ?_;(repeat clear hK K);repeat refine kq fun K hK=>?_)
 refine WB ?_
 (refine Wu (an @g3' (an @gE2 (an @A5 (an (hPG.at hyb) (an (hPG.at hvi) (an @hvl @gv)))))) ?_;(repeat clear hK K);repeat refine kq fun K hK=>?_)
 (refine Ai rfl ?_;intro K1 hK1;refine Ci (id:=m) (kv:=Y4 V) (zv:=.slice none 0 0) Tryz.underlying138 (EQ Tryz.underlying3) rfl rfl rfl (by simp only [go_sem]) (hPG.at gm) (Gu V) (by simp only [go_sem,EP]) (LT e) hf ?_;simp only [go_sem,XX];refine hK1 _ ?_;clear hK1 K1)
 (refine Wt ?_;(repeat clear hK K);repeat refine kq fun K hK=>?_)
 (refine Ai rfl ?_;intro K1 hK1;refine L1 (a:=pk) (w:=pw) rfl rfl (by simp only [go_sem]) (hPG.at hp1) hp2 (by simp [Fi,AV.nb,A0.nb,C.nb]) ?_;simp only [go_sem];refine hK1 _ ?_;clear hK1 K1)
 refine BC (fun G4=>Pre G G4/\G4[G.length]?=some (AA (AQ pw))/\G4.all Cd=true) ?_ ?_
 ·exact ⟨Pre.push _ _,Bp _ _,Bi hokG (Dr _)⟩
 have hnl:=Br g1
 have hel:=Br g3
 rintro G4 ⟨hP4,gb,hok4⟩
 simp only
 obtain ⟨lb,hlb⟩:∃ l,G.length=l:=⟨_,rfl⟩
 rw [hlb] at gb hnl hel ⊢
 (refine Wt ?_;(repeat clear hK K);repeat refine kq fun K hK=>?_)
 refine BC (fun G5=>Pre G4 G5/\G5[G4.length]?=some (AA [e,(AQ pw).length])/\G5.all Cd=true) ?_ ?_
 ·exact ⟨Pre.push _ _,Bp _ _,Bi hok4 rfl⟩
 have hll4:=Br gb
 rintro G5 ⟨hP5,gc5,hok5⟩
 simp only
 obtain ⟨l2,hl2⟩:∃ l,G4.length=l:=⟨_,rfl⟩
 rw [hl2] at gc5 hll4 ⊢
 have g1a:G5[nid]?=some (.r ⟨3,1,true,A7 L0⟩):=hP5.at (hP4.at g1)
 have gca:G5[l2]?=some (.r ⟨3,1,true,A7 [e,(AQ pw).length]⟩):=gc5
 have hl25:=Br gca
 (refine Wu (an @g1a (an @gca (an @List.set_cons_zero.{0} (an @List.set_cons_succ.{0} (an @List.take_succ_cons.{0} (an @List.take_zero.{0} (an @List.drop_zero.{0} (an @List.length_take.{0} (an @List.length_drop.{0} (an @List.length_append.{0} (an @A4 (an @Az (an @AN (an @Bm (an @A5 (an @AU (an @AE (an @B1 (an @AG @AM))))))))))))))))))) ?_;(repeat clear hK K);repeat refine kq fun K hK=>?_)
 refine BC (fun G6=>Pre H G6/\G6[G5.length]?=some (.r ⟨3,1,true,A7 (L0++[e,((AQ pw).length:Int)])⟩)/\G6[lb]?=some (.r ⟨3,1,true,A7 (AQ pw)⟩)/\G6[eid]?=some (AA ES)/\G6.all Cd=true) ?_ ?_
 ·have hPH:=((hPG.trans hP4).trans hP5)
  refine ⟨(hPH.set (by omega) _).trans (Pre.push _ _),?_,?_,?_,Bi (C2 hok5 rfl _) ?_⟩
  ·have:=Bp (G5.set nid Ob.d) (.r ⟨3,1,true,A7 (L0++[e,((AQ pw).length:Int)])⟩)
   rw [List.length_set] at this
   simpa only [List.take_length] using this
  ·refine (Pre.push _ _).at ?_
   rw [gE5 (by omega)];exact hP5.at gb
  ·refine (Pre.push _ _).at ?_
   rw [gE5 hne2];exact hP5.at (hP4.at g3)
  ·exact Dr _
 rintro G6 ⟨hP6,g6a,g6b,g6c,hok6⟩
 simp only
 obtain ⟨l3,hl3⟩:∃ l,G5.length=l:=⟨_,rfl⟩
 rw [hl3] at g6a hl25 ⊢
 have hl36:=Br g6a
 (refine Wu (an @g6a (an @g6b (an @List.set_cons_zero.{0} (an @List.set_cons_succ.{0} (an @List.take_succ_cons.{0} (an @List.take_zero.{0} (an @List.drop_zero.{0} (an @List.length_take.{0} (an @List.length_drop.{0} (an @List.length_append.{0} (an @A4 (an @Az (an @AN (an @Bm (an @A5 (an @AU (an @AE (an @B1 (an @AG @AM))))))))))))))))))) ?_;(repeat clear hK K);repeat refine kq fun K hK=>?_)
 have hkl3:L0.length+2+(AQ pw).length=(FM cls w ((ES.take (j+1)).map (Yg V))).length:=by rw [hks];simp;omega
 refine BC (fun G7=>Pre H G7/\G7[G6.length]?=some (AA (FM cls w ((ES.take (j+1)).map (Yg V))))/\G7[eid]?=some (AA ES)/\G7.all Cd=true) ?_ ?_
 ·refine ⟨(hP6.set (by omega) _).trans (Pre.push _ _),?_,?_,Bi (C2 hok6 rfl _) (Dr _)⟩
  ·have:=Bp (G6.set l3 Ob.d) (AA (FM cls w ((ES.take (j+1)).map (Yg V))))
   rw [List.length_set] at this
   rw [hks] at this ⊢
   have hL2:List.take (L0.length+2) (L0++[e,((AQ pw).length:Int)])=L0++[e,((AQ pw).length:Int)]:=gE7 (by simp)
   rw [hL2,List.take_length]
   simp [AA]
  ·refine (Pre.push _ _).at ?_
   rw [gE5 (by omega)];exact g6c
 rintro G7 ⟨hP7,g7a,g7b,hok7⟩
 simp only
 have hG6l:lid<=G6.length/\G6.length ≠ eid:=by
  have h1:=hP6.1
  have h2:=Br g6c
  constructor
  ·omega
  omega
 rw [hkl3]
 generalize G6.length=nid2 at *
 refine WD ?_
 refine hK _ (j+1,G7,nid2) ⟨by simp only;omega,hP7,g7a,g7b,hG6l.2,hG6l.1,hok7⟩ (by simp only;omega) ?_
 exact WE
def OW (n:Nat) (L:List Int):List Int:=L++List.replicate (n - L.length) 0
theorem Qu {n:Nat} {L:List Int} (h:L.length<=n):(OW n L).length=n:=by simp [OW];omega
theorem Qv {n:Nat} {L:List Int} (h:L.length<n) (x:Int):(OW n L).set L.length x=OW n (L++[x]):=by
 unfold OW
 obtain ⟨d,hd⟩:∃ d,n - L.length=d+1:=⟨n - L.length - 1,by omega⟩
 rw [hd,List.set_append_right _ _ (Nat.le_refl _),Nat.sub_self,List.replicate_succ,List.set_cons_zero,List.length_append,List.length_cons,List.length_nil,show n - (L.length+(0+1))=d from by omega]
 simp
theorem Oe (n:Nat):List.replicate n (C.v (.int .i64 0))=A7 (OW n []):=by simp [OW,A7]
theorem Of {n:Nat} {L:List Int} (h:L.length=n):OW n L=L:=by simp [OW,h]
section
variable {α : Type} [DecidableEq α]
set_option maxHeartbeats 2000000 in
theorem SN (ky:List Value) (g:Nat->α) (h:Tu ky g) (hn:ky.length<=1000000):FC Tryz.prog 76 [.a (.c (.s 0 ky.length))] [.r ⟨9,1,true,Y0 ky⟩] (fun r o=>r=.tup [.c (.s 1 ky.length),.c (.v (.int .i64 (Xh g ky.length).2))]/\o=[.r ⟨9,1,true,Y0 ky⟩,AA (Xh g ky.length).1]):=by
 refine A6 Tryz.func76 rfl (by rw [Tryz.ntmps76];simp) ?_
 rw [Tryz.ntmps76]
 simp only [Bf]
 (refine Wu @Oe ?_;(repeat clear hK K);repeat refine kq fun K hK=>?_)
 refine A8 (fun k:Nat=>{ tm:=[(4,.a (.c (.m 1))),(5,.a (.c (.s 2 ky.length))),(14,.a (.c (.s 0 ky.length))),(15,.i ky.length),(16,.i k)],hp:=[.r ⟨9,1,true,Y0 ky⟩,.m (XZ ky g k),.r ⟨3,1,true,A7 (OW ky.length (Xh g k).1)⟩],n:=42,pin:=1 }) (fun k=>k<=ky.length) (fun k=>ky.length - k) 0 ?_ ?_ ?_
 ·omega
 ·exact WE
 rintro k hk K hK
 by_cases hlt:k<ky.length
 rotate_left
 ·have d1:decide ((k:Int)<(ky.length:Int))=false:=by simpa using hlt
  have hke:k=ky.length:=by omega
  have hkl:=NU ky g k
  have hnl:=(Cx g k).len
  have hitk:Pe (XZ ky g k)=false:=by obtain ⟨M,hM⟩:=Hw ky g k;rw [hM];exact Rj M
  rw [<- hke]
  rw [<- hke] at d1
  rw [Of hnl]
  (refine Wu @d1 ?_;(repeat clear hK K);repeat refine kq fun K hK=>?_)
  refine WC ?_
  (refine Wx ?_;repeat clear hK K)
  (refine Wt ?_;(repeat clear hK K);repeat refine kq fun K hK=>?_)
  (refine Ai rfl ?_;intro K1 hK1;refine KV (id:=1) (kv:=XZ ky g k) Tryz.underlying128 rfl rfl rfl rfl rfl (by simp only [go_sem]) rfl hitk ?_;simp only [go_sem,hkl];refine hK1 _ ?_;clear hK1 K1)
  (refine Wt ?_;(repeat clear hK K);repeat refine kq fun K hK=>?_)
  ((try refine Av ?_);(try simp only [Ae,AF]);refine B6 (A9 [0,2] rfl rfl) ?_;(try simp only [List.set_nil,List.take_nil,List.take_zero,List.map_append,go_sem]);((try refine Av ?_);(try refine Aa ?_);(try simp only [Ae,AF]);refine Bj (by first | exact .inl rfl | exact .inr rfl) rfl ?_;simp only [VU,Dy,Du,DL,Tryz.results76,go_sem,true_and,and_true,Af,Fd,AA]))
  rw [hke];exact ⟨rfl,rfl⟩
 have d1:decide ((k:Int)<(ky.length:Int))=true:=by simpa using hlt
 have gk:=Sp hlt
 have hft:=So h hlt
 have hcl:=(Cx g k).cnt
 have hpl:=Ug ky g k
 have hkl:=NU ky g k
 have hnl:=(Cx g k).len
 have hfd:=Qc h hlt k hk
 have hfl:=Qu (n:=ky.length) (L:=(Xh g k).1) (by omega)
 have hfs:=Qv (n:=ky.length) (L:=(Xh g k).1) (by omega)
 rw [hnl] at hfs
 (refine Wu (an @Gt @d1) ?_;(repeat clear hK K);repeat refine kq fun K hK=>?_)
 refine WB ?_
 cases hf:(List.range k).find? (fun t=>decide (g t=g k)) with
 | some t0=>
  have h2:=List.find?_range_eq_some.1 hf
  have h3:t0<k:=by simpa using h2.2.1
  have h4:g t0=g k:=by simpa using h2.1
  have hkv:XZ ky g (k+1)=XZ ky g k:=EH hf
  have hng:=Do hf
  obtain ⟨t,a1,a2,j,a3⟩:∃ t,t<k/\g t=g k/\∃ j,BJ .ks (ky.getD k (.int .i64 0)) (XZ ky g k) 0=some (some (j,.v (.int .i64 ((Xh g k).1.getD t 0)))):=by
   rcases hfd with h | ⟨a1,_⟩
   ·exact h
   exact absurd h4 (a1 t0 h3)
  have he:(Xh g k).1.getD t 0=(Xh g k).1.getD t0 0:=((Cx g k).eq t t0 a1 h3).2 (a2.trans h4.symm)
  rw [he] at a3
  have cs:=hfs ((Xh g k).1.getD t0 0)
  obtain ⟨M,hM⟩:=Hw ky g k
  generalize XZ ky g k=kv at *
  subst hM
  generalize Xh g k=p at *
  generalize ky.getD k (.int .i64 0)=kk at *
  (refine Wu (an @Gt @gk) ?_;(repeat clear hK K);repeat refine kq fun K hK=>?_)
  (refine Ai rfl ?_;intro K1 hK1;refine Ci (id:=1) (kv:=M.map fun p=>(p.1,C.v p.2)) (zv:=.int .i64 0) Tryz.underlying128 (J9 Tryz.underlying9) rfl rfl rfl (by simp only [go_sem]) rfl hpl (by simp only [go_sem,EP]) hft a3 ?_;simp only [go_sem,XX];refine hK1 _ ?_;clear hK1 K1)
  (refine Wu @Bool.not_true ?_;(repeat clear hK K);repeat refine kq fun K hK=>?_)
  refine WC ?_
  (refine Cn (an @A5 (an @hfl (an @AK @cs))) ?_;(repeat clear hK K);repeat refine kq fun K hK=>?_)
  refine WD ?_
  refine hK _ (k+1) (by omega) (by omega) ?_
  rw [hkv,hng]
  exact WE
 | none=>
  have hno:=List.find?_range_eq_none.1 hf
  have hkv:=EI (ky:=ky) hf
  have hng:=Dp hf
  have a2:BJ .ks (ky.getD k (.int .i64 0)) (XZ ky g k) 0=some none:=by
   rcases hfd with ⟨t,a1,a2,_⟩ | ⟨_,a2⟩
   ·exact absurd a2 (by simpa using hno t a1)
   exact a2
  have cs:=hfs (Xh g k).2
  obtain ⟨M,hM⟩:=Hw ky g k
  generalize XZ ky g k=kv at *
  subst hM
  generalize Xh g k=p at *
  generalize ky.getD k (.int .i64 0)=kk at *
  (refine Wu (an @Gt @gk) ?_;(repeat clear hK K);repeat refine kq fun K hK=>?_)
  (refine Ai rfl ?_;intro K1 hK1;refine Ci (id:=1) (kv:=M.map fun p=>(p.1,C.v p.2)) (zv:=.int .i64 0) Tryz.underlying128 (J9 Tryz.underlying9) rfl rfl rfl (by simp only [go_sem]) rfl hpl (by simp only [go_sem,EP]) hft a2 ?_;simp only [go_sem,XX];refine hK1 _ ?_;clear hK1 K1)
  (refine Wu @Bool.not_false ?_;(repeat clear hK K);repeat refine kq fun K hK=>?_)
  refine WB ?_
  (refine Wt ?_;(repeat clear hK K);repeat refine kq fun K hK=>?_)
  (refine Ai rfl ?_;intro K1 hK1;refine KV (id:=1) (kv:=M.map fun p=>(p.1,C.v p.2)) Tryz.underlying128 rfl rfl rfl rfl rfl (by simp only [go_sem]) rfl (Rj _) ?_;simp only [go_sem,hkl];refine hK1 _ ?_;clear hK1 K1)
  (refine Wt ?_;(repeat clear hK K);repeat refine kq fun K hK=>?_)
  (refine Ai rfl ?_;intro K1 hK1;refine GY (id:=1) (kv:=M.map fun p=>(p.1,C.v p.2)) (c:=.v (.int .i64 p.2)) Tryz.underlying128 (J9 Tryz.underlying9) rfl rfl (by simp only [go_sem]) rfl hpl (by simp only [go_sem,EP]) hft (by simp only [go_sem]) rfl a2 ?_;simp only [go_sem];refine hK1 _ ?_;clear hK1 K1)
  (refine Cn (an @A5 (an @hfl (an @AK @cs))) ?_;(repeat clear hK K);repeat refine kq fun K hK=>?_)
  refine WD ?_
  refine hK _ (k+1) (by omega) (by omega) ?_
  rw [hkv,hng]
  exact WE
end
def Yh:Value:=.string { data:=#[100,105,118,101,114,103,101,110,116] }
def Yi:Value:=.string { data:=#[] }
theorem Uq (ky:List Value) (f:Nat->Nat):(Y0 ky).map (C.up f)=Y0 ky:=by simp [Y0,C.up,Function.comp_def]
theorem SO {a b c:ST} (h:Le a b) (k:Le b c):Le a c:=h.trans k
end Go.Proofs.YtjijjfkalheokaaGreatDoor
