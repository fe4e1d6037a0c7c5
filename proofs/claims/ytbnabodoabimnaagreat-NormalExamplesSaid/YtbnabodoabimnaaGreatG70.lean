/- Lemmas. -/
import Derived.Test.YtbnabodoabimnaaGreatG67
import Derived.Test.YtbnabodoabimnaaGreatG45
import Derived.Test.YtbnabodoabimnaaGreatTj1
import Derived.Test.YtbnabodoabimnaaGreatMD
import Derived.Shelf.SlSortCmp.Kit1
import Derived.Test.YtbnabodoabimnaaGreatMF
import Derived.Test.YtbnabodoabimnaaGreatShlfS
import Derived.Shelf.Sort.Plain
import Derived.Shelf.Slices.In.SortNone
import Derived.Test.YtbnabodoabimnaaGreatZk
import Derived.Test.YtbnabodoabimnaaGreatG42
namespace Go.Proofs.YtbnabodoabimnaaGreat
set_option linter.unusedVariables false
set_option linter.unusedSimpArgs false
open Go.RowKit
set_option maxRecDepth 100000
attribute [local go_sem] lga C.pl C.one

structure Fw (E:Nat->List Nat) (n:Nat) (F:List Nat) (rd:Int) (seen:List Int) (out:List Nat):Prop where
 len:seen.length=n
 st:∀ u,u<n->(seen.getD u 0=rd↔u∈out)
 nd:out.Nodup
 lt:∀ u∈out,u<n
 snd:∀ u∈out,∃ v∈F,Rc E v u
 bd:∀ x∈seen,x<=rd
variable {E : Nat -> List Nat} {n : Nat} {F : List Nat} {rd : Int} {seen : List Int} {out : List Nat}
theorem Fw.start (h : seen.length = n) (hb : ∀ x ∈ seen, x < rd) : Fw E n F rd seen [] :=
 ⟨h, fun u hu => ⟨fun e => by
  rw [gE2, gE1 (by omega), Option.getD_some] at e
  have := hb _ (gE6 (show u < seen.length by omega)); omega, fun h => by simp at h⟩, List.nodup_nil, fun u h => by simp at h, fun u h => by simp at h, fun x h => by have := hb x h; omega⟩
theorem Fw.push (h:Fw E n F rd seen out) {u:Nat} (hu:u<n) (hn:seen.getD u 0 ≠ rd) (hs:∃ v∈F,Rc E v u):Fw E n F rd (seen.set u rd) (out++[u]):=by
 have hno:u ∉ out:=fun hm=>hn ((h.st u hu).2 hm)
 refine ⟨by rw [List.length_set];exact h.len,fun w hw=>?_,?_,fun w hw=>?_,fun w hw=>?_,fun x hx=>?_⟩
 rotate_left
 ·exact List.nodup_append.2 ⟨h.nd,by simp,fun a ha b hb=>by simp at hb;subst hb;exact fun e=>hno (e ▸ ha)⟩
 ·rcases List.mem_append.1 hw with h1 | h1
  ·exact h.lt w h1
  simp at h1;omega
 ·rcases List.mem_append.1 hw with h1 | h1
  ·exact h.snd w h1
  simp at h1;subst h1;exact hs
 ·rcases List.mem_or_eq_of_mem_set hx with h1 | h1
  ·exact h.bd x h1
  omega
 rw [gE2,List.getElem?_set]
 by_cases e:u=w
 ·subst e
  rw [if_pos rfl,if_pos (by rw [h.len];exact hw)]
  simp
 rw [if_neg e,<- gE2,h.st w hw]
 simp [Ne.symm e]
theorem Fw.mem (h:Fw E n F rd seen out) {u:Nat} (hu:u<n) (hs:seen.getD u 0=rd):u∈out:=(h.st u hu).1 hs
theorem Ko:∀ (n:Nat) (l:List Nat),l.Nodup->(∀ u∈l,u<n)->l.length<=n:=by
 intro n
 induction n with
 | zero=>intro l _ h;cases l with
  | nil=>simp
  | cons a r=>have:=h a (by simp);omega
 | succ n ih=>
  intro l hn hl
  have h1:(l.erase n).length<=n:=ih _ (hn.erase n) fun u hu=>by
   have h2:=(List.Nodup.mem_erase_iff hn).1 hu
   have:=hl u h2.2
   omega
  have:=List.length_erase (a:=n) (l:=l)
  split at this <;> omega
theorem Fw.le (h:Fw E n F rd seen out):out.length<=n:=Ko n out h.nd h.lt
theorem Fw.done (h:Fw E n F rd seen out) (hF:∀ v∈F,v∈out) (hc:∀ u∈out,∀ w∈E u,w∈out) (u:Nat):u∈out↔∃ v∈F,Rc E v u:=by
 refine ⟨h.snd u,fun ⟨v,hv,hr⟩=>?_⟩
 induction hr with
 | refl=>exact hF v hv
 | tail _ he ih=>exact hc _ (ih ⟨v,hv,‹_›⟩) _ he
def DV (n:Nat) (p:Nat->Bool):List Nat:=(List.range n).filter p
theorem Bu (n:Nat) (p:Nat->Bool):(DV n p).Pairwise (· < ·):=List.Pairwise.filter _ List.pairwise_lt_range
theorem BI {n:Nat} {p:Nat->Bool} {u:Nat}:u∈DV n p↔u<n/\p u=true:=by simp [DV]
theorem G0:∀ {l m:List Nat},l.Pairwise (· < ·)->m.Pairwise (· < ·)->(∀ a,a∈l↔a∈m)->l=m
 | [],[],_,_,_=>rfl
 | [],b :: m,_,_,h=>by have:=(h b).2 (by simp);simp at this
 | a :: l,[],_,_,h=>by have:=(h a).1 (by simp);simp at this
 | a :: l,b :: m,hl,hm,h=>by
  have hl':=List.pairwise_cons.1 hl
  have hm':=List.pairwise_cons.1 hm
  have hab:a=b:=by
   rcases List.mem_cons.1 ((h a).1 (by simp)) with e | e
   ·exact e
   ·rcases List.mem_cons.1 ((h b).2 (by simp)) with e' | e'
    ·exact e'.symm
    ·have h1:=hm'.1 a e
     have h2:=hl'.1 b e'
     omega
  subst hab
  congr 1
  refine G0 hl'.2 hm'.2 fun c=>⟨fun hc=>?_,fun hc=>?_⟩
  ·rcases List.mem_cons.1 ((h c).1 (gEf _ hc)) with e | e
   ·subst e;have:=hl'.1 c hc;omega
   ·exact e
  ·rcases List.mem_cons.1 ((h c).2 (gEf _ hc)) with e | e
   ·subst e;have:=hm'.1 c hc;omega
   ·exact e
theorem Kp {l m:List Nat} {p:Nat->Bool} (hp:m.Perm l) (hs:m.Pairwise (·<=·)) (hn:l.Nodup) (hl:∀ u,u∈l↔u<n/\p u=true):m=DV n p:=by
 have hm:m.Nodup:=hp.symm.nodup hn
 refine G0 ?_ (Bu n p) fun a=>by rw [hp.mem_iff,hl,BI]
 refine List.Pairwise.imp (fun h=>by omega) (List.Pairwise.and hs hm)
theorem Pf {r:List (Int × Int)} {k:Nat} {a:Int × Int} (h0:∀ j b,j<k+1->r[j]?=some b->b.1=0) (hk:r[k]?=some a):a∈r.takeWhile fun a=>a.1 == 0:=by
 induction r generalizing k with
 | nil=>simp at hk
 | cons b r ih=>
  have hb:=h0 0 b (by omega) rfl
  rw [List.takeWhile_cons,if_pos (by simp [hb])]
  cases k with
  | zero=>simp at hk;subst hk;simp
  | succ k=>exact gEf _ (ih (k:=k) (fun j c hj hc=>h0 (j+1) c (by omega) (by simpa using hc)) (by simpa using hk))
theorem Kr {r:List (Int × Int)} {k:Nat} {t:Bool} {a:Int × Int} (h0:t=true->∀ j b,j<k+1->r[j]?=some b->b.1=0) (hk:r[k]?=some a):a∈BP t r:=by
 unfold BP
 split
 rotate_left
 ·exact gE9 hk
 rename_i ht
 exact Pf (h0 ht) hk
theorem LC {r:List (Int × Int)} {k:Nat} (h0:∀ j a,j<k->r[j]?=some a->a.1=0) (h1:∀ a,r[k]?=some a->a.1 ≠ 0):BP true r=r.take k:=by
 unfold BP
 rw [if_pos rfl]
 induction r generalizing k with
 | nil=>simp
 | cons a r ih=>
  cases k with
  | zero=>
   have:=h1 a rfl
   simp [List.takeWhile_cons,this]
  | succ k=>
   have:=h0 0 a (by omega) rfl
   rw [List.takeWhile_cons,if_pos (by simp [this]),List.take_succ_cons,ih (k:=k) (fun j b hj hb=>h0 (j+1) b (by omega) (by simpa using hb)) (fun b hb=>h1 b (by simpa using hb))]
end Go.Proofs.YtbnabodoabimnaaGreat
namespace Go.Proofs.YtbnabodoabimnaaGreat
set_option linter.unusedVariables false
set_option linter.unusedSimpArgs false
open Go.RowKit Go.Shelf Go.Sort
set_option maxRecDepth 100000

section
variable {α : Type} [Inhabited α] {enc : α -> Value} {w : World} {blk off m : Nat} {dk : Array α} {os : Array Obj}
theorem J8:w.heap.size<=(sortWorld enc w blk off m dk os).heap.size:=by
 simp [sortWorld,grow,putRow,mapBlock,Sort.ahead]
theorem Kt {k:Nat} (hk:k<w.heap.size) (hne:k ≠ blk):(sortWorld enc w blk off m dk os).heap[k]?=w.heap[k]?:=by
 simp only [sortWorld,grow,putRow,mapBlock,Sort.ahead]
 rw [Array.getElem?_append_left (by simpa using hk),Array.getElem?_modify,if_neg (Ne.symm hne)]
theorem Rz {arr:Array Value} {e:TypeId} {fz:Nat × Nat} (h:w.heap[blk]?=some (.cells arr e fz)):(sortWorld enc w blk off m dk os).heap[blk]?=some (.cells (putCells enc off dk arr) e fz):=by
 have hk:=(Array.getElem?_eq_some_iff.1 h).1
 simp only [sortWorld,grow,putRow,mapBlock,Sort.ahead]
 rw [Array.getElem?_append_left (by simpa using hk),Array.getElem?_modify,if_pos rfl,h]
 rfl
theorem Un {M:Nat->Prop} (hM:M blk):Fp M w (sortWorld enc w blk off m dk os):=
 ⟨rfl,rfl,rfl,J8,fun k hk hm=>Kt hk (fun e=>hm (e ▸ hM)),by simp [sortWorld,grow,putRow,mapBlock,Sort.ahead]⟩
end
theorem RA {t:Tr} {k:Nat × Nat} {cs:List Tr}:C.ofTr t ≠ .o k cs:=by cases t <;> simp [C.ofTr]
theorem Ww {g:Gh} {α0:Type} {tr:α0->Tr} {e:TypeId} {L:List α0} {ℓ:Loc}:Lv [.r ⟨e,1,true,L.map fun x=>C.ofTr (tr x)⟩] g ℓ↔ℓ=.ob 0/\g.κ 0 ≠ 0:=by
 cases ℓ with
 | ob id=>
  constructor
  rotate_left
  ·rintro ⟨h1,h2⟩
   cases h1
   exact .inl ⟨_,rfl,h2⟩
  rintro (⟨r,h1,h2⟩ | ⟨kv,h1⟩)
  rotate_left
  ·cases id with
   | zero=>simp at h1
   | succ i=>simp at h1
  cases id with
  | zero=>exact ⟨rfl,h2⟩
  | succ i=>simp at h1
 | cl id j=>
  constructor
  rotate_left
  ·rintro ⟨h1,h2⟩;cases h1
  rintro ⟨r,k,cs,h1,h2,h3⟩
  cases id with
  | zero=>
   simp at h1;subst h1
   rw [List.getElem?_map,Option.map_eq_some_iff] at h2
   obtain ⟨x,_,h2⟩:=h2
   exact absurd h2 RA
  | succ i=>simp at h1
def Wx (x:Int):Tr:=.v (.int .i64 x)
theorem He (L:List Int) (hsz:L.length<=100000000):FC Tryz.prog 110 [.a (.c (.s 0 L.length))] [.r ⟨3,1,true,A9 L⟩] (fun r o=>r=.u/\∃ L':List Int,L'.Perm L/\L'.Pairwise (fun a b=>a<=b)/\o=[.r ⟨3,1,true,A9 L'⟩]):=by
 intro g w vals hr hargs
 obtain ⟨hlen,hargs⟩:=hargs
 obtain ⟨v1,e1,b1,b2,A,rfl,b4,b5⟩:=hargs 0 _ rfl
 have hvals:vals=[.slice A L.length (g.κ 0)]:=by
  match vals,hlen with
  | [a],_=>simp at e1;simp [e1]
 subst hvals
 have lvI:∀ {L:List Int} {ℓ:Loc},Lv [.r ⟨3,1,true,A9 L⟩] g ℓ↔ℓ=.ob 0/\g.κ 0 ≠ 0:=fun {L ℓ}=>Ww (tr:=Wx) (L:=L)
 rcases hr.row 0 _ rfl with ⟨h0,hnil⟩ | ⟨h0,hne,arr,ha,hle,hs,hmx,hcells⟩
 ·have hL0:L=[]:=by
   have h:A9 L=[]:=hnil
   simpa [A9] using h
  subst hL0
  refine (Any.slices_Sort_int_none Tryz.sortInts A (g.κ 0) w).mono ?_
  rintro e' w' ⟨rfl,rfl⟩
  exact ⟨.tuple #[],.u,_,g,rfl,⟨rfl,[],List.Perm.refl _,List.Pairwise.nil,rfl⟩,hr,⟨Nat.le_refl _,Ext.refl _ _⟩,fun ℓ hl=>.inl ⟨ℓ,hl,rfl⟩,trivial,Fp.refl _ _⟩
 rw [b4 h0] at *
 have hblk:g.γ (.ob 0)<w.heap.size:=(Array.getElem?_eq_some_iff.1 ha).1
 have hOw:Ow [.r ⟨3,1,true,A9 L⟩] g (g.γ (.ob 0)):=.inr ⟨.ob 0,lvI.2 ⟨rfl,h0⟩,rfl⟩
 have hle':L.length<=arr.size:=by simpa [A4] using hle
 have hget:∀ j (hj:j<L.length),arr[j]?=some (.int .i64 L[j]):=by
  intro j hj
  obtain ⟨u,u1,u2⟩:=hcells j (.v (.int .i64 L[j])) (At (gE1 hj))
  rw [u1,show u=.int .i64 L[j] from u2]
 have hH:Holds (Value.int .i64) w (g.γ (.ob 0)) 0 L.toArray:=by
  intro j hj
  simp only [List.size_toArray] at hj
  constructor
  rotate_left
  ·simp [World.frozen?,ha]
  rw [Nat.zero_add,cell_of_row w _ j arr _ (0,0) ha,hget j hj,getElem!_pos _ j (by simpa using hj)]
  simp
 refine (Any.slices_Sort_int Tryz.sortInts (g.γ (.ob 0)) 0 (g.κ 0) L w hH hblk (by omega)).mono ?_
 rintro e' w' ⟨rfl,m,os,rfl⟩
 obtain ⟨L',hL'⟩:∃ L',L'=L.mergeSort fun x y=>decide (x<=y):=⟨_,rfl⟩
 have hperm:L'.Perm L:=by rw [hL'];exact List.mergeSort_perm _ _
 have hsort:L'.Pairwise (fun a b=>a<=b):=by
  rw [hL']
  have:=List.pairwise_mergeSort (le:=fun x y:Int=>decide (x<=y)) (fun a b c h1 h2=>by simp at *;omega) (fun a b=>by simp;omega) L
  exact this.imp fun h=>by simpa using h
 rw [<- hL']
 have hll:=hperm.length_eq
 show OC _ _ _ _ _ (sortWorld (Value.int .i64) w (g.γ (.ob 0)) 0 m L'.toArray os)
 refine ⟨.tuple #[],.u,_,g,rfl,⟨rfl,L',hperm,hsort,rfl⟩,?_,⟨Nat.le_refl _,Ext.refl _ _⟩,fun ℓ hl=>.inl ⟨ℓ,lvI.2 (lvI.1 hl),rfl⟩,trivial,Un ⟨.ob 0,lvI.2 ⟨rfl,h0⟩,rfl⟩⟩
 refine ⟨fun b hb=>Nat.lt_of_lt_of_le (hr.ml b hb) J8,fun ℓ hl=>hr.md ℓ (lvI.2 (lvI.1 hl)),fun ℓ ℓ' hl hl'=>hr.inj ℓ ℓ' (lvI.2 (lvI.1 hl)) (lvI.2 (lvI.1 hl')),fun id r hid=>?_,fun id r hid=>?_,hr.gl.keep J8 (fun k hk hn=>Kt hk (fun e=>hn (e ▸ hOw))) (fun k _ hk=>hk.imp (fun h=>h) (fun ⟨ℓ,hl,e⟩=>⟨ℓ,lvI.2 (lvI.1 hl),e⟩))⟩
 rotate_left
 ·cases id with
  | zero=>simp at hid
  | succ i=>simp at hid
 cases id with
 | succ i=>simp at hid
 | zero=>
  simp at hid
  subst hid
  refine .inr ⟨h0,fun _ hn=>?_,_,Rz ha,?_,?_,hmx,fun j c hj=>?_⟩
  ·have h1:L'=[]:=by simpa [A9] using hn
   rw [h1] at hll
   have h2:L=[]:=List.length_eq_zero_iff.1 hll.symm
   exact hne rfl (by simp [h2,A9])
  ·simp only [A4,putCells,Array.size_mapIdx];omega
  ·simpa [putCells] using hs
  have hjl:j<L'.length:=by have:=(List.getElem?_eq_some_iff.1 hj).1;rw [A4] at this;exact this
  have hc:c=.v (.int .i64 L'[j]):=by
   rw [At (gE1 hjl)] at hj
   exact (Option.some.inj hj).symm
  subst hc
  refine ⟨.int .i64 L'[j],?_,rfl⟩
  unfold putCells
  rw [Array.getElem?_mapIdx,gEd (by omega)]
  simp [hjl]
open Go.RowKit
attribute [local go_sem] lga C.pl C.one
def Wy (R:List (List Ar)) (id:Nat) (rd:Int):Ob:=.r ⟨124,3,false,[.t 1 (AK R),.s id R.length,.v (.int .i64 rd)]⟩
theorem N2 (R:List (List Ar)) (hn:R.length<=1000000):FC Tryz.prog 77 [Ba R] [] (fun r o=>o=[Wy R 1 0,.r ⟨3,1,true,A9 (List.replicate R.length 0)⟩]/\r=.a (.c (.p 0 0))):=by
 refine A7 Tryz.func77 rfl (by rw [Tryz.ntmps77];simp) ?_
 rw [Tryz.ntmps77]
 simp only [B4,Ba]
 (refine VV ?_;(repeat clear hK K);repeat refine kq fun K hK=>?_)
 (refine AF [] (.m 1 0 0 (.m 0 1 6 (.m 2 1 4 (.m 3 0 0 (.a 4 (.m 5 0 0 (.a 6 (.a 7 .e)))))))) (by kernel_rfl) (by kernel_rfl) (by intro c st h;simp [Ad,Ay,Vl] at h) ?_)
 (refine VY @A6 ?_;repeat clear hK K)
 (refine VL rfl rfl ?_;intro K1 hK1;refine Bl rfl ?_;simp only [go_sem,A6];(first | refine hK1 _ ?_ | refine AE (hK1 _ ?_));clear hK1 K1)
 (refine VX ?_;repeat clear hK K)
 (refine VL rfl rfl ?_;intro K1 hK1;refine Bl rfl ?_;simp only [go_sem];(first | refine hK1 _ ?_ | refine AE (hK1 _ ?_));clear hK1 K1)
 (refine VX ?_;repeat clear hK K)
 (refine VM rfl rfl rfl rfl ?_;intro K1 hK1;refine Bc rfl ?_;simp only [go_sem];(first | refine hK1 _ ?_ | refine AE (hK1 _ ?_));clear hK1 K1)
 refine DY ⟨by simp,by simp,?_⟩
 (try simp only [Ad,Ay])
 refine hK _ ?_
 clear hK K
 have e0:List.replicate R.length (C.v (.int .i64 0))=A9 (List.replicate R.length 0):=by simp [A9]
 rw [e0]
 (refine VV ?_;(repeat clear hK K);repeat refine kq fun K hK=>?_)
 ((try refine Ak ?_);(try simp only [Ad,Ay]);refine AB (A8 [2,1] rfl rfl) ?_;(try simp only [List.set_nil,List.take_nil,List.take_zero,List.map_append,go_sem]);((try refine Ak ?_);(try refine Aa ?_);(try simp only [Ad,Ay]);refine AN (by first | exact .inl rfl | exact .inr rfl) rfl ?_;simp only [Vm,Cq,Ck,Cx,Tryz.results77,go_sem,true_and,and_true,A5,Wy]))
def Wz:List Ar->Bool
 | []=>true
 | a :: _=>a.1 != 0
theorem N3 (R:List (List Ar)) (s:Nat) (h:s<R.length) (hn:R.length<=1000000) (hr:∀ r∈R,r.length<=1000000):FC Tryz.prog 139 [Ba R,.i s] [] (fun r o=>o=[]/\r=.b (Wz R[s])):=by
 refine A7 Tryz.func139 rfl (by rw [Tryz.ntmps139];simp) ?_
 rw [Tryz.ntmps139]
 simp only [B4,Ba]
 have hg:=gE1 h
 have hrl:=hr _ (gE6 h)
 generalize R[s]=row at *
 by_cases h0:row.length=0
 ·have d0:((row.length:Int) == 0)=true:=by simp [h0]
  (refine VW (an @A6 (an (Ao hg) (an @A3 (an @Aq @d0)))) ?_;(repeat clear hK K);repeat refine kq fun K hK=>?_)
  refine W6 [] Tryz.results139 ?_
  have:row=[]:=List.length_eq_zero_iff.1 h0
  subst this;rfl
 have d0:((row.length:Int) == 0)=false:=by simp;intro e;simp [e] at h0
 have h1:0<row.length:=by omega
 have hc:(Aw row)[Int.toNat 0*2]?=some (.v (.int .i64 row[0].1)):=DQ h1
 (refine VW (an @A6 (an (Ao hg) (an @A3 (an @Aq (an @d0 @hc))))) ?_;(repeat clear hK K);repeat refine kq fun K hK=>?_)
 refine W6 [] Tryz.results139 ?_
 cases row with
 | nil=>exact absurd rfl h0
 | cons a q=>rfl
set_option maxHeartbeats 8000000 in
theorem Ie (R:List (List Ar)) (t:Bool) (F:List Nat) (hlo:BZ R=true) (hn:R.length<=1000000) (hr:∀ r∈R,r.length<=1000000) (hF:∀ v∈F,v<R.length) (hFl:F.length<=1000000) (seen:List Int) (rd:Int) (hs:seen.length=R.length) (hb:∀ x∈seen,x<=rd) (h0:0<=rd) (h1:rd<=1000000000):
  FC Tryz.prog 80 [.a (.c (.p 0 0)),.a (.c (.t 1 (Ac (F.map Int.ofNat)))),.b t] [Wy R 1 rd,.r ⟨3,1,true,A9 seen⟩] (fun r o=>∃ seen':List Int,seen'.length=R.length/\(∀ x∈seen',x<=rd+1)/\∃ p:Nat->Bool,(∀ u,u<R.length->(p u=true↔∃ v∈F,Rc (Wi t R) v u))/\o=[Wy R 1 (rd+1),.r ⟨3,1,true,A9 seen'⟩,.r ⟨3,1,true,A9 ((DV R.length p).map Int.ofNat)⟩]/\r=.a (.c (.s 2 (DV R.length p).length))):=by
 refine A7 Tryz.func80 rfl (by rw [Tryz.ntmps80];simp) ?_
 rw [Tryz.ntmps80]
 simp only [B4,Wy]
 have hbd:=(gE4 hlo).2.2.2
 have hFl2:(F.map Int.ofNat).length=F.length:=by simp
 (refine Cu (an @A2 @hFl2) ?_;(repeat clear hK K);repeat refine kq fun K hK=>?_)
 refine As (BJ 7 3 1 ?_) ?_
 ·simp only [go_sem]
 refine Ab (fun x:Nat × List Int × List Nat=>{ tm:=[(0,.a (.c (.p 0 0))),(2,.b t),(7,.a (.c (.s 2 x.2.2.length))),(20,.a (.c (.t 1 (Ac (F.map Int.ofNat))))),(21,.i F.length),(22,.i x.1)],hp:=[.r ⟨124,3,false,[.t 1 (AK R),.s 1 R.length,.v (.int .i64 (rd+1))]⟩,.r ⟨3,1,true,A9 x.2.1⟩,.r ⟨3,1,true,A9 (x.2.2.map Int.ofNat)⟩],n:=114,pin:=2 }) (fun x=>x.1<=F.length/\Fw (Wi t R) R.length F (rd+1) x.2.1 x.2.2/\∀ v∈F.take x.1,v∈x.2.2) (fun x=>F.length - x.1) (0,seen,[]) ?_ ?_ ?_
 ·exact ⟨by simp,Fw.start hs (fun x hx=>by have:=hb x hx;omega),by simp⟩
 ·exact W5
 rintro ⟨k,sn,out⟩ ⟨hk,hW,hT⟩ K hK
 simp only at hk hW hT
 have hsl:=hW.len
 have hol:=hW.le
 by_cases hlt:k<F.length
 ·have d1:decide ((k:Int)<(F.length:Int))=true:=by simpa using hlt
  have gF:(Ac (F.map Int.ofNat))[k]?=some (.v (.int .i64 (F[k]:Int))):=Al (by rw [List.getElem?_map,gE1 hlt];rfl)
  have hul:=hF _ (gE6 hlt)
  have hFk:=gE6 hlt
  have hTk:F.take (k+1)=F.take k++[F[k]]:=gE8 hlt
  generalize F[k]=u at *
  have gs:(A9 sn)[u]?=some (.v (.int .i64 sn[u])):=At (gE1 (by omega))
  have gd:sn.getD u 0=sn[u]:=by rw [gE2,gE1 (by omega)];rfl
  (refine VW @d1 ?_;(repeat clear hK K);repeat refine kq fun K hK=>?_)
  refine W2 ?_
  by_cases hq:sn[u]=rd+1
  ·have d2:(sn[u] != rd+1)=false:=by rw [hq];simp
   have hmem:=hW.mem hul (by rw [gd,hq])
   (refine VW (an @gF (an @A2 @hFl2)) ?_;(repeat clear hK K);repeat refine kq fun K hK=>?_)
   (refine Af 11 [(0,0),(1,0),(2,0),(3,1),(4,0),(5,0),(6,1),(7,0),(8,0),(9,0),(10,1),(11,2)] (by kernel_rfl) (by kernel_rfl) (by intro c st h;simp [Ad,Ay,Vl] at h) ?_)
   (refine VS (an @gs (an @A4 (an @hsl @d2))) ?_;repeat clear hK K)
   refine W3 ?_
   (refine VV ?_;(repeat clear hK K);repeat refine kq fun K hK=>?_)
   refine W4 ?_
   refine hK _ (k+1,sn,out) ⟨by simp only;omega,hW,fun v hv=>?_⟩ (by simp only;omega) ?_
   rotate_left
   ·exact W5
   simp only at hv
   rw [hTk] at hv
   rcases List.mem_append.1 hv with h | h
   ·exact hT v h
   simp at h;subst h;exact hmem
  have d2:(sn[u] != rd+1)=true:=by simpa using hq
  have hW2:=hW.push hul (by rw [gd];exact hq) ⟨u,hFk,.refl _⟩
  have op1:=Eh out u []
  simp only [List.append_nil] at op1
  (refine VW (an @gF (an @A2 @hFl2)) ?_;(repeat clear hK K);repeat refine kq fun K hK=>?_)
  (refine Af 11 [(0,0),(1,0),(2,0),(3,1),(4,0),(5,0),(6,1),(7,0),(8,0),(9,0),(10,1),(11,2)] (by kernel_rfl) (by kernel_rfl) (by intro c st h;simp [Ad,Ay,Vl] at h) ?_)
  (refine VS (an @gs (an @A4 (an @hsl @d2))) ?_;repeat clear hK K)
  refine W2 ?_
  (refine VV ?_;(repeat clear hK K);repeat refine kq fun K hK=>?_)
  (refine Af 10 [(0,0),(1,0),(2,0),(3,1),(4,0),(5,0),(6,0),(7,0),(8,1),(9,0),(10,2)] (by kernel_rfl) (by kernel_rfl) (by intro c st h;simp [Ad,Ay,Vl] at h) ?_)
  (refine SS (an @A4 (an @hsl @Bj)) ?_;repeat clear hK K)
  (refine VW (an @A4 (an @List.length_map.{0,0} (an @op1 @Nat.le_refl))) ?_;(repeat clear hK K);repeat refine kq fun K hK=>?_)
  refine W4 ?_
  refine hK _ (k+1,sn.set u (rd+1),out++[u]) ⟨by simp only;omega,hW2,fun v hv=>?_⟩ (by simp only;omega) ?_
  ·simp only at hv
   rw [hTk] at hv
   rcases List.mem_append.1 hv with h | h
   ·exact List.mem_append_left _ (hT v h)
   simp at h;subst h;simp
  refine Le.trans (A8 [0,1,4] rfl rfl) ?_
  (try simp only [List.set_nil,List.take_nil,List.take_zero,List.map_append,go_sem])
  (try simp only [A5])
  simp only [List.length_append,List.length_cons,List.length_nil]
  exact W5
 have d1:decide ((k:Int)<(F.length:Int))=false:=by simpa using hlt
 have hT2:∀ v∈F,v∈out:=fun v hv=>hT v (by rw [gE7 (by omega)];exact hv)
 clear hT
 (refine VW @d1 ?_;(repeat clear hK K);repeat refine kq fun K hK=>?_)
 refine W3 ?_
 (refine VZ ?_;repeat clear hK K)
 (refine VV ?_;(repeat clear hK K);repeat refine kq fun K hK=>?_)
 refine Ab (fun x:Nat × List Int × List Nat=>{ tm:=[(0,.a (.c (.p 0 0))),(2,.b t),(7,.a (.c (.s 2 x.2.2.length))),(10,.i x.1)],hp:=[.r ⟨124,3,false,[.t 1 (AK R),.s 1 R.length,.v (.int .i64 (rd+1))]⟩,.r ⟨3,1,true,A9 x.2.1⟩,.r ⟨3,1,true,A9 (x.2.2.map Int.ofNat)⟩],n:=114,pin:=2 }) (fun x=>x.1<=x.2.2.length/\Fw (Wi t R) R.length F (rd+1) x.2.1 x.2.2/\(∀ v∈F,v∈x.2.2)/\∀ (j u:Nat),j<x.1->x.2.2[j]?=some u->∀ w∈Wi t R u,w∈x.2.2) (fun x=>R.length - x.1) (0,sn,out) ?_ ?_ ?_
 ·exact ⟨by simp,hW,hT2,by simp⟩
 ·exact W5
 clear hW hT2 hsl hol hk hlt d1
 clear out sn
 rintro ⟨i,sn,out⟩ ⟨hi,hW,hT,hC⟩ K hK
 simp only at hi hW hT hC
 have hsl:=hW.len
 have hol:=hW.le
 by_cases hlt:i<out.length
 rotate_left
 ·have d1:decide ((i:Int)<(out.length:Int))=false:=by simpa using hlt
  obtain ⟨p,hp⟩:∃ p:Nat->Bool,p=fun u=>decide (u∈out):=⟨_,rfl⟩
  have hdone:=hW.done hT (fun u hu w hw=>by
   obtain ⟨j,hj⟩:=List.getElem?_of_mem hu
   exact hC j u (by have:=(List.getElem?_eq_some_iff.1 hj).1;omega) hj w hw)
  have hlm:(out.map Int.ofNat).length=out.length:=by simp
  (refine VW (an @d1 (an @A4 @List.length_map.{0,0})) ?_;(repeat clear hK K);repeat refine kq fun K hK=>?_)
  refine W3 ?_
  (refine VZ ?_;repeat clear hK K)
  rw [<- hlm]
  (refine VV ?_;(repeat clear hK K);repeat refine kq fun K hK=>?_)
  (refine Aj rfl ?_;intro K1 hK1;refine Ax (ids:=[]) [2] (He (out.map Int.ofNat) (by rw [hlm];omega)) rfl rfl (by simp only [go_sem]) (by first | assumption | kernel_rfl) rfl rfl (by (simp only [List.map_append,List.append_nil,go_sem]) <;> rfl) (by (simp only [Vk,A5,go_sem]) <;> rfl) ?_ ?_)
  ·rintro _ _ ⟨rfl,L',_,_,rfl⟩;rfl
  rintro _ _ ⟨rfl,L',hperm,hsort,rfl⟩
  (simp only [Ap,AC,AL,List.append_nil,List.nil_append,List.length_map,go_sem];refine hK1 _ ?_;clear hK1 K1)
  have hLo:L'=(DV R.length p).map Int.ofNat:=by
   obtain ⟨m,hm⟩:∃ m:List Nat,L'=m.map Int.ofNat:=by
    refine ⟨L'.map Int.toNat,?_⟩
    rw [List.map_map]
    refine (List.map_id L').symm.trans (List.map_congr_left fun x hx=>?_)
    have h:=(hperm.mem_iff).1 hx
    obtain ⟨y,_,rfl⟩:=List.mem_map.1 h
    rfl
   subst hm
   have hp2:m.Perm out:=by
    have:=hperm.map Int.toNat
    simpa [List.map_map,Function.comp_def] using this
   have hs2:m.Pairwise (·<=·):=by
    rw [List.pairwise_map] at hsort
    exact hsort.imp fun h=>by simpa using h
   rw [Kp (p:=p) hp2 hs2 hW.nd (fun u=>⟨fun h=>⟨hW.lt u h,by rw [hp];simpa using h⟩,fun h=>by have:=h.2;rw [hp] at this;simpa using this⟩)]
  have hll:out.length=(DV R.length p).length:=by have h:=hperm.length_eq;rw [hLo] at h;simpa using h.symm
  rw [hll,hLo]
  (refine VV ?_;(repeat clear hK K);repeat refine kq fun K hK=>?_)
  ((try refine Ak ?_);(try simp only [Ad,Ay]);refine AB (A8 [0,1,2] rfl rfl) ?_;(try simp only [List.set_nil,List.take_nil,List.take_zero,List.map_append,go_sem]);((try refine Ak ?_);(try refine Aa ?_);(try simp only [Ad,Ay]);refine AN (by first | exact .inl rfl | exact .inr rfl) rfl ?_;simp only [Vm,Cq,Ck,Cx,Tryz.results80,go_sem,true_and,and_true,A5,Wy]))
  exact ⟨sn,hsl,hW.bd,p,fun u hu=>by rw [<- hdone u,hp];simp,rfl,rfl⟩
 have d1:decide ((i:Int)<(out.length:Int))=true:=by simpa using hlt
 have go:(A9 (out.map Int.ofNat))[i]?=some (.v (.int .i64 (out[i]:Int))):=At (by rw [List.getElem?_map,gE1 hlt];rfl)
 have hul:=hW.lt _ (gE6 hlt)
 have hsu:=hW.snd _ (gE6 hlt)
 have hoi:out[i]?=some out[i]:=gE1 hlt
 generalize out[i]=u at *
 have hgR:=gE1 hul
 have hrl:=hr _ (gE6 hul)
 have hbr:=hbd _ (gE6 hul)
 have hAu:Wi t R u=(BP t R[u]).map fun a=>a.2.toNat:=by
  unfold Wi;rw [gE2,hgR];rfl
 generalize hrr:R[u]=row at *
 have hKo:=hK
 (refine VW (an @d1 (an @A4 @List.length_map.{0,0})) ?_;(repeat clear hK K);repeat refine kq fun K hK=>?_)
 refine W2 ?_
 (refine VV ?_;(repeat clear hK K);repeat refine kq fun K hK=>?_)
 (refine Af 11 [(0,0),(1,0),(2,0),(3,0),(4,1),(5,0),(6,0),(7,0),(8,1),(9,0),(10,1),(12,0),(11,2)] (by kernel_rfl) (by kernel_rfl) (by intro c st h;simp [Ad,Ay,Vl] at h) ?_)
 (refine VS (an @A6 (an (Ao hgR) (an @A4 (an @List.length_map.{0,0} (an @go (an @A3 @Aq)))))) ?_;repeat clear hK K)
 (refine VV ?_;(repeat clear hK K);repeat refine kq fun K hK=>?_)
 refine Ab (fun x:Nat × List Int × List Nat=>{ tm:=[(0,.a (.c (.p 0 0))),(2,.b t),(7,.a (.c (.s 2 x.2.2.length))),(10,.i i),(69,.a (.c (.t 2 (Aw row)))),(70,.i row.length),(71,.i x.1)],hp:=[.r ⟨124,3,false,[.t 1 (AK R),.s 1 R.length,.v (.int .i64 (rd+1))]⟩,.r ⟨3,1,true,A9 x.2.1⟩,.r ⟨3,1,true,A9 (x.2.2.map Int.ofNat)⟩],n:=114,pin:=2 }) (fun x=>x.1<=row.length/\Fw (Wi t R) R.length F (rd+1) x.2.1 x.2.2/\(∃ l,x.2.2=out++l)/\(t=true->∀ j a,j<x.1->row[j]?=some a->a.1=0)/\∀ a∈row.take x.1,a.2.toNat∈x.2.2) (fun x=>row.length - x.1) (0,sn,out) ?_ ?_ ?_
 ·exact ⟨by simp,hW,⟨[],by simp⟩,by simp,by simp⟩
 ·exact W5
 have fin:∀ (sn1:List Int) (out1:List Nat),Fw (Wi t R) R.length F (rd+1) sn1 out1->(∃ l,out1=out++l)->(∀ a∈BP t row,a.2.toNat∈out1)->(i+1<=out1.length/\Fw (Wi t R) R.length F (rd+1) sn1 out1/\(∀ v∈F,v∈out1)/\∀ (j u:Nat),j<i+1->out1[j]?=some u->∀ w∈Wi t R u,w∈out1):=by
  rintro sn1 out1 q1 ⟨l,rfl⟩ q3
  refine ⟨by simp;omega,q1,fun v hv=>List.mem_append_left _ (hT v hv),fun j x hj hx w hw=>?_⟩
  rw [gEa (by omega)] at hx
  by_cases e:j=i
  rotate_left
  ·exact List.mem_append_left _ (hC j x (by omega) hx w hw)
  subst e
  rw [hoi] at hx;cases hx
  rw [hAu] at hw
  obtain ⟨a,ha,rfl⟩:=List.mem_map.1 hw
  exact q3 a ha
 rintro ⟨k,sn1,out1⟩ ⟨hk,hW1,hl1,hz,hT1⟩ K hK
 simp only at hk hW1 hl1 hz hT1
 have hsl1:=hW1.len
 have hol1:=hW1.le
 by_cases hlt2:k<row.length
 rotate_left
 ·have d2:decide ((k:Int)<(row.length:Int))=false:=by simpa using hlt2
  (refine VW @d2 ?_;(repeat clear hK K);repeat refine kq fun K hK=>?_)
  refine W3 ?_
  (refine VZ ?_;repeat clear hK K)
  (refine VV ?_;(repeat clear hK K);repeat refine kq fun K hK=>?_)
  refine W4 ?_
  refine hKo _ (i+1,sn1,out1) (fin sn1 out1 hW1 hl1 (fun a ha=>?_)) (by simp only;omega) ?_
  rotate_left
  ·exact W5
  refine hT1 a ?_
  rw [gE7 (by omega)]
  unfold BP at ha
  split at ha
  ·exact (List.takeWhile_sublist _).subset ha
  exact ha
 have d2:decide ((k:Int)<(row.length:Int))=true:=by simpa using hlt2
 have hat:=AS hlt2
 have hb2:=hbr _ (gE6 hlt2)
 have hrk:row[k]?=some row[k]:=gE1 hlt2
 have hTk:row.take (k+1)=row.take k++[row[k]]:=gE8 hlt2
 generalize row[k]=a at *
 obtain ⟨e,tn,rfl⟩:∃ (e:Int) (tn:Nat),a=(e,(tn:Int)):=⟨a.1,a.2.toNat,by
  have:(a.2.toNat:Int)=a.2:=by omega
  rw [this]⟩
 simp only at hb2
 have htn:tn<R.length:=by omega
 by_cases hst:t=true/\e ≠ 0
 ·obtain ⟨ht,he⟩:=hst
  subst ht
  have d3:(e != 0)=true:=by simpa using he
  (refine VW @d2 ?_;(repeat clear hK K);repeat refine kq fun K hK=>?_)
  refine W2 ?_
  (refine Cu (an @hat (an @A3 (an @Aq @d3))) ?_;(repeat clear hK K);repeat refine kq fun K hK=>?_)
  refine W2 ?_
  (refine VZ ?_;repeat clear hK K)
  (refine VV ?_;(repeat clear hK K);repeat refine kq fun K hK=>?_)
  refine W4 ?_
  refine hKo _ (i+1,sn1,out1) (fin sn1 out1 hW1 hl1 (fun a ha=>?_)) (by simp only;omega) ?_
  ·rw [LC (hz rfl) (fun b hb=>by rw [hrk] at hb;cases hb;exact he)] at ha
   exact hT1 a ha
  refine Le.trans (A8 [0,1,2] rfl rfl) ?_
  (try simp only [List.set_nil,List.take_nil,List.take_zero,List.map_append,go_sem])
  (try simp only [A5])
  exact W5
 have hz2:t=true->∀ j a,j<k+1->row[j]?=some a->a.1=0:=fun ht j a hj ha=>by
  by_cases e2:j=k
  rotate_left
  ·exact hz ht j a (by omega) ha
  subst e2
  rw [hrk] at ha;cases ha
  exact Decidable.byContradiction fun h=>hst ⟨ht,h⟩
 have gs:(A9 sn1)[tn]?=some (.v (.int .i64 sn1[tn])):=At (gE1 (by omega))
 have gd:sn1.getD tn 0=sn1[tn]:=by rw [gE2,gE1 (by omega)];rfl
 cases t with
 | false=>
  (refine VW @d2 ?_;(repeat clear hK K);repeat refine kq fun K hK=>?_)
  refine W2 ?_
  (refine Cu (an @hat (an @A3 @Aq)) ?_;(repeat clear hK K);repeat refine kq fun K hK=>?_)
  refine W3 ?_
  by_cases hq:sn1[tn]=rd+1
  ·have d4:(sn1[tn] != rd+1)=false:=by rw [hq];simp
   have hmem:=hW1.mem htn (by rw [gd,hq])
   (refine VV ?_;(repeat clear hK K);repeat refine kq fun K hK=>?_)
   (refine Af 12 [(0,0),(1,0),(2,0),(3,1),(4,0),(5,1),(6,0),(7,1),(8,0),(9,0),(10,0),(11,1),(12,2)] (by kernel_rfl) (by kernel_rfl) (by intro c st h;simp [Ad,Ay,Vl] at h) ?_)
   (refine VS (an @gs (an @A4 (an @hsl1 @d4))) ?_;repeat clear hK K)
   refine W3 ?_
   (refine VV ?_;(repeat clear hK K);repeat refine kq fun K hK=>?_)
   refine W4 ?_
   refine hK _ (k+1,sn1,out1) ⟨by simp only;omega,hW1,hl1,hz2,fun a ha=>?_⟩ (by simp only;omega) ?_
   ·simp only at ha
    rw [hTk] at ha
    rcases List.mem_append.1 ha with h | h
    ·exact hT1 a h
    simp at h;subst h;simpa using hmem
   refine Le.trans (A8 [0,1,2] rfl rfl) ?_
   (try simp only [List.set_nil,List.take_nil,List.take_zero,List.map_append,go_sem])
   (try simp only [A5])
   exact W5
  have d4:(sn1[tn] != rd+1)=true:=by simpa using hq
  obtain ⟨v,hv,hvu⟩:=hsu
  have hW2:=hW1.push htn (by rw [gd];exact hq) ⟨v,hv,hvu.tail (by rw [hAu];exact List.mem_map.2 ⟨(e,(tn:Int)),Kr hz2 hrk,by simp⟩)⟩
  have op1:=Eh out1 tn []
  simp only [List.append_nil] at op1
  (refine VV ?_;(repeat clear hK K);repeat refine kq fun K hK=>?_)
  (refine Af 12 [(0,0),(1,0),(2,0),(3,1),(4,0),(5,1),(6,0),(7,1),(8,0),(9,0),(10,0),(11,1),(12,2)] (by kernel_rfl) (by kernel_rfl) (by intro c st h;simp [Ad,Ay,Vl] at h) ?_)
  (refine VS (an @gs (an @A4 (an @hsl1 @d4))) ?_;repeat clear hK K)
  refine W2 ?_
  (refine VV ?_;(repeat clear hK K);repeat refine kq fun K hK=>?_)
  (refine Af 11 [(0,0),(1,0),(2,0),(3,1),(4,0),(5,1),(6,0),(7,0),(8,0),(9,1),(10,0),(11,2)] (by kernel_rfl) (by kernel_rfl) (by intro c st h;simp [Ad,Ay,Vl] at h) ?_)
  (refine SS (an @A4 (an @hsl1 @Bj)) ?_;repeat clear hK K)
  (refine VW (an @A4 (an @List.length_map.{0,0} (an @op1 @Nat.le_refl))) ?_;(repeat clear hK K);repeat refine kq fun K hK=>?_)
  refine W4 ?_
  obtain ⟨l,hl⟩:=hl1
  refine hK _ (k+1,sn1.set tn (rd+1),out1++[tn]) ⟨by simp only;omega,hW2,⟨l++[tn],by simp only;rw [hl,List.append_assoc]⟩,hz2,fun a ha=>?_⟩ (by simp only;omega) ?_
  ·simp only at ha
   rw [hTk] at ha
   rcases List.mem_append.1 ha with h | h
   ·exact List.mem_append_left _ (hT1 a h)
   simp at h;subst h;simp
  refine Le.trans (A8 [0,1,5] rfl rfl) ?_
  (try simp only [List.set_nil,List.take_nil,List.take_zero,List.map_append,go_sem])
  (try simp only [A5])
  simp only [List.length_append,List.length_cons,List.length_nil]
  exact W5
 | true=>
  have d3:(e != 0)=false:=by
   have:e=0:=Decidable.byContradiction fun h=>hst ⟨rfl,h⟩
   simp [this]
  (refine VW @d2 ?_;(repeat clear hK K);repeat refine kq fun K hK=>?_)
  refine W2 ?_
  (refine Cu (an @hat (an @A3 (an @Aq @d3))) ?_;(repeat clear hK K);repeat refine kq fun K hK=>?_)
  refine W3 ?_
  by_cases hq:sn1[tn]=rd+1
  ·have d4:(sn1[tn] != rd+1)=false:=by rw [hq];simp
   have hmem:=hW1.mem htn (by rw [gd,hq])
   (refine VV ?_;(repeat clear hK K);repeat refine kq fun K hK=>?_)
   (refine Af 12 [(0,0),(1,0),(2,0),(3,1),(4,0),(5,1),(6,0),(7,1),(8,0),(9,0),(10,0),(11,1),(12,2)] (by kernel_rfl) (by kernel_rfl) (by intro c st h;simp [Ad,Ay,Vl] at h) ?_)
   (refine VS (an @gs (an @A4 (an @hsl1 @d4))) ?_;repeat clear hK K)
   refine W3 ?_
   (refine VV ?_;(repeat clear hK K);repeat refine kq fun K hK=>?_)
   refine W4 ?_
   refine hK _ (k+1,sn1,out1) ⟨by simp only;omega,hW1,hl1,hz2,fun a ha=>?_⟩ (by simp only;omega) ?_
   ·simp only at ha
    rw [hTk] at ha
    rcases List.mem_append.1 ha with h | h
    ·exact hT1 a h
    simp at h;subst h;simpa using hmem
   refine Le.trans (A8 [0,1,2] rfl rfl) ?_
   (try simp only [List.set_nil,List.take_nil,List.take_zero,List.map_append,go_sem])
   (try simp only [A5])
   exact W5
  have d4:(sn1[tn] != rd+1)=true:=by simpa using hq
  obtain ⟨v,hv,hvu⟩:=hsu
  have hW2:=hW1.push htn (by rw [gd];exact hq) ⟨v,hv,hvu.tail (by rw [hAu];exact List.mem_map.2 ⟨(e,(tn:Int)),Kr hz2 hrk,by simp⟩)⟩
  have op1:=Eh out1 tn []
  simp only [List.append_nil] at op1
  (refine VV ?_;(repeat clear hK K);repeat refine kq fun K hK=>?_)
  (refine Af 12 [(0,0),(1,0),(2,0),(3,1),(4,0),(5,1),(6,0),(7,1),(8,0),(9,0),(10,0),(11,1),(12,2)] (by kernel_rfl) (by kernel_rfl) (by intro c st h;simp [Ad,Ay,Vl] at h) ?_)
  (refine VS (an @gs (an @A4 (an @hsl1 @d4))) ?_;repeat clear hK K)
  refine W2 ?_
  (refine VV ?_;(repeat clear hK K);repeat refine kq fun K hK=>?_)
  (refine Af 11 [(0,0),(1,0),(2,0),(3,1),(4,0),(5,1),(6,0),(7,0),(8,0),(9,1),(10,0),(11,2)] (by kernel_rfl) (by kernel_rfl) (by intro c st h;simp [Ad,Ay,Vl] at h) ?_)
  (refine SS (an @A4 (an @hsl1 @Bj)) ?_;repeat clear hK K)
  (refine VW (an @A4 (an @List.length_map.{0,0} (an @op1 @Nat.le_refl))) ?_;(repeat clear hK K);repeat refine kq fun K hK=>?_)
  refine W4 ?_
  obtain ⟨l,hl⟩:=hl1
  refine hK _ (k+1,sn1.set tn (rd+1),out1++[tn]) ⟨by simp only;omega,hW2,⟨l++[tn],by simp only;rw [hl,List.append_assoc]⟩,hz2,fun a ha=>?_⟩ (by simp only;omega) ?_
  ·simp only at ha
   rw [hTk] at ha
   rcases List.mem_append.1 ha with h | h
   ·exact List.mem_append_left _ (hT1 a h)
   simp at h;subst h;simp
  refine Le.trans (A8 [0,1,5] rfl rfl) ?_
  (try simp only [List.set_nil,List.take_nil,List.take_zero,List.map_append,go_sem])
  (try simp only [A5])
  simp only [List.length_append,List.length_cons,List.length_nil]
  exact W5
def WA (r:List Ar) (e:Int):List Nat:=(r.filter fun a=>a.1 == e).map fun a=>a.2.toNat
def tg (R:List (List Ar)) (F:List Nat) (e:Int):List Nat:=F.flatMap fun s=>WA (R.getD s []) e
theorem DF {r:List Ar} {e:Int} {u:Nat}:u∈WA r e↔∃ a∈r,a.1=e/\a.2.toNat=u:=by
 unfold WA
 rw [List.mem_map]
 constructor
 rotate_left
 ·rintro ⟨a,ha,he,rfl⟩
  exact ⟨a,List.mem_filter.2 ⟨ha,by simpa using he⟩,rfl⟩
 rintro ⟨a,ha,rfl⟩
 have:=List.mem_filter.1 ha
 exact ⟨a,this.1,by simpa using this.2,rfl⟩
theorem EB {R:List (List Ar)} {F:List Nat} {e:Int} {u:Nat}:u∈tg R F e↔∃ s∈F,u∈WA (R.getD s []) e:=by unfold tg;rw [List.mem_flatMap]
def WB (_:Nat):List Nat:=[]
theorem Uo {u v:Nat} (h:Rc WB u v):v=u:=by
 cases h with
 | refl=>rfl
 | tail _ he=>simp [WB] at he
set_option maxHeartbeats 8000000 in
theorem J9 (R:List (List Ar)) (F:List Nat) (e:Int) (hlo:BZ R=true) (hn:R.length<=1000000) (hr:∀ r∈R,r.length<=1000000) (hF:∀ v∈F,v<R.length) (hFl:F.length<=1000000) (seen:List Int) (rd:Int) (hs:seen.length=R.length) (hb:∀ x∈seen,x<=rd) (h0:0<=rd) (h1:rd<=1000000000):
  FC Tryz.prog 137 [.a (.c (.p 0 0)),.a (.c (.t 1 (Ac (F.map Int.ofNat)))),.i e] [Wy R 1 rd,.r ⟨3,1,true,A9 seen⟩] (fun r o=>∃ seen':List Int,seen'.length=R.length/\(∀ x∈seen',x<=rd+1)/\∃ p:Nat->Bool,(∀ u,u<R.length->(p u=true↔u∈tg R F e))/\o=[Wy R 1 (rd+1),.r ⟨3,1,true,A9 seen'⟩,.r ⟨3,1,true,A9 ((DV R.length p).map Int.ofNat)⟩]/\r=.a (.c (.s 2 (DV R.length p).length))):=by
 refine A7 Tryz.func137 rfl (by rw [Tryz.ntmps137];simp) ?_
 rw [Tryz.ntmps137]
 simp only [B4,Wy]
 have hbd:=(gE4 hlo).2.2.2
 have hFl2:(F.map Int.ofNat).length=F.length:=by simp
 (refine Cu (an @A2 @hFl2) ?_;(repeat clear hK K);repeat refine kq fun K hK=>?_)
 refine As (BJ 7 3 1 ?_) ?_
 ·simp only [go_sem]
 refine Ab (fun x:Nat × List Int × List Nat=>{ tm:=[(0,.a (.c (.p 0 0))),(2,.i e),(7,.a (.c (.s 2 x.2.2.length))),(19,.a (.c (.t 1 (Ac (F.map Int.ofNat))))),(20,.i F.length),(21,.i x.1)],hp:=[.r ⟨124,3,false,[.t 1 (AK R),.s 1 R.length,.v (.int .i64 (rd+1))]⟩,.r ⟨3,1,true,A9 x.2.1⟩,.r ⟨3,1,true,A9 (x.2.2.map Int.ofNat)⟩],n:=78,pin:=2 }) (fun x=>x.1<=F.length/\Fw WB R.length (tg R F e) (rd+1) x.2.1 x.2.2/\∀ v∈tg R (F.take x.1) e,v∈x.2.2) (fun x=>F.length - x.1) (0,seen,[]) ?_ ?_ ?_
 ·exact ⟨by simp,Fw.start hs (fun x hx=>by have:=hb x hx;omega),by simp [tg]⟩
 ·exact W5
 rintro ⟨k,sn,out⟩ ⟨hk,hW,hT⟩ K hK
 simp only at hk hW hT
 have hsl:=hW.len
 have hol:=hW.le
 by_cases hlt:k<F.length
 rotate_left
 ·have d1:decide ((k:Int)<(F.length:Int))=false:=by simpa using hlt
  obtain ⟨p,hp⟩:∃ p:Nat->Bool,p=fun u=>decide (u∈out):=⟨_,rfl⟩
  have hdone:∀ u,u∈out↔u∈tg R F e:=fun u=>⟨fun h=>by
   obtain ⟨v,hv,hr⟩:=hW.snd u h
   rw [Uo hr];exact hv,fun h=>hT u (by rw [gE7 (by omega)];exact h)⟩
  have hlm:(out.map Int.ofNat).length=out.length:=by simp
  (refine VW @d1 ?_;(repeat clear hK K);repeat refine kq fun K hK=>?_)
  refine W3 ?_
  (refine VZ ?_;repeat clear hK K)
  rw [<- hlm]
  (refine VV ?_;(repeat clear hK K);repeat refine kq fun K hK=>?_)
  (refine Aj rfl ?_;intro K1 hK1;refine Ax (ids:=[]) [2] (He (out.map Int.ofNat) (by rw [hlm];omega)) rfl rfl (by simp only [go_sem]) (by first | assumption | kernel_rfl) rfl rfl (by (simp only [List.map_append,List.append_nil,go_sem]) <;> rfl) (by (simp only [Vk,A5,go_sem]) <;> rfl) ?_ ?_)
  ·rintro _ _ ⟨rfl,L',_,_,rfl⟩;rfl
  rintro _ _ ⟨rfl,L',hperm,hsort,rfl⟩
  (simp only [Ap,AC,AL,List.append_nil,List.nil_append,List.length_map,go_sem];refine hK1 _ ?_;clear hK1 K1)
  have hLo:L'=(DV R.length p).map Int.ofNat:=by
   obtain ⟨m,hm⟩:∃ m:List Nat,L'=m.map Int.ofNat:=by
    refine ⟨L'.map Int.toNat,?_⟩
    rw [List.map_map]
    refine (List.map_id L').symm.trans (List.map_congr_left fun x hx=>?_)
    have h:=(hperm.mem_iff).1 hx
    obtain ⟨y,_,rfl⟩:=List.mem_map.1 h
    rfl
   subst hm
   have hp2:m.Perm out:=by
    have:=hperm.map Int.toNat
    simpa [List.map_map,Function.comp_def] using this
   have hs2:m.Pairwise (·<=·):=by
    rw [List.pairwise_map] at hsort
    exact hsort.imp fun h=>by simpa using h
   rw [Kp (p:=p) hp2 hs2 hW.nd (fun u=>⟨fun h=>⟨hW.lt u h,by rw [hp];simpa using h⟩,fun h=>by have:=h.2;rw [hp] at this;simpa using this⟩)]
  have hll:out.length=(DV R.length p).length:=by have h:=hperm.length_eq;rw [hLo] at h;simpa using h.symm
  rw [hll,hLo]
  (refine VV ?_;(repeat clear hK K);repeat refine kq fun K hK=>?_)
  ((try refine Ak ?_);(try simp only [Ad,Ay]);refine AB (A8 [0,1,2] rfl rfl) ?_;(try simp only [List.set_nil,List.take_nil,List.take_zero,List.map_append,go_sem]);((try refine Ak ?_);(try refine Aa ?_);(try simp only [Ad,Ay]);refine AN (by first | exact .inl rfl | exact .inr rfl) rfl ?_;simp only [Vm,Cq,Ck,Cx,Tryz.results137,go_sem,true_and,and_true,A5,Wy]))
  exact ⟨sn,hsl,hW.bd,p,fun u hu=>by rw [<- hdone u,hp];simp,rfl,rfl⟩
 have d1:decide ((k:Int)<(F.length:Int))=true:=by simpa using hlt
 have gF:(Ac (F.map Int.ofNat))[k]?=some (.v (.int .i64 (F[k]:Int))):=Al (by rw [List.getElem?_map,gE1 hlt];rfl)
 have hul:=hF _ (gE6 hlt)
 have hFk:=gE6 hlt
 have hTk:F.take (k+1)=F.take k++[F[k]]:=gE8 hlt
 generalize F[k]=u at *
 have hgR:=gE1 hul
 have hrl:=hr _ (gE6 hul)
 have hbr:=hbd _ (gE6 hul)
 have hRu:R.getD u []=R[u]:=by rw [gE2,hgR];rfl
 generalize hrr:R[u]=row at *
 have hKo:=hK
 (refine VW @d1 ?_;(repeat clear hK K);repeat refine kq fun K hK=>?_)
 refine W2 ?_
 (refine VW (an @gF (an @A2 (an @hFl2 (an @A6 (an (Ao hgR) (an @A3 @Aq)))))) ?_;(repeat clear hK K);repeat refine kq fun K hK=>?_)
 refine Ab (fun x:Nat × List Int × List Nat=>{ tm:=[(0,.a (.c (.p 0 0))),(2,.i e),(7,.a (.c (.s 2 x.2.2.length))),(19,.a (.c (.t 1 (Ac (F.map Int.ofNat))))),(20,.i F.length),(21,.i k),(32,.a (.c (.t 2 (Aw row)))),(33,.i row.length),(34,.i x.1)],hp:=[.r ⟨124,3,false,[.t 1 (AK R),.s 1 R.length,.v (.int .i64 (rd+1))]⟩,.r ⟨3,1,true,A9 x.2.1⟩,.r ⟨3,1,true,A9 (x.2.2.map Int.ofNat)⟩],n:=78,pin:=2 }) (fun x=>x.1<=row.length/\Fw WB R.length (tg R F e) (rd+1) x.2.1 x.2.2/\(∀ v∈out,v∈x.2.2)/\∀ a∈row.take x.1,a.1=e->a.2.toNat∈x.2.2) (fun x=>row.length - x.1) (0,sn,out) ?_ ?_ ?_
 ·exact ⟨by simp,hW,fun v h=>h,by simp⟩
 ·exact W5
 rintro ⟨j,sn1,out1⟩ ⟨hj,hW1,hl1,hT1⟩ K hK
 simp only at hj hW1 hl1 hT1
 have hsl1:=hW1.len
 have hol1:=hW1.le
 by_cases hlt2:j<row.length
 rotate_left
 ·have d2:decide ((j:Int)<(row.length:Int))=false:=by simpa using hlt2
  (refine VW @d2 ?_;(repeat clear hK K);repeat refine kq fun K hK=>?_)
  refine W3 ?_
  (refine VZ ?_;repeat clear hK K)
  (refine VV ?_;(repeat clear hK K);repeat refine kq fun K hK=>?_)
  refine W4 ?_
  refine hKo _ (k+1,sn1,out1) ⟨by simp only;omega,hW1,fun v hv=>?_⟩ (by simp only;omega) ?_
  rotate_left
  ·exact W5
  simp only at hv
  rw [EB] at hv
  obtain ⟨s,hs1,hs2⟩:=hv
  rw [hTk] at hs1
  rcases List.mem_append.1 hs1 with h | h
  ·exact hl1 v (hT v (EB.2 ⟨s,h,hs2⟩))
  simp at h;subst h
  rw [hRu] at hs2
  obtain ⟨a,ha,hae,rfl⟩:=DF.1 hs2
  exact hT1 a (by rw [gE7 (by omega)];exact ha) hae
 have d2:decide ((j:Int)<(row.length:Int))=true:=by simpa using hlt2
 have hat:=AS hlt2
 have hb2:=hbr _ (gE6 hlt2)
 have hmem:=gE6 hlt2
 have hTj:row.take (j+1)=row.take j++[row[j]]:=gE8 hlt2
 generalize row[j]=a at *
 obtain ⟨ev,tn,rfl⟩:∃ (ev:Int) (tn:Nat),a=(ev,(tn:Int)):=⟨a.1,a.2.toNat,by
  have:(a.2.toNat:Int)=a.2:=by omega
  rw [this]⟩
 simp only at hb2
 have htn:tn<R.length:=by omega
 have gs:(A9 sn1)[tn]?=some (.v (.int .i64 sn1[tn])):=At (gE1 (by omega))
 have gd:sn1.getD tn 0=sn1[tn]:=by rw [gE2,gE1 (by omega)];rfl
 (refine VW @d2 ?_;(repeat clear hK K);repeat refine kq fun K hK=>?_)
 refine W2 ?_
 (refine Cu (an @hat (an @A3 @Aq)) ?_;(repeat clear hK K);repeat refine kq fun K hK=>?_)
 by_cases he:ev=e
 rotate_left
 ·have d3:(ev == e)=false:=by simpa using he
  (refine Af 18 [(0,0),(1,1),(2,0),(3,0),(4,0),(5,0),(6,0),(7,0),(8,1),(9,0),(10,1),(11,0),(12,1),(13,0),(14,0),(15,0),(16,1),(17,0),(18,2)] (by kernel_rfl) (by kernel_rfl) (by intro c st h;simp [Ad,Ay,Vl] at h) ?_)
  (refine VQ (an @d3 (an @A4 @hsl1)) ?_;repeat clear hK K)
  refine W3 ?_
  (refine VV ?_;(repeat clear hK K);repeat refine kq fun K hK=>?_)
  refine W4 ?_
  refine hK _ (j+1,sn1,out1) ⟨by simp only;omega,hW1,hl1,fun a ha hae=>?_⟩ (by simp only;omega) ?_
  ·simp only at ha
   rw [hTj] at ha
   rcases List.mem_append.1 ha with h | h
   ·exact hT1 a h hae
   simp at h;subst h;exact absurd hae he
  refine Le.trans (A8 [0,1,2] rfl rfl) ?_
  (try simp only [List.set_nil,List.take_nil,List.take_zero,List.map_append,go_sem])
  (try simp only [A5])
  exact W5
 have d3:(ev == e)=true:=by simpa using he
 by_cases hq:sn1[tn]=rd+1
 ·have d4:(sn1[tn] != rd+1)=false:=by rw [hq];simp
  have hin:=hW1.mem htn (by rw [gd,hq])
  (refine Af 18 [(0,0),(1,1),(2,0),(3,0),(4,0),(5,0),(6,0),(7,0),(8,1),(9,0),(10,1),(11,0),(12,1),(13,0),(14,0),(15,0),(16,1),(17,0),(18,2)] (by kernel_rfl) (by kernel_rfl) (by intro c st h;simp [Ad,Ay,Vl] at h) ?_)
  (refine VQ (an @d3 (an @gs (an @A4 (an @hsl1 @d4)))) ?_;repeat clear hK K)
  refine W3 ?_
  (refine VV ?_;(repeat clear hK K);repeat refine kq fun K hK=>?_)
  refine W4 ?_
  refine hK _ (j+1,sn1,out1) ⟨by simp only;omega,hW1,hl1,fun a ha hae=>?_⟩ (by simp only;omega) ?_
  ·simp only at ha
   rw [hTj] at ha
   rcases List.mem_append.1 ha with h | h
   ·exact hT1 a h hae
   simp at h;subst h;simpa using hin
  refine Le.trans (A8 [0,1,2] rfl rfl) ?_
  (try simp only [List.set_nil,List.take_nil,List.take_zero,List.map_append,go_sem])
  (try simp only [A5])
  exact W5
 have d4:(sn1[tn] != rd+1)=true:=by simpa using hq
 have hW2:=hW1.push htn (by rw [gd];exact hq) ⟨tn,EB.2 ⟨u,hFk,by rw [hRu];exact DF.2 ⟨_,hmem,he,by simp⟩⟩,.refl _⟩
 have op1:=Eh out1 tn []
 simp only [List.append_nil] at op1
 (refine Af 18 [(0,0),(1,1),(2,0),(3,0),(4,0),(5,0),(6,0),(7,0),(8,1),(9,0),(10,1),(11,0),(12,1),(13,0),(14,0),(15,0),(16,1),(17,0),(18,2)] (by kernel_rfl) (by kernel_rfl) (by intro c st h;simp [Ad,Ay,Vl] at h) ?_)
 (refine VQ (an @d3 (an @gs (an @A4 (an @hsl1 @d4)))) ?_;repeat clear hK K)
 refine W2 ?_
 (refine VV ?_;(repeat clear hK K);repeat refine kq fun K hK=>?_)
 (refine Af 11 [(0,0),(1,0),(2,0),(3,1),(4,0),(5,1),(6,0),(7,0),(8,0),(9,1),(10,0),(11,2)] (by kernel_rfl) (by kernel_rfl) (by intro c st h;simp [Ad,Ay,Vl] at h) ?_)
 (refine SS (an @A4 (an @hsl1 @Bj)) ?_;repeat clear hK K)
 (refine VW (an @A4 (an @List.length_map.{0,0} (an @op1 @Nat.le_refl))) ?_;(repeat clear hK K);repeat refine kq fun K hK=>?_)
 refine W4 ?_
 refine hK _ (j+1,sn1.set tn (rd+1),out1++[tn]) ⟨by simp only;omega,hW2,fun v hv=>List.mem_append_left _ (hl1 v hv),fun a ha hae=>?_⟩ (by simp only;omega) ?_
 ·simp only at ha
  rw [hTj] at ha
  rcases List.mem_append.1 ha with h | h
  ·exact List.mem_append_left _ (hT1 a h hae)
  simp at h;subst h;simp
 refine Le.trans (A8 [0,1,5] rfl rfl) ?_
 (try simp only [List.set_nil,List.take_nil,List.take_zero,List.map_append,go_sem])
 (try simp only [A5])
 simp only [List.length_append,List.length_cons,List.length_nil]
 exact W5
theorem E7 {l:List Int} {n:Nat} (h:W9 l) (hb:∀ x∈l,0<=x/\x<(n:Int)):l.length<=n:=by
 have h1:(l.map Int.toNat).Nodup:=by
  unfold W9 at h
  rw [List.Nodup,List.pairwise_map]
  refine h.imp_of_mem fun {a b} ha hb2 hab e=>?_
  have:=hb a ha
  have:=hb b hb2
  omega
 have:=Ko n (l.map Int.toNat) h1 fun u hu=>by
  obtain ⟨x,hx,rfl⟩:=List.mem_map.1 hu
  have:=hb x hx
  omega
 simpa using this
end Go.Proofs.YtbnabodoabimnaaGreat
