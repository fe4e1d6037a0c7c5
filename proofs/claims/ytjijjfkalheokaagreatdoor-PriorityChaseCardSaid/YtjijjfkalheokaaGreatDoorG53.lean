/- Lemmas. -/
import Derived.Test.YtjijjfkalheokaaGreatDoorZk
import Derived.Test.YtjijjfkalheokaaGreatDoorG70
import Derived.Test.YtjijjfkalheokaaGreatDoorMK
import Derived.Test.YtjijjfkalheokaaGreatDoorDl1
import Derived.Test.YtjijjfkalheokaaGreatDoorMit
import Derived.Lib.TrailingZeros
namespace Go.Proofs.YtjijjfkalheokaaGreatDoor
set_option linter.unusedVariables false
set_option linter.unusedSimpArgs false
open Go.RowKit
set_option maxRecDepth 100000
attribute [local go_sem] lga C.pl C.one

def Dq (acc:List Int) (a:Ar):List Int:=if acc.getLast?=some a.1 then acc else acc++[a.1]
def E5 (r:List Ar):List Int:=r.foldl Dq []
theorem Ju (acc:List Int) (a:Ar):(Dq acc a).length<=acc.length+1:=by unfold Dq;split <;> simp
theorem NS {r:List Ar} {k:Nat} (h:k<r.length):E5 (r.take (k+1))=Dq (E5 (r.take k)) r[k]:=by
 unfold E5
 rw [gE8 h,List.foldl_append];rfl
theorem KS (r:List Ar):(E5 r).length<=r.length:=by
 have:∀ (r:List Ar) (acc:List Int),(r.foldl Dq acc).length<=acc.length+r.length:=by
  intro r
  induction r with
  | nil=>intro acc;simp
  | cons a r ih=>
   intro acc
   have h1:=ih (Dq acc a)
   have h2:=Ju acc a
   simp only [List.foldl_cons,List.length_cons]
   omega
 simpa [E5] using this r []
set_option maxHeartbeats 1000000 in
theorem Jv (R:List (List Ar)) (s:Nat) (h:s<R.length) (hn:R.length<=1000000) (hr:∀ r∈R,r.length<=1000000):FC Tryz.prog 59 [B7 R,.i s] [] (fun r o=>o=[.r ⟨3,1,true,A7 (E5 R[s])⟩]/\r=.a (.c (.s 0 (E5 R[s]).length))):=by
 refine A6 Tryz.func59 rfl (by rw [Tryz.ntmps59];simp) ?_
 rw [Tryz.ntmps59]
 simp only [Bf,B7]
 have hg:=gE1 h
 have hrl:=hr _ (gE6 h)
 generalize R[s]=row at *
 (refine Wu (an @A3 (an (Ag hg) (an @A2 @Ak))) ?_;(repeat clear hK K);repeat refine kq fun K hK=>?_)
 refine Au (CT 5 3 1 ?_) ?_
 ·simp only [go_sem]
 refine A8 (fun k:Nat=>{ tm:=[(5,.a (.c (.s 1 (E5 (row.take k)).length))),(12,.a (.c (.t 2 (Ao row)))),(13,.i row.length),(14,.i k)],hp:=[.r ⟨25,1,false,[.t 1 (Ah R)]⟩,.r ⟨3,1,true,A7 (E5 (row.take k))⟩],n:=39,pin:=0 }) (fun k=>k<=row.length) (fun k=>row.length - k) 0 ?_ ?_ ?_
 ·omega
 ·simp only [List.take_zero,E5,List.foldl_nil,List.length_nil]
  exact WE
 rintro k hk K hK
 by_cases hlt:k<row.length
 rotate_left
 ·have d1:decide ((k:Int)<(row.length:Int))=false:=by simpa using hlt
  have hke:row.take k=row:=gE7 (by omega)
  rw [hke]
  (refine Wu @d1 ?_;(repeat clear hK K);repeat refine kq fun K hK=>?_)
  refine WC ?_
  (refine Wx ?_;repeat clear hK K)
  (refine Wt ?_;(repeat clear hK K);repeat refine kq fun K hK=>?_)
  exact RG [1] Tryz.results59 @Af
 have d1:decide ((k:Int)<(row.length:Int))=true:=by simpa using hlt
 have hat:=AL hlt
 have hlen:=KS (row.take k)
 have hst:=NS hlt
 have htk:(row.take k).length<=k:=by simp;omega
 generalize E5 (row.take k)=acc at *
 have op:=Ho acc row[k].1
 have fin:∀ b,E5 (row.take (k+1))=b->b=Dq acc row[k]:=fun b h=>by rw [<- h,hst]
 clear hst
 (refine Wu @d1 ?_;(repeat clear hK K);repeat refine kq fun K hK=>?_)
 refine WB ?_
 (refine Cn (an @hat (an @A2 @Ak)) ?_;(repeat clear hK K);repeat refine kq fun K hK=>?_)
 by_cases h0:acc.length=0
 ·have d2:((acc.length:Int) == 0)=true:=by simp [h0]
  have hs:E5 (row.take (k+1))=acc++[row[k].1]:=by
   rw [fin _ rfl]
   have:acc=[]:=List.length_eq_zero_iff.1 h0
   subst this;rfl
  (refine Ac 13 [(0,0),(1,0),(2,0),(3,0),(4,0),(5,0),(6,0),(7,0),(8,0),(9,1),(10,0),(11,1),(12,0),(13,2)] (by kernel_rfl) (by kernel_rfl) (by intro c st h;simp [Ae,AF,VT] at h) ?_)
  (refine Wo (an @d2 @A5) ?_;repeat clear hK K)
  refine WB ?_
  (refine Wu (an @A5 @op) ?_;(repeat clear hK K);repeat refine kq fun K hK=>?_)
  refine WD ?_
  refine hK _ (k+1) (by omega) (by omega) ?_
  rw [hs]
  refine Le.trans (A9 [0,4] rfl rfl) ?_
  (try simp only [List.set_nil,List.take_nil,List.take_zero,List.map_append,go_sem])
  (try simp only [Af])
  simp only [List.length_append,List.length_cons,List.length_nil]
  exact WE
 have d2:((acc.length:Int) == 0)=false:=by simp;intro e;simp [e] at h0
 obtain ⟨m,hm⟩:∃ m,acc.length=m+1:=⟨acc.length - 1,by omega⟩
 have e3:(acc.length:Int) - 1=(m:Int):=by omega
 have gl:acc[m]?=some acc[m]:=gE1 (by omega)
 have ge:(A7 acc)[m]?=some (.v (.int .i64 acc[m])):=Aq gl
 have hlast:acc.getLast?=some acc[m]:=by
  have e:acc.length - 1=m:=by omega
  rw [List.getLast?_eq_getElem?,e];exact gl
 by_cases hq:acc[m]=row[k].1
 ·have d3:(acc[m] != row[k].1)=false:=by simpa using hq
  have hs:E5 (row.take (k+1))=acc:=by
   rw [fin _ rfl,Dq,if_pos (by rw [hlast,hq])]
  (refine Ac 13 [(0,0),(1,0),(2,0),(3,0),(4,0),(5,0),(6,0),(7,0),(8,0),(9,1),(10,0),(11,1),(12,0),(13,2)] (by kernel_rfl) (by kernel_rfl) (by intro c st h;simp [Ae,AF,VT] at h) ?_)
  (refine Wo (an @d2 (an @A5 (an @e3 (an @ge @d3)))) ?_;repeat clear hK K)
  refine WC ?_
  (refine Wt ?_;(repeat clear hK K);repeat refine kq fun K hK=>?_)
  refine WD ?_
  refine hK _ (k+1) (by omega) (by omega) ?_
  rw [hs]
  refine Le.trans (A9 [0,1] rfl rfl) ?_
  (try simp only [List.set_nil,List.take_nil,List.take_zero,List.map_append,go_sem])
  (try simp only [Af])
  exact WE
 have d3:(acc[m] != row[k].1)=true:=by simpa using hq
 have hs:E5 (row.take (k+1))=acc++[row[k].1]:=by
  rw [fin _ rfl,Dq,if_neg (by rw [hlast];simpa using hq)]
 (refine Ac 13 [(0,0),(1,0),(2,0),(3,0),(4,0),(5,0),(6,0),(7,0),(8,0),(9,1),(10,0),(11,1),(12,0),(13,2)] (by kernel_rfl) (by kernel_rfl) (by intro c st h;simp [Ae,AF,VT] at h) ?_)
 (refine Wo (an @d2 (an @A5 (an @e3 (an @ge @d3)))) ?_;repeat clear hK K)
 refine WB ?_
 (refine Wu (an @A5 @op) ?_;(repeat clear hK K);repeat refine kq fun K hK=>?_)
 refine WD ?_
 refine hK _ (k+1) (by omega) (by omega) ?_
 rw [hs]
 refine Le.trans (A9 [0,4] rfl rfl) ?_
 (try simp only [List.set_nil,List.take_nil,List.take_zero,List.map_append,go_sem])
 (try simp only [Af])
 simp only [List.length_append,List.length_cons,List.length_nil]
 exact WE
section
variable {P : Program} {o : Oper} {st : ST} {K : ST -> Prop} {t kt e : TypeId} {s : Ks} {zv : Value} {id : Nat} {kv : List (Value × C)} {key : Value}
def XX (zv:Value) (ok:Bool):Option (Nat × C)->AV
 | some (_,c)=>match ok with
  | true=>.tup [.c c,.c (.v (.bool true))]
  | false=>.a (.c c)
 | none=>match ok with
  | true=>.tup [.c (.v zv),.c (.v (.bool false))]
  | false=>.a (.c (.v zv))
theorem Ci {x ix:Operand} {ok:Bool} {r:Option (Nat × C)} (hu:P.underlying t=some (.map kt e)) (hK:KeyOk P kt s) (hze:(P.info? e).bind (·.zero)=some zv)
  (hd:VJ o st.n=true) (ho:o.op=.lookup t x ix ok) (hx:st.ev x=.a (.c (.m id))) (hm:st.hp[id]?=some (.m kv)) (hpl:kv.all (fun p=>p.2.pl)=true) (hkey:EP (st.ev ix)=some key) (hfit:Fj s key=true) (hf:BJ s key kv 0=some r)
  (h:K (st.put o.dst (XX zv ok r))):Stp P o st K:=by
 refine ER hd (fun g w ρ hr hR=>?_) h
 obtain ⟨dst,op,ty,pos,af,gd⟩:=o
 simp only at ho
 subst ho
 have hz1:∀ w,(zeroValue e).run P w=.ok zv w:=by
  intro w
  cases hi:P.info? e with
  | none=>rw [hi] at hze;cases hze
  | some i=>
   rw [hi] at hze
   simp only [Option.bind_some] at hze
   simp [zeroValue,CS hi,hze]
 obtain ⟨es,clock,m1,m2,m3,m4⟩:=(hr.mp id kv hm).map hf
 have e1:=hR x
 rw [hx] at e1
 obtain ⟨_,e1⟩:=e1
 have e2:=hR ix
 have e2:=JR hkey e2
 have hKv:KvOk kv es.toList:=⟨by simpa using m2,fun i p hp=>by
  obtain ⟨⟨e,f1,f2,_⟩,_⟩:=m3 i p hp
  exact ⟨e,by simpa using f1,f2⟩⟩
 obtain ⟨q,hq⟩:∃ q,BZ s key key=some q:=by
  unfold Fj at hfit
  split at hfit
  ·exact ⟨_,‹_›⟩
  cases hfit
 have hck:=hK.ck key q hq es.isEmpty w
 cases r with
 | some p=>
  obtain ⟨j,c⟩:=p
  obtain ⟨h1,h2⟩:=Ja hK key w hKv hf
  obtain ⟨k',h3,h4⟩:=h2 j c rfl
  obtain ⟨⟨e,f1,f2,f3⟩,f4⟩:=m3 j _ h3
  have hc:CR g st.hp w c e.val:=by
   have:=List.all_eq_true.1 hpl _ (gE9 h3)
   exact CellR.cr this f3
  have hfnd:W9 es.toList 0 (some (j,c))=some (j,e.val):=by simp [W9,f1]
  rw [hfnd] at h1
  cases ok with
  | true=>
   refine ⟨.tuple #[e.val,.bool true],?_,[e.val,.bool true],rfl,rfl,fun i a ha=>?_⟩
   ·simp [execOp,Instr.lookup,run_underlying hu,e1,MapKept.run_getObj_map m1,e2,hck,h1]
   match i,ha with
   | 0,ha=>cases ha;exact ⟨_,rfl,hc⟩
   | 1,ha=>cases ha;exact ⟨_,rfl,rfl⟩
  | false=>
   refine ⟨e.val,?_,hc⟩
   simp [execOp,Instr.lookup,run_underlying hu,e1,MapKept.run_getObj_map m1,e2,hck,h1]
 | none=>
  obtain ⟨h1,_⟩:=Ja hK key w hKv hf
  have hfnd:W9 es.toList 0 none=none:=rfl
  rw [hfnd] at h1
  cases ok with
  | true=>
   refine ⟨.tuple #[zv,.bool false],?_,[zv,.bool false],rfl,rfl,fun i a ha=>?_⟩
   ·simp [execOp,Instr.lookup,run_underlying hu,e1,MapKept.run_getObj_map m1,e2,hck,h1,hz1 w]
   match i,ha with
   | 0,ha=>cases ha;exact ⟨_,rfl,rfl⟩
   | 1,ha=>cases ha;exact ⟨_,rfl,rfl⟩
  | false=>
   refine ⟨zv,?_,rfl⟩
   simp [execOp,Instr.lookup,run_underlying hu,e1,MapKept.run_getObj_map m1,e2,hck,h1,hz1 w]
theorem GY {m kx v:Operand} {c:C} (hu:P.underlying t=some (.map kt e)) (hK:KeyOk P kt s) (hd:VJ o st.n=true) (ho:o.op=.mapUpdate t m kx v) (hm:st.ev m=.a (.c (.m id))) (hmm:st.hp[id]?=some (.m kv)) (hpl:kv.all (fun p=>p.2.pl)=true)
  (hkey:EP (st.ev kx)=some key) (hfit:Fj s key=true) (hv:st.ev v=.a (.c c)) (hone:c.one=true) (hf:BJ s key kv 0=some none)
  (h:K ({ st with hp:=st.hp.set id (.m (kv++[(key,c)])) }.put o.dst .u)):Stp P o st K:=by
 obtain ⟨q,hq⟩:∃ q,BZ s key key=some q:=by
  unfold Fj at hfit
  split at hfit
  ·exact ⟨_,‹_›⟩
  cases hfit
 have hcell:∀ {g:Gh} {w:World} {u:Value},CR g st.hp w c u->CellR g st.hp w id 0 c u:=fun h=>Fg hone h
 have hcpl:c.pl=true:=by cases c <;> first | rfl | cases hone
 intro M0 w0 a w N Q hR hN
 obtain ⟨g,⟨hp1,hp2⟩,hR⟩:=hR
 have e1:=hR.ev m
 rw [hm] at e1
 obtain ⟨_,e1⟩:=e1
 have e2:=hR.ev kx
 have e2:=JR hkey e2
 have e3:=hR.ev v
 rw [hv] at e3
 obtain ⟨es,clock,m1,m2,m3,m4⟩:=(hR.hr.mp id kv hmm).map hf
 have hKv:KvOk kv es.toList:=⟨by simpa using m2,fun i p hp=>by
  obtain ⟨⟨e,f1,f2,_⟩,_⟩:=m3 i p hp
  exact ⟨e,by simpa using f1,f2⟩⟩
 obtain ⟨h1,_⟩:=Ja hK key w hKv hf
 have hfnd:W9 es.toList 0 none=none:=rfl
 rw [hfnd] at h1
 have hl:es.size=kv.length:=by simpa using hKv.1
 have r1:(Instr.mapUpdate t (.map (some (g.γ (.ob id)))) key (a.eval v)).run P w=.ok () { w with heap:=w.heap.setIfInBounds (g.γ (.ob id)) (.map (es.push { key:=key,val:=a.eval v,born:=clock }) (clock+1)) }:=by
  simp [Instr.mapUpdate,run_underlying hu,MapKept.run_getObj_map m1,hK.ck key q hq,h1,MapKept.run_setObj_map _ m1]
 have hset:=hR.mapset (es':=es.push { key:=key,val:=a.eval v,born:=clock }) (clock:=clock+1) (kv':=kv++[(key,c)]) hmm (by simp [hl]) (fun i p hp=>by
  rcases Nat.lt_or_ge i kv.length with hi | hi
  ·rw [gEa hi] at hp
   obtain ⟨⟨e',g1,g2,g3⟩,g4⟩:=m3 i p hp
   exact ⟨⟨e',by rw [Array.getElem?_push_lt (by omega)];rw [<- g1];simp [show i<es.size by omega],g2,g3⟩,g4⟩
  ·rw [gEb hi] at hp
   have hi':i=kv.length:=by
    have:=(List.getElem?_eq_some_iff.1 hp).1
    simp at this
    omega
   subst hi'
   simp at hp
   subst hp
   exact ⟨⟨{ key:=key,val:=a.eval v,born:=clock },by rw [<- hl];simp,rfl,hcell e3⟩,fun k' cs e=>by
    simp only at e
    rw [e] at hcpl;cases hcpl⟩) (m4.push _ _)
 have hrun:(execOp a.eval o).run P w=.ok .skip { w with heap:=w.heap.setIfInBounds (g.γ (.ob id)) (.map (es.push { key:=key,val:=a.eval v,born:=clock }) (clock+1)) }:=by
  unfold execOp
  simp [ho,e1,e2,r1]
 unfold Oper.wp
 rw [hrun]
 exact hN _ _ _ h ⟨g,⟨by cases o.dst <;> (simp [ST.put];omega),by cases o.dst <;> exact hp2⟩,hset.put (B3 hd) trivial⟩
theorem Sm {src d el:TypeId} {x:Operand} {n q:Nat} {sl:Bool} {cells:List C} {ns:List Int} (hu1:P.underlying src=some (.slice el)) (hu2:P.underlying d=some .string) (hu3:P.underlying el=some (.int .u8))
  (hd:VJ o st.n=true) (ho:o.op=.convert src d x) (hx:st.ev x=.a (.c (.s id n))) (hrow':st.hp[id]?=some (.r ⟨q,1,sl,cells⟩)) (hns:ns.length=n) (e1:cells.take n=ns.map (fun m=>C.v (.int .u8 m)))
  (h:K (st.put o.dst (.a (.c (.v (.string ⟨⟨ns.map fun (m:Int)=>UInt8.ofNat m.toNat⟩⟩)))))):Stp P o st K:=by
 refine ER hd (fun g w ρ hr hR=>?_) h
 obtain ⟨dst,op,ty,pos,af,gd⟩:=o
 simp only at ho
 subst ho
 have e2:=hR x
 rw [hx] at e2
 obtain ⟨_,hn,A,e2,e3,_⟩:=e2
 refine ⟨.string ⟨⟨ns.map fun (m:Int)=>UInt8.ofNat m.toNat⟩⟩,?_,rfl⟩
 have hconv:(Conv.bytesToString (.slice A n (g.κ id))).run P w=.ok (.string ⟨⟨ns.map fun (m:Int)=>UInt8.ofNat m.toNat⟩⟩) w:=by
  rcases hr.row id _ hrow' with ⟨h0,h2⟩ | ⟨h0,_,arr,ha,hla,hs,_,hcells⟩
  ·have hn0:n=0:=by omega
   subst hn0
   have:ns=[]:=List.eq_nil_of_length_eq_zero hns
   subst this
   cases A with
   | none=>simp [Conv.bytesToString,ByteArray.empty,ByteArray.emptyWithCapacity];rfl
   | some a=>simp [Conv.bytesToString,loadCells,loadCellsFrom,ByteArray.empty,ByteArray.emptyWithCapacity];rfl
  rw [e3 h0]
  have hload:(loadCells ⟨g.γ (.ob id),0,none⟩ n).run P w=.ok (ns.map (Value.int .u8)).toArray w:=by
   unfold loadCells
   rw [BO _ _ _ 0 (ns.map (Value.int .u8)) #[] (by simpa using hns) (fun q u hq=>?_)]
   ·simp
   rw [cell_of_row _ _ _ _ _ _ ha]
   rw [List.getElem?_map,Option.map_eq_some_iff] at hq
   obtain ⟨m,hm,rfl⟩:=hq
   have hlt:q<n:=by rw [<- hns];exact (List.getElem?_eq_some_iff.1 hm).1
   have hcq:cells[q]?=some (.v (.int .u8 m)):=by
    have:(cells.take n)[q]?=some (.v (.int .u8 m)):=by rw [e1];simp [hm]
    rw [List.getElem?_take,if_pos hlt] at this
    exact this
   obtain ⟨u,f1,f2⟩:=hcells q _ hcq
   have f2:u=.int .u8 m:=f2
   subst f2
   simpa using f1
  simp only [Conv.bytesToString,Sem.run_bind,hload,Result.andThen_ok]
  rw [MB (fun n s w=>by simp)]
  simp [ByteArray.empty,ByteArray.emptyWithCapacity]
  rfl
 simp [execOp,convert,run_underlying hu1,run_underlying hu2,e2,run_underlying hu3,hconv]
end
def kb (n:Int):List Int:=[IntKind.u8.wrap (n.fdiv (2 ^ (24:Int).toNat)),IntKind.u8.wrap (n.fdiv (2 ^ (16:Int).toNat)),IntKind.u8.wrap (n.fdiv (2 ^ (8:Int).toNat)),IntKind.u8.wrap n]
def Jw (xs:List Int):List Int:=xs.flatMap kb
def Jx (xs:List Int):Value:=.string ⟨⟨(Jw xs).map fun (m:Int)=>UInt8.ofNat m.toNat⟩⟩
def XY (l:List Int):List C:=l.map fun m=>C.v (.int .u8 m)
theorem Jy (l:List Int):(XY l).length=l.length:=by simp [XY]
theorem Sn (f:List Nat) (l:List Int):(XY l).map (C.ren f)=XY l:=by simp [XY,C.ren,Function.comp_def]
theorem CX (xs:List Int):(Jw xs).length=xs.length*4:=by
 unfold Jw
 induction xs with
 | nil=>rfl
 | cons x r ih=>rw [List.flatMap_cons,List.length_append,ih,List.length_cons];simp [kb];omega
theorem NT (xs:List Int) (x:Int):(XY (Jw xs)).take (xs.length*4)++[C.v (.int .u8 (IntKind.u8.wrap (x.fdiv (2 ^ (24:Int).toNat)))),C.v (.int .u8 (IntKind.u8.wrap (x.fdiv (2 ^ (16:Int).toNat)))),C.v (.int .u8 (IntKind.u8.wrap (x.fdiv (2 ^ (8:Int).toNat)))),C.v (.int .u8 (IntKind.u8.wrap x))]=XY (Jw (xs++[x])):=by
 rw [gE7 (by rw [Jy,CX];exact Nat.le_refl _)]
 unfold Jw XY
 simp [kb]
theorem Uc (n:Int):IntKind.u8.wrap n=n % 256:=by simp [IntKind.wrap,IntKind.signed,IntKind.bits]
theorem Ud {x y:Int} (hx:0<=x/\x<2147483648) (hy:0<=y/\y<2147483648) (h:kb x=kb y):x=y:=by
 unfold kb at h
 simp only [List.cons.injEq,and_true,Uc] at h
 obtain ⟨h1,h2,h3,h4⟩:=h
 have e:∀ z:Int,z.fdiv (2 ^ (24:Int).toNat)=z / 16777216/\z.fdiv (2 ^ (16:Int).toNat)=z / 65536/\z.fdiv (2 ^ (8:Int).toNat)=z / 256:=fun z=>⟨Int.fdiv_eq_ediv_of_nonneg z (by decide),Int.fdiv_eq_ediv_of_nonneg z (by decide),Int.fdiv_eq_ediv_of_nonneg z (by decide)⟩
 rw [(e x).1,(e y).1] at h1
 rw [(e x).2.1,(e y).2.1] at h2
 rw [(e x).2.2,(e y).2.2] at h3
 omega
theorem Ue (x:Int):∀ m∈kb x,0<=m/\m<256:=by
 intro m hm
 unfold kb at hm
 simp only [List.mem_cons,List.not_mem_nil,or_false,Uc] at hm
 rcases hm with rfl | rfl | rfl | rfl <;> omega
theorem KT:∀ {xs ys:List Int},(∀ x∈xs,0<=x/\x<2147483648)->(∀ y∈ys,0<=y/\y<2147483648)->Jw xs=Jw ys->xs=ys
 | [],[],_,_,_=>rfl
 | [],y :: ys,_,_,h=>by have:=congrArg List.length h;rw [CX,CX] at this;simp at this
 | x :: xs,[],_,_,h=>by have:=congrArg List.length h;rw [CX,CX] at this;simp at this
 | x :: xs,y :: ys,hx,hy,h=>by
  have h1:kb x++Jw xs=kb y++Jw ys:=h
  obtain ⟨h2,h3⟩:=List.append_inj h1 rfl
  rw [Ud (hx x (by simp)) (hy y (by simp)) h2,KT (fun a ha=>hx a (gEf _ ha)) (fun a ha=>hy a (gEf _ ha)) h3]
theorem KU (xs:List Int):∀ m∈Jw xs,0<=m/\m<256:=by
 intro m hm
 obtain ⟨x,_,hx⟩:=List.mem_flatMap.1 hm
 exact Ue x m hx
theorem GZ:∀ {l m:List Int},(∀ x∈l,0<=x/\x<256)->(∀ x∈m,0<=x/\x<256)->(l.map fun (m:Int)=>UInt8.ofNat m.toNat)=(m.map fun (m:Int)=>UInt8.ofNat m.toNat)->l=m
 | [],[],_,_,_=>rfl
 | [],y :: ys,_,_,h=>by simp at h
 | x :: xs,[],_,_,h=>by simp at h
 | x :: xs,y :: ys,hx,hy,h=>by
  simp only [List.map_cons,List.cons.injEq] at h
  have h1:=hx x (by simp)
  have h2:=hy y (by simp)
  have h3:=congrArg UInt8.toNat h.1
  simp only [UInt8.toNat_ofNat'] at h3
  have:x=y:=by omega
  rw [this,GZ (fun a ha=>hx a (gEf _ ha)) (fun a ha=>hy a (gEf _ ha)) h.2]
theorem Qb {xs ys:List Int} (hx:∀ x∈xs,0<=x/\x<2147483648) (hy:∀ y∈ys,0<=y/\y<2147483648) (h:Jx xs=Jx ys):xs=ys:=by
 unfold Jx at h
 injection h with h
 injection h with h
 injection h with h
 exact KT hx hy (GZ (KU _) (KU _) h)
set_option maxHeartbeats 1000000 in
theorem Uf (xs:List Int) (hn:xs.length<=100000000):FC Tryz.prog 86 [As xs] [] (fun r o=>o=[]/\r=.a (.c (.v (Jx xs)))):=by
 refine A6 Tryz.func86 rfl (by rw [Tryz.ntmps86];simp) ?_
 rw [Tryz.ntmps86]
 simp only [Bf,As]
 (refine Wu @A4 ?_;(repeat clear hK K);repeat refine kq fun K hK=>?_)
 refine A8 (fun k:Nat=>{ tm:=[(3,.a (.c (.s 0 (k*4)))),(10,.a (.c (.t 1 (Ab xs)))),(11,.i xs.length),(12,.i k)],hp:=[.r ⟨5,1,false,XY (Jw (xs.take k))⟩],n:=33,pin:=0 }) (fun k=>k<=xs.length) (fun k=>xs.length - k) 0 ?_ ?_ ?_
 ·omega
 ·simp only [show Int.toNat 0=0 from rfl,List.replicate_zero,List.take_zero,Jw,List.flatMap_nil,XY,List.map_nil,Nat.zero_mul]
  exact WE
 rintro k hk K hK
 have htl:(xs.take k).length=k:=by simp;omega
 by_cases hlt:k<xs.length
 ·have d1:decide ((k:Int)<(xs.length:Int))=true:=by simpa using hlt
  have hg:=Am (gE1 hlt)
  have hp:=NT (xs.take k) xs[k]
  rw [htl,<- gE8 hlt] at hp
  (refine Wu @d1 ?_;(repeat clear hK K);repeat refine kq fun K hK=>?_)
  refine WB ?_
  (refine Wu (an @hg (an @A4 (an @Jy (an @CX (an @htl @hp))))) ?_;(repeat clear hK K);repeat refine kq fun K hK=>?_)
  refine WD ?_
  refine hK _ (k+1) (by omega) (by omega) ?_
  refine Le.trans (A9 [2] rfl rfl) ?_
  (try simp only [List.set_nil,List.take_nil,List.take_zero,List.map_append,go_sem])
  (try simp only [Sn])
  have e4:k*4+4=(k+1)*4:=by omega
  (try simp only [e4])
  exact WE
 have d1:decide ((k:Int)<(xs.length:Int))=false:=by simpa using hlt
 have hke:xs.take k=xs:=gE7 (by omega)
 have hkl:k=xs.length:=by omega
 rw [hke]
 (refine Wu @d1 ?_;(repeat clear hK K);repeat refine kq fun K hK=>?_)
 refine WC ?_
 (refine Wx ?_;repeat clear hK K)
 (refine Wt ?_;(repeat clear hK K);repeat refine kq fun K hK=>?_)
 (refine Ai rfl ?_;intro K1 hK1;refine Sm (id:=0) (n:=k*4) (q:=5) (sl:=false) (cells:=XY (Jw xs)) (ns:=Jw xs) Tryz.underlying148 Tryz.underlying9 Tryz.underlying5 rfl rfl (by simp only [go_sem]) rfl (by rw [CX];omega) (by rw [hkl,gE7 (by rw [Jy,CX];exact Nat.le_refl _)];rfl) ?_;simp only [go_sem];refine hK1 _ ?_;clear hK1 K1)
 (refine Wt ?_;(repeat clear hK K);repeat refine kq fun K hK=>?_)
 ((try refine Av ?_);(try simp only [Ae,AF]);refine B6 (A9 [] rfl rfl) ?_;(try simp only [List.set_nil,List.take_nil,List.take_zero,List.map_append,go_sem]);((try refine Av ?_);(try refine Aa ?_);(try simp only [Ae,AF]);refine Bj (by first | exact .inl rfl | exact .inr rfl) rfl ?_;simp only [VU,Dy,Du,DL,Tryz.results86,go_sem,true_and,and_true,Jx]))
theorem KV {P:Program} {o:Oper} {st:ST} {K:ST->Prop} {t kt e:TypeId} {id:Nat} {kv:List (Value × C)} {x:Operand} {c:Call} (hu:P.underlying t=some (.map kt e)) (hd:VJ o st.n=true) (ho:o.op=.call c) (hc1:c.callee=.builtin .len) (hc2:c.args=#[x]) (hc3:c.argTypes=#[t]) (hx:st.ev x=.a (.c (.m id))) (hm:st.hp[id]?=some (.m kv)) (hit:Pe kv=false) (h:K (st.put o.dst (.i kv.length))):Stp P o st K:=by
 refine ER hd (fun g w ρ hr hR=>?_) h
 obtain ⟨dst,op,ty,pos,af,gd⟩:=o
 simp only at ho
 subst ho
 obtain ⟨callee,args,ts⟩:=c
 simp only at hc1 hc2 hc3
 subst hc1;subst hc2;subst hc3
 obtain ⟨es,clock,m1,m2,_⟩:=(hr.mp id kv hm).map0 hit
 have e1:=hR x
 rw [hx] at e1
 obtain ⟨_,e1⟩:=e1
 refine ⟨.int .i64 kv.length,?_,rfl⟩
 simp only [execOp,resolve,invoke,builtin,Sem.run_bind,Sem.run_pure,Result.andThen_ok,List.map_toArray,List.map_cons,List.map_nil,e1]
 simp [Builtin.len_,run_underlying hu,MapKept.run_getObj_map m1,goInt,m2]
theorem Rj (M:List (Value × Value)):Pe (M.map fun p=>(p.1,C.v p.2))=false:=by
 cases M <;> rfl
theorem LO {s:Ks} {key k:Value} {c:C}:∀ (l:List (Value × C)) (i:Nat),BJ s key (l++[(k,c)]) i=match BJ s key l i with | some none=>(match BZ s key k with | some true=>some (some (i+l.length,c)) | some false=>some none | none=>none) | r=>r:=by
 intro l
 induction l with
 | nil=>
  intro i
  simp only [List.nil_append,BJ,List.length_nil,Nat.add_zero]
  cases BZ s key k with
  | none=>rfl
  | some b=>cases b <;> rfl
 | cons p r ih=>
  intro i
  obtain ⟨k1,c1⟩:=p
  simp only [List.cons_append,BJ]
  cases BZ s key k1 with
  | none=>rfl
  | some b=>
   cases b with
   | true=>rfl
   | false=>
    simp only
    rw [ih (i+1),List.length_cons,show i+1+r.length=i+(r.length+1) from by omega]
section
variable {α : Type} [DecidableEq α]
def Tu (ky:List Value) (g:Nat->α):Prop:=∀ a b,a<ky.length->b<ky.length->BZ .ks (ky.getD a (.int .i64 0)) (ky.getD b (.int .i64 0))=some (decide (g a=g b))
def XZ (ky:List Value) (g:Nat->α):Nat->List (Value × C)
 | 0=>[]
 | k+1=>match (List.range k).find? (fun t=>decide (g t=g k)) with
  | some _=>XZ ky g k
  | none=>XZ ky g k++[(ky.getD k (.int .i64 0),.v (.int .i64 (Xh g k).2))]
theorem EH {ky:List Value} {g:Nat->α} {k t:Nat} (h:(List.range k).find? (fun t=>decide (g t=g k))=some t):XZ ky g (k+1)=XZ ky g k:=by rw [XZ,h]
theorem EI {ky:List Value} {g:Nat->α} {k:Nat} (h:(List.range k).find? (fun t=>decide (g t=g k))=none):XZ ky g (k+1)=XZ ky g k++[(ky.getD k (.int .i64 0),.v (.int .i64 (Xh g k).2))]:=by rw [XZ,h]
theorem Ug (ky:List Value) (g:Nat->α) (k:Nat):(XZ ky g k).all (fun p=>p.2.pl)=true:=by
 induction k with
 | zero=>rfl
 | succ k ih=>
  cases h:(List.range k).find? (fun t=>decide (g t=g k)) with
  | some t=>rw [EH h];exact ih
  | none=>rw [EI h,List.all_append,ih];rfl
theorem NU (ky:List Value) (g:Nat->α) (k:Nat):(XZ ky g k).length=(Xh g k).2:=by
 induction k with
 | zero=>rfl
 | succ k ih=>
  cases h:(List.range k).find? (fun t=>decide (g t=g k)) with
  | some t=>rw [EH h,Do h];exact ih
  | none=>rw [EI h,Dp h,List.length_append,ih];rfl
theorem Hw (ky:List Value) (g:Nat->α) (k:Nat):∃ M:List (Value × Value),XZ ky g k=M.map fun p=>(p.1,C.v p.2):=by
 induction k with
 | zero=>exact ⟨[],rfl⟩
 | succ k ih=>
  obtain ⟨M,hM⟩:=ih
  cases h:(List.range k).find? (fun t=>decide (g t=g k)) with
  | some t=>exact ⟨M,by rw [EH h,hM]⟩
  | none=>exact ⟨M++[(ky.getD k (.int .i64 0),.int .i64 (Xh g k).2)],by rw [EI h,hM];simp⟩
theorem Qc {ky:List Value} {g:Nat->α} (h:Tu ky g) {s:Nat} (hs:s<ky.length):∀ k,k<=ky.length->(∃ t,t<k/\g t=g s/\∃ j,BJ .ks (ky.getD s (.int .i64 0)) (XZ ky g k) 0=some (some (j,.v (.int .i64 ((Xh g k).1.getD t 0)))))\/((∀ t,t<k->g t ≠ g s)/\BJ .ks (ky.getD s (.int .i64 0)) (XZ ky g k) 0=some none):=by
 intro k
 induction k with
 | zero=>intro _;exact .inr ⟨fun t ht=>by omega,rfl⟩
 | succ k ih=>
  intro hk
  have hkl:k<ky.length:=hk
  have hlen:=(Cx g k).len
  cases hf:(List.range k).find? (fun t=>decide (g t=g k)) with
  | some t0=>
   have h2:=List.find?_range_eq_some.1 hf
   have h3:t0<k:=by simpa using h2.2.1
   have h4:g t0=g k:=by simpa using h2.1
   rw [EH hf,Do hf]
   rcases ih (by omega) with ⟨t,a1,a2,j,a3⟩ | ⟨a1,a2⟩
   ·refine .inl ⟨t,by omega,a2,j,?_⟩
    rw [a3,CW (by omega)]
   refine .inr ⟨fun t ht=>?_,a2⟩
   rcases Nat.lt_or_ge t k with b | b
   ·exact a1 t b
   have:t=k:=by omega
   subst this
   rw [<- h4];exact a1 t0 h3
  | none=>
   rw [EI hf,Dp hf,LO,h s k hs hkl]
   rcases ih (by omega) with ⟨t,a1,a2,j,a3⟩ | ⟨a1,a2⟩
   ·refine .inl ⟨t,by omega,a2,j,?_⟩
    rw [a3,CW (by omega)]
   rw [a2]
   by_cases e:g s=g k
   ·refine .inl ⟨k,by omega,e.symm,0+(XZ ky g k).length,?_⟩
    rw [gEg e,DF hlen.symm]
   refine .inr ⟨fun t ht=>?_,by rw [decide_eq_false e]⟩
   rcases Nat.lt_or_ge t k with b | b
   ·exact a1 t b
   have:t=k:=by omega
   subst this
   exact Ne.symm e
theorem So {ky:List Value} {g:Nat->α} (h:Tu ky g) {s:Nat} (hs:s<ky.length):Fj .ks (ky.getD s (.int .i64 0))=true:=by
 unfold Fj
 rw [h s s hs hs]
def Y0 (ky:List Value):List C:=ky.map C.v
theorem Gt (ky:List Value):(Y0 ky).length=ky.length:=by simp [Y0]
theorem Sp {ky:List Value} {s:Nat} (h:s<ky.length):(Y0 ky)[s]?=some (.v (ky.getD s (.int .i64 0))):=by simp [Y0,gE2,h]
theorem Fd (ky:List Value) (f:List Nat):(Y0 ky).map (C.ren f)=Y0 ky:=by simp [Y0,C.ren,Function.comp_def]
theorem Jz (ky:List Value) (s:Nat) (v:Value):(Y0 ky).set s (.v v)=Y0 (ky.set s v):=by simp [Y0,List.map_set]
end
def UX (L:List Int):Prop:=∀ x∈L,0<=x/\x<2147483648
theorem Sq {x y:List Int} (hx:UX x) (hy:UX y):BZ .ks (Jx x) (Jx y)=some (decide (x=y)):=by
 show some _=some _
 congr 1
 rw [Bool.eq_iff_iff,decide_eq_true_iff,MapKept.bytes_beq]
 exact ⟨fun h=>Qb hx hy (by unfold Jx;rw [h]),fun h=>by rw [h]⟩
def Y3 (kd ke:Value) (B:List Bool) (n k:Nat):List Value:=(List.range n).map fun s=>if s<k/\B.getD s false=true then kd else ke
theorem Hx (kd ke:Value) (B:List Bool) (n k:Nat):(Y3 kd ke B n k).length=n:=by simp [Y3]
theorem Qd (kd ke:Value) (B:List Bool) (n:Nat):Y3 kd ke B n 0=List.replicate n ke:=by
 refine List.ext_getElem (by simp [Y3]) fun i h1 h2=>?_
 simp [Y3]
theorem Qe {kd ke:Value} {B:List Bool} {n k:Nat} (h:B.getD k false=true):(Y3 kd ke B n k).set k kd=Y3 kd ke B n (k+1):=by
 refine List.ext_getElem (by simp [Y3]) fun i h1 h2=>?_
 rw [List.getElem_set]
 simp only [Y3,List.getElem_map,List.getElem_range]
 by_cases e:k=i
 ·subst e;rw [if_pos rfl,if_pos ⟨by omega,h⟩]
 rw [if_neg e]
 by_cases hb:B.getD i false=true
 rotate_left
 ·rw [if_neg (fun h=>hb h.2),if_neg (fun h=>hb h.2)]
 by_cases hk:i<k
 ·rw [if_pos ⟨hk,hb⟩,if_pos ⟨by omega,hb⟩]
 rw [if_neg (fun h=>hk h.1),if_neg (fun h=>by have:=h.1;omega)]
theorem NV {kd ke:Value} {B:List Bool} {n k:Nat} (h:B.getD k false=false):Y3 kd ke B n (k+1)=Y3 kd ke B n k:=by
 refine List.map_congr_left fun i _=>?_
 by_cases hb:B.getD i false=true
 rotate_left
 ·rw [if_neg (fun h=>hb h.2),if_neg (fun h=>hb h.2)]
 by_cases e:i=k
 ·subst e;rw [h] at hb;cases hb
 by_cases hk:i<k
 ·rw [if_pos ⟨by omega,hb⟩,if_pos ⟨hk,hb⟩]
 rw [if_neg (fun h=>by have:=h.1;omega),if_neg (fun h=>hk h.1)]
theorem Uh {kd ke:Value} (h1:BZ .ks kd kd=some true) (h2:BZ .ks ke ke=some true) (h3:BZ .ks kd ke=some false) (h4:BZ .ks ke kd=some false) (B:List Bool) (n:Nat):Tu (Y3 kd ke B n n) (fun s=>B.getD s false):=by
 intro a b ha hb
 rw [Hx] at ha hb
 have g:∀ s,s<n->(Y3 kd ke B n n).getD s (.int .i64 0)=if B.getD s false=true then kd else ke:=fun s hs=>by
  rw [gE2,gE1 (by rw [Hx];exact hs),Option.getD_some]
  simp only [Y3,List.getElem_map,List.getElem_range,hs,true_and]
 rw [g a ha,g b hb]
 show _=some (decide (B.getD a false=B.getD b false))
 cases B.getD a false <;> cases B.getD b false <;> simp [h1,h2,h3,h4]
def AQ (w:Nat):List Int:=((List.range 64).filter fun i=>w.testBit i).map Int.ofNat
def WS (w:Nat) (p:Nat->Prop):Prop:=w<2 ^ 64/\∀ i,i<64->(w.testBit i=true↔p i)
theorem WS.lt {w:Nat} {p:Nat->Prop} (h:WS w p):w<18446744073709551616:=h.1
theorem Ui {w i:Nat} (h:w<2 ^ 64) (hi:64<=i):w.testBit i=false:=Nat.testBit_lt_two_pow (Nat.lt_of_lt_of_le h (Nat.pow_le_pow_right (by decide) hi))
theorem Rk {v w:Nat} (hv:v<2 ^ 64) (hw:w<2 ^ 64) (h:∀ i,i<64->v.testBit i=w.testBit i):v=w:=by
 refine Nat.eq_of_testBit_eq fun i=>?_
 rcases Nat.lt_or_ge i 64 with hi | hi
 ·exact h i hi
 rw [Ui hv hi,Ui hw hi]
theorem WS.uniq {v w:Nat} {p q:Nat->Prop} (hv:WS v p) (hw:WS w q) (h:∀ i,i<64->(p i↔q i)):v=w:=by
 refine Rk hv.1 hw.1 fun i hi=>?_
 rw [Bool.eq_iff_iff,hv.2 i hi,hw.2 i hi,h i hi]
theorem LP:AQ 0=[]:=by
 unfold AQ
 rw [List.filter_eq_nil_iff.2 (fun i _=>by simp)]
 rfl
theorem CP (w:Nat):(AQ w).length<=64:=by
 unfold AQ
 rw [List.length_map]
 exact Nat.le_trans (List.length_filter_le _ _) (by simp)
theorem Db {w:Nat} {x:Int}:x∈AQ w↔∃ i,i<64/\w.testBit i=true/\x=(i:Int):=by
 unfold AQ
 simp only [List.mem_map,List.mem_filter,List.mem_range]
 constructor
 ·rintro ⟨i,⟨h1,h2⟩,rfl⟩;exact ⟨i,h1,h2,rfl⟩
 rintro ⟨i,h1,h2,rfl⟩;exact ⟨i,⟨h1,h2⟩,rfl⟩
theorem KW {w:Nat}:∀ x∈AQ w,0<=x/\x<64:=fun x hx=>by
 obtain ⟨i,h1,_,rfl⟩:=Db.1 hx
 omega
theorem IE {v w:Nat} (hv:v<2 ^ 64) (hw:w<2 ^ 64) (h:AQ v=AQ w):v=w:=by
 refine Rk hv hw fun i hi=>?_
 have key:((i:Int)∈AQ v)↔((i:Int)∈AQ w):=by rw [h]
 rw [Db,Db] at key
 have e:∀ u:Nat,(∃ j,j<64/\u.testBit j=true/\(i:Int)=(j:Int))↔u.testBit i=true:=fun u=>by
  constructor
  rotate_left
  ·intro h2;exact ⟨i,hi,h2,rfl⟩
  rintro ⟨j,_,h2,h3⟩
  have:i=j:=by omega
  rw [this];exact h2
 rw [e,e] at key
 rw [Bool.eq_iff_iff];exact key
theorem IF (w:Nat):WI (AQ w):=by
 unfold AQ WI
 rw [List.pairwise_map]
 refine List.Pairwise.filter _ ?_
 refine List.pairwise_lt_range.imp fun {a b} h=>?_
 simp only [Int.ofNat_eq_natCast];omega
theorem KX (k m i:Nat):(2 ^ k*(2*m+1)).testBit i=if i<k then false else if i=k then true else (2*m).testBit (i - k):=by
 rw [Nat.testBit_two_pow_mul]
 by_cases h:i<k
 ·rw [if_pos h];simp [show ¬ k<=i by omega]
 rw [if_neg h]
 by_cases e:i=k
 ·subst e;rw [if_pos rfl];simp [Nat.testBit_zero]
 rw [if_neg e]
 obtain ⟨d,hd⟩:∃ d,i - k=d+1:=⟨i - k - 1,by omega⟩
 rw [hd,Nat.testBit_succ,Nat.testBit_succ]
 simp [show k<=i by omega,show (2*m+1) / 2=m by omega]
theorem Hy (k m i:Nat):(2 ^ k*(2*m)).testBit i=if i<k then false else if i=k then false else (2*m).testBit (i - k):=by
 rw [Nat.testBit_two_pow_mul]
 by_cases h:i<k
 ·rw [if_pos h];simp [show ¬ k<=i by omega]
 rw [if_neg h]
 by_cases e:i=k
 ·subst e;rw [if_pos rfl];simp [Nat.testBit_zero]
 rw [if_neg e];simp [show k<=i by omega]
theorem Qf (k m:Nat):(2 ^ k*(2*m+1)) &&& (2 ^ k*(2*m+1) - 1)=2 ^ k*(2*m):=by
 have hp:0<2 ^ k:=Nat.two_pow_pos k
 have e1:2 ^ k*(2*m+1) - 1=2 ^ k*(2*m)+(2 ^ k - 1):=by
  rw [Nat.mul_add,Nat.mul_one];omega
 refine Nat.eq_of_testBit_eq fun i=>?_
 rw [Nat.testBit_and,KX,e1,Nat.testBit_two_pow_mul_add _ (by omega),Hy]
 by_cases h:i<k
 ·rw [if_pos h,if_pos h,if_pos h];rfl
 rw [if_neg h,if_neg h,if_neg h]
 by_cases e:i=k
 ·subst e;rw [if_pos rfl,if_pos rfl];simp [Nat.testBit_zero]
 rw [if_neg e,if_neg e];simp
theorem NW {w:Nat} (h0:0<w) (h:w<2 ^ 64):Lib.ctz 64 w<64/\(w &&& (w - 1))<w/\AQ w=(Lib.ctz 64 w:Int) :: AQ (w &&& (w - 1)):=by
 obtain ⟨m,hm,hk⟩:=Lib.ctzFrom_spec 64 w h0 h
 have hc:Lib.ctz 64 w=Lib.ctzFrom 64 w:=by unfold Lib.ctz;rw [if_neg (by omega)]
 rw [hc]
 generalize Lib.ctzFrom 64 w=k at *
 have ha:(w &&& (w - 1))=2 ^ k*(2*m):=by rw [hm];exact Qf k m
 have hp:0<2 ^ k:=Nat.two_pow_pos k
 have hlt:2 ^ k*(2*m)<w:=by rw [hm,Nat.mul_add];omega
 refine ⟨hk,by rw [ha];exact hlt,?_⟩
 rw [ha]
 refine Jc (IF _) ?_ fun x=>?_
 ·unfold WI
  refine List.pairwise_cons.2 ⟨fun x hx=>?_,IF _⟩
  obtain ⟨i,h1,h2,rfl⟩:=Db.1 hx
  rw [Hy] at h2
  by_cases h:i<k
  ·rw [if_pos h] at h2;cases h2
  rw [if_neg h] at h2
  by_cases e:i=k
  ·rw [if_pos e] at h2;cases h2
  omega
 rw [List.mem_cons,Db,Db]
 constructor
 ·rintro ⟨i,h1,h2,rfl⟩
  rw [hm,KX] at h2
  by_cases h:i<k
  ·rw [if_pos h] at h2;cases h2
  rw [if_neg h] at h2
  by_cases e:i=k
  ·exact .inl (by rw [e])
  rw [if_neg e] at h2
  exact .inr ⟨i,h1,by rw [Hy,if_neg h,if_neg e];exact h2,rfl⟩
 rintro (rfl | ⟨i,h1,h2,rfl⟩)
 ·exact ⟨k,hk,by rw [hm,KX,if_neg (by omega),if_pos rfl],rfl⟩
 rw [Hy] at h2
 by_cases h:i<k
 ·rw [if_pos h] at h2;cases h2
 rw [if_neg h] at h2
 by_cases e:i=k
 ·rw [if_pos e] at h2;cases h2
 rw [if_neg e] at h2
 exact ⟨i,h1,by rw [hm,KX,if_neg h,if_neg e];exact h2,rfl⟩
theorem Uj {v w:Nat} (hv:v<2 ^ 64) (hw:w<2 ^ 64):(v ||| w)<2 ^ 64:=Nat.or_lt_two_pow hv hw
theorem Sr {v w i:Nat}:(v ||| w).testBit i=true↔v.testBit i=true\/w.testBit i=true:=by rw [Nat.testBit_or];simp
theorem Uk {k i:Nat}:(2 ^ k).testBit i=true↔k=i:=by rw [Nat.testBit_two_pow];simp
theorem KY {k:Nat} (h:k<64):2 ^ k<2 ^ 64:=Nat.pow_lt_pow_right (by decide) h
def FM (x:Int) (t:Nat) (V:List (Int × Nat)):List Int:=x :: ((AQ t).length:Int) :: (AQ t++V.flatMap fun p=>p.1 :: ((AQ p.2).length:Int) :: AQ p.2)
theorem NX {α:Type} {a b c d:List α} (h:a++b=c++d) (hl:a.length=c.length):a=c/\b=d:=List.append_inj h hl
theorem KZ:∀ {V W:List (Int × Nat)},(∀ p∈V,p.2<2 ^ 64)->(∀ p∈W,p.2<2 ^ 64)->(V.flatMap fun p=>p.1 :: ((AQ p.2).length:Int) :: AQ p.2)=(W.flatMap fun p=>p.1 :: ((AQ p.2).length:Int) :: AQ p.2)->V=W
 | [],[],_,_,_=>rfl
 | [],q :: W,_,_,h=>by simp at h
 | p :: V,[],_,_,h=>by simp at h
 | p :: V,q :: W,hv,hw,h=>by
  simp only [List.flatMap_cons,List.cons_append,List.cons.injEq] at h
  obtain ⟨h1,h2,h3⟩:=h
  obtain ⟨h4,h5⟩:=NX h3 (by omega)
  have h6:=IE (hv p List.mem_cons_self) (hw q List.mem_cons_self) h4
  have h7:=KZ (fun p hp=>hv p (gEf _ hp)) (fun p hp=>hw p (gEf _ hp)) h5
  rw [h7]
  congr 1
  exact Prod.ext h1 h6
theorem Qg {x y:Int} {s t:Nat} {V W:List (Int × Nat)} (hs:s<2 ^ 64) (ht:t<2 ^ 64) (hV:∀ p∈V,p.2<2 ^ 64) (hW:∀ p∈W,p.2<2 ^ 64) (h:FM x s V=FM y t W):x=y/\s=t/\V=W:=by
 unfold FM at h
 simp only [List.cons.injEq] at h
 obtain ⟨h1,h2,h3⟩:=h
 obtain ⟨h4,h5⟩:=NX h3 (by omega)
 exact ⟨h1,IE hs ht h4,KZ hV hW h5⟩
def RT (X:List (List Ar)) (cl:List Int) (c i:Nat):Prop:=∃ u,u<X.length/\Rc (WP true X) c u/\cl.getD u 0=(i:Int)
def RV (X:List (List Ar)) (cl:List Int) (c:Nat) (e:Int) (i:Nat):Prop:=e ≠ 0/\∃ u,u<X.length/\Rc (WP true X) c u/\∃ a∈X.getD u [],a.1=e/\RT X cl a.2.toNat i
theorem Ss {n:Nat} {B:List Bool} {x:Int}:x∈rL n B↔∃ i,i<n/\Bu B i=true/\x=(i:Int):=by
 unfold rL
 simp only [List.mem_map,List.mem_filter,List.mem_range]
 constructor
 ·rintro ⟨i,⟨h1,h2⟩,rfl⟩;exact ⟨i,h1,h2,rfl⟩
 rintro ⟨i,h1,h2,rfl⟩;exact ⟨i,⟨h1,h2⟩,rfl⟩
theorem NY {R:List (List Ar)} {s:Nat} {e x:Int}:x∈XI R s e↔∃ u,u<R.length/\WA R s e u/\x=(u:Int):=by
 obtain ⟨B,_,h2,h3⟩:=Rh R s e
 rw [h2,Ss]
 constructor
 ·rintro ⟨i,h4,h5,h6⟩;exact ⟨i,h4,(h3 i h4).1 h5,h6⟩
 rintro ⟨i,h4,h5,h6⟩;exact ⟨i,h4,(h3 i h4).2 h5,h6⟩
theorem EJ {X:List (List Ar)} (hv:Bv X=true) {u:Nat} (hu:u<X.length) {a:Ar} (ha:a∈X.getD u []):0<=a.1/\a.1<=1025/\0<=a.2/\a.2.toNat<X.length:=by
 have hlo:BE X=true:=gEg (gE4 hv).1
 rw [gE2,gE1 hu,Option.getD_some] at ha
 have:=(gE4 hlo).2.2.2 _ (gE6 hu) a ha
 exact ⟨this.1,by omega,this.2.2.1,by omega⟩
theorem EK {X:List (List Ar)} (hv:Bv X=true) {s:Nat} (hs:s<X.length) {a:Ar}:a∈(C9 X).getD s []↔∃ u,u<X.length/\WA X s a.1 u/\a.2=(u:Int):=by
 have hlo:BE X=true:=gEg (gE4 hv).1
 have hE:=Cw true hlo
 have hg:(C9 X).getD s []=XL X (Xn X X.length) s:=by simp [C9,XM,gE2,hs]
 have hev:=Iz (R:=X) (fun r hr a ha=>by have:=(gE4 hlo).2.2.2 r hr a ha;omega) X.length (Nat.le_refl _)
 rw [List.take_length] at hev
 rw [hg]
 unfold XL XK
 rw [List.take_length,List.mem_flatMap]
 constructor
 ·rintro ⟨e,he,h⟩
  obtain ⟨x,hx,rfl⟩:=List.mem_map.1 h
  exact NY.1 hx
 rintro ⟨u,hu,h1,h2⟩
 have hmem:a.1∈Xn X X.length:=by
  rcases h1 with ⟨h,_⟩ | ⟨_,t,ht,b,hb,h4,_⟩
  ·rw [h];exact hev.2.2.1
  have htl:=ht.lt hs hE
  rw [gE2,gE1 htl,Option.getD_some] at hb
  rw [<- h4]
  exact hev.2.2.2 _ (gE6 htl) b hb
 exact ⟨a.1,hmem,List.mem_map.2 ⟨a.2,NY.2 ⟨u,hu,h1,h2⟩,rfl⟩⟩
theorem Fe {X:List (List Ar)} (hv:Bv X=true) {cl:List Int} {s:Nat} (hs:s<X.length) (i:Nat):((0:Int),(i:Int))∈Xi (C9 X) cl s↔RT X cl s i:=by
 rw [DG]
 constructor
 rotate_left
 ·rintro ⟨u,hu,h1,h2⟩
  exact ⟨(0,(u:Int)),(EK hv hs).2 ⟨u,hu,.inl ⟨rfl,h1⟩,rfl⟩,by show (_,_)=(_,cl.getD ((u:Int)).toNat 0);rw [Int.toNat_natCast,h2]⟩
 rintro ⟨a,ha,e⟩
 obtain ⟨u,hu,h1,h2⟩:=(EK hv hs).1 ha
 simp only [Prod.mk.injEq] at e
 obtain ⟨e1,e2⟩:=e
 rcases h1 with ⟨_,h1⟩ | ⟨h1,_⟩
 rotate_left
 ·exact absurd e1.symm h1
 refine ⟨u,hu,h1,?_⟩
 rw [e2,h2];simp
theorem Ff {X:List (List Ar)} (hv:Bv X=true) {cl:List Int} {s:Nat} (hs:s<X.length) {e:Int} (he:e ≠ 0) (i:Nat):(e,(i:Int))∈Xi (C9 X) cl s↔RV X cl s e i:=by
 have hlo:BE X=true:=gEg (gE4 hv).1
 have hE:=Cw true hlo
 rw [DG]
 constructor
 rotate_left
 ·rintro ⟨_,t,htl,ht,b,hb,h3,u,hu,h4,h5⟩
  exact ⟨(e,(u:Int)),(EK hv hs).2 ⟨u,hu,.inr ⟨he,t,ht,b,hb,h3,h4⟩,rfl⟩,by show (_,_)=(_,cl.getD ((u:Int)).toNat 0);rw [Int.toNat_natCast,h5]⟩
 rintro ⟨a,ha,e0⟩
 obtain ⟨u,hu,h1,h2⟩:=(EK hv hs).1 ha
 simp only [Prod.mk.injEq] at e0
 obtain ⟨e1,e2⟩:=e0
 rcases h1 with ⟨h1,_⟩ | ⟨h1,t,ht,b,hb,h3,h4⟩
 ·exact absurd (e1.trans h1) he
 exact ⟨he,t,ht.lt hs hE,ht,b,hb,h3.trans e1.symm,u,hu,h4,by rw [e2,h2];simp⟩
theorem NZ {X:List (List Ar)} (hv:Bv X=true) {cl:List Int} (hc:Nrm X.length cl) {s:Nat} (hs:s<X.length) {x:Ar} (hx:x∈Xi (C9 X) cl s):∃ i:Nat,i<X.length/\x.2=(i:Int):=by
 obtain ⟨a,ha,rfl⟩:=DG.1 hx
 obtain ⟨u,hu,_,h2⟩:=(EK hv hs).1 ha
 have hcl:=hc.len
 have hm:cl.getD u 0∈cl:=by rw [gE2,gE1 (by omega)];exact gE6 _
 have:=hc.rng _ hm
 simp only [h2,Int.toNat_natCast]
 exact ⟨(cl.getD u 0).toNat,by omega,by omega⟩
structure KeyOf (X:List (List Ar)) (cl:List Int) (s:Nat) (L:List Int):Prop where
 ex:∃ (t:Nat) (V:List (Int × Nat)),L=FM (cl.getD s 0) t V/\WS t (RT X cl s)/\WI (V.map (·.1))/\(∀ p∈V,(0<=p.1/\p.1<=1025)/\WS p.2 (RV X cl s p.1)/\∃ i,RV X cl s p.1 i)/\∀ e i,RV X cl s e i->e∈V.map (·.1)
theorem UY {X:List (List Ar)} (_hv:Bv X=true) {cl:List Int} (hc:Nrm X.length cl) {s:Nat} {e:Int} {i:Nat} (h:RV X cl s e i):i<X.length:=by
 obtain ⟨_,_,_,_,_,_,_,u,hu,_,h2⟩:=h
 have hcl:=hc.len
 have hm:cl.getD u 0∈cl:=by rw [gE2,gE1 (by omega)];exact gE6 _
 have:=hc.rng _ hm
 omega
theorem KeyOf.iff {X:List (List Ar)} (hv:Bv X=true) (hn:X.length<=64) {cl:List Int} (hc:Nrm X.length cl) {s t:Nat} (hs:s<X.length) (ht:t<X.length) {L M:List Int} (h1:KeyOf X cl s L) (h2:KeyOf X cl t M):L=M↔Xj (C9 X) cl s=Xj (C9 X) cl t:=by
 obtain ⟨τ,V,rfl,a1,a2,a3,a4⟩:=h1.ex
 obtain ⟨σ,W,rfl,b1,b2,b3,b4⟩:=h2.ex
 unfold Xj
 constructor
 rotate_left
 ·intro h
  simp only [Prod.mk.injEq] at h
  obtain ⟨c1,c2⟩:=h
  have et:∀ i,RT X cl s i↔RT X cl t i:=fun i=>by rw [<- Fe hv hs,<- Fe hv ht,c2]
  have ev:∀ e i,RV X cl s e i↔RV X cl t e i:=fun e i=>by
   by_cases he:e=0
   rotate_left
   ·rw [<- Ff hv hs he,<- Ff hv ht he,c2]
   constructor
   ·rintro ⟨h,_⟩;exact absurd he h
   rintro ⟨h,_⟩;exact absurd he h
  have e1:τ=σ:=a1.uniq b1 fun i _=>et i
  have e2:V.map (·.1)=W.map (·.1):=by
   refine Jc a2 b2 fun e=>?_
   constructor
   ·intro he
    obtain ⟨p,hp,rfl⟩:=List.mem_map.1 he
    obtain ⟨i,hi⟩:=(a3 p hp).2.2
    exact b4 _ i ((ev _ i).1 hi)
   intro he
   obtain ⟨p,hp,rfl⟩:=List.mem_map.1 he
   obtain ⟨i,hi⟩:=(b3 p hp).2.2
   exact a4 _ i ((ev _ i).2 hi)
  have e3:V=W:=by
   have hl:V.length=W.length:=by have:=congrArg List.length e2;simpa using this
   refine List.ext_getElem hl fun j h1 h2=>?_
   have hj:V[j].1=W[j].1:=by
    have h3:(V.map (·.1))[j]?=(W.map (·.1))[j]?:=by rw [e2]
    simpa [h1,h2] using h3
   refine Prod.ext hj ((a3 _ (gE6 h1)).2.1.uniq (b3 _ (gE6 h2)).2.1 fun i _=>?_)
   rw [hj];exact ev _ i
  rw [c1,e1,e3]
 intro h
 obtain ⟨c1,c2,c3⟩:=Qg a1.1 b1.1 (fun p hp=>(a3 p hp).2.1.1) (fun p hp=>(b3 p hp).2.1.1) h
 subst c2;subst c3
 refine Prod.ext c1 ?_
 refine Cg (B9 _) (B9 _) fun x=>?_
 show x∈Xi (C9 X) cl s↔x∈Xi (C9 X) cl t
 have key:∀ u,u<X.length->u=s\/u=t->(x∈Xi (C9 X) cl u↔∃ i:Nat,i<64/\x.2=(i:Int)/\((x.1=0/\τ.testBit i=true)\/(x.1 ≠ 0/\∃ w,(x.1,w)∈V/\w.testBit i=true))):=by
  intro u hu hst
  have wt:WS τ (RT X cl u):=by rcases hst with rfl | rfl <;> assumption
  have wv:∀ p∈V,WS p.2 (RV X cl u p.1):=fun p hp=>by
   rcases hst with rfl | rfl
   ·exact (a3 p hp).2.1
   exact (b3 p hp).2.1
  have wc:∀ e i,RV X cl u e i->e∈V.map (·.1):=by rcases hst with rfl | rfl <;> assumption
  obtain ⟨e,y⟩:=x
  constructor
  rotate_left
  ·rintro ⟨i,hi,hy,h⟩
   simp only at hy h
   subst hy
   rcases h with ⟨rfl,h⟩ | ⟨he,w,hw,h⟩
   ·exact (Fe hv hu i).2 ((wt.2 i hi).1 h)
   exact (Ff hv hu he i).2 (((wv _ hw).2 i hi).1 h)
  intro hx
  obtain ⟨i,hi,hy⟩:=NZ hv hc hu hx
  simp only at hy ⊢
  subst hy
  refine ⟨i,by omega,rfl,?_⟩
  by_cases he:e=0
  ·subst he
   exact .inl ⟨rfl,(wt.2 i (by omega)).2 ((Fe hv hu i).1 hx)⟩
  have hr:=(Ff hv hu he i).1 hx
  obtain ⟨p,hp,e1⟩:=List.mem_map.1 (wc e i hr)
  refine .inr ⟨he,p.2,?_,((wv p hp).2 i (by omega)).2 (by rw [e1];exact hr)⟩
  rw [<- e1];exact hp
 rw [key s hs (.inl rfl),key t ht (.inr rfl)]
end Go.Proofs.YtjijjfkalheokaaGreatDoor
