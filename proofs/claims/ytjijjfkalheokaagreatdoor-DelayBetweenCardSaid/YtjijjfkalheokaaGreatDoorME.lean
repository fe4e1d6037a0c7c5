/- Lemmas. -/
import Derived.Test.YtjijjfkalheokaaGreatDoorMD
import Derived.Test.YtjijjfkalheokaaGreatDoorRegn
namespace Go.Proofs.YtjijjfkalheokaaGreatDoor
set_option linter.unusedVariables false
set_option linter.unusedSimpArgs false
open Go.RowKit

section
variable {P : Program} {ops : Array Oper} {Q : Exit -> Act -> World -> Prop} {md : Region.Mode} {S : World -> Prop} {stop : Nat}
def VY (P:Program) (ops:Array Oper) (Q:Exit->Act->World->Prop) (S:World->Prop) (stop:Nat):Bool->List (Nat × Nat)->Act->World->Prop
 | _,[],a,w=>Q .normal a w
 | past,(i,0) :: rest,a,w=>∃ oi v,ops[i]?=some oi/\YieldsIf P ops (fun _=>True) oi v a/\VY P ops Q S stop past rest (a.put oi.dst v) w
 | past,(i,1) :: rest,a,w=>∃ oi v,ops[i]?=some oi/\YieldsIf P ops S oi v a/\VY P ops Q S stop past rest (a.put oi.dst v) w
 | past,(i,_) :: rest,a,w=>wpOp P ops Q i (fun a' w'=>((past || i == stop)=true\/S w')/\VY P ops Q S stop (past || i == stop) rest a' w') a w
def OU (md:Region.Mode) (ops:Array Oper) (stop:Nat):List (Nat × Nat)->Array Bool->Bool
 | [],listed=>(Region.ready md ops listed).isEmpty
 | (i,0) :: rest,listed=>Region.free md ops listed i && (Region.ready md ops listed).contains i && i != stop && OU md ops stop rest (listed.setIfInBounds i true)
 | (i,1) :: rest,listed=>Region.free md ops listed i && (Region.ready md ops listed).contains i && (I9 md ops ops.size stop).contains i && i != stop && OU md ops stop rest (listed.setIfInBounds i true)
 | (i,_) :: rest,listed=>(Region.ready md ops listed == [i]) && decide (i<listed.size) && OU md ops stop rest (listed.setIfInBounds i true)
theorem Ew {i:Nat} {oi:Oper} {v:Value} {S1:World->Prop} (hi:ops[i]?=some oi) (hsel:∀ (j:Nat) (o:Oper) cs b,ops[j]?=some o->o.op ≠ .select cs b)
  (hQ:∀ c (a:Act) (d:Option Tmp) (v:Value) w,Q (.panic c) (a.put d v) w->Q (.panic c) a w) (hst:i ≠ stop)
  (hS:∀ (listed:Array Bool) (w:World),Closed md ops listed->i∈Region.ready md ops listed->Ph S stop listed w->S1 w):
  ∀ (fuel:Nat) (listed:Array Bool) (a:Act) (w:World),Closed md ops listed->
   (∀ j oj,ops[j]?=some oj->j ≠ i->listed.getD j true=false->(∀ e∈oj.after,Region.binds md e=true->e.on ≠ i)->oi.apart ops oj=true)->
   i∈Region.ready md ops listed->YieldsIf P ops S1 oi v a->Ph S stop listed w->
   I8 P md ops Q S stop fuel (listed.setIfInBounds i true) (a.put oi.dst v) w->I8 P md ops Q S stop (fuel+1) listed a w:=by
 have hPh:∀ (listed:Array Bool) (w:World),Ph S stop (listed.setIfInBounds i true) w->Ph S stop listed w:=by
  intro listed w h
  rcases h with h | h
  ·left;rwa [getD_set_ne false hst] at h
  exact .inr h
 have hPh':∀ (listed:Array Bool) (w:World),Ph S stop listed w->Ph S stop (listed.setIfInBounds i true) w:=by
  intro listed w h
  rcases h with h | h
  ·left;rwa [getD_set_ne false hst]
  exact .inr h
 intro fuel
 induction fuel with
 | zero=>
  intro listed a w hcl _ hr hy hp H
  refine ⟨fun h=>(by rw [h] at hr;cases hr),fun j hj=>?_⟩
  by_cases hji:j=i
  ·subst hji;exact hy.wpOp hi (hS listed w hcl hr hp) ⟨hPh' _ _ hp,H⟩
  have:=ready_mono hj hji
  rw [H.1] at this
  cases this
 | succ fuel ih=>
  intro listed a w hcl hfree hr hy hp H
  refine ⟨fun h=>(by rw [h] at hr;cases hr),fun j hj=>?_⟩
  by_cases hji:j=i
  ·subst hji;exact hy.wpOp hi (hS listed w hcl hr hp) ⟨hPh' _ _ hp,H⟩
  have h1:=H.2 j (ready_mono hj hji)
  obtain ⟨hjun,oj,hoj,hall⟩:=mem_ready.1 hj
  have hnot:∀ e∈oj.after,Region.binds md e=true->e.on ≠ i:=fun e he hb heq=>by
   have h1:=hall e he hb
   rw [heq,FZ (mem_ready.1 hr).1] at h1
   cases h1
  have h2:=wpOp_putIf hoj (hfree j oj hoj hji hjun hnot) (fun cs b=>hsel i oi cs b hi) (fun cs b=>hsel j oj cs b hoj) (fun c a w h=>hQ c a _ _ w h) hy h1
  have hfree':∀ k ok,ops[k]?=some ok->k ≠ i->(listed.setIfInBounds j true).getD k true=false->
    (∀ e∈ok.after,Region.binds md e=true->e.on ≠ i)->oi.apart ops ok=true:=fun k ok hk hki hun hno=>by
   refine hfree k ok hk hki ?_ hno
   by_cases hjk:j=k
   ·subst hjk;exact hjun
   ·rw [getD_set_ne true hjk] at hun;exact hun
  refine wpOp_mono (fun a' w' h3=>?_) h2
  have hc:=h3.2.1
  rw [Array.setIfInBounds_comm _ _ (Ne.symm hji)] at hc
  have hp':=hPh _ _ hc
  refine ⟨hp',ih (listed.setIfInBounds j true) a' w' (hcl.step hj) hfree' (ready_mono hr (Ne.symm hji)) h3.1 hp' ?_⟩
  rw [Array.setIfInBounds_comm _ _ hji]
  exact h3.2.2
theorem Dh (hs:Region.noSelect ops=true) (hQ:∀ c (a:Act) (d:Option Tmp) (v:Value) w,Q (.panic c) (a.put d v) w->Q (.panic c) a w):
  ∀ (l:List (Nat × Nat)) (past:Bool) (listed:Array Bool) (a:Act) (w:World),Closed md ops listed->OU md ops stop l listed=true->(past=true->listed.getD stop false=true)->Ph S stop listed w->VY P ops Q S stop past l a w->I8 P md ops Q S stop l.length listed a w
 | [],past,listed,a,w,_,hc,_,_,h=>by
  simp only [OU,List.isEmpty_iff] at hc
  exact ⟨hc,h⟩
 | (i,0) :: rest,past,listed,a,w,hcl,hc,hpast,hp,h=>by
  simp only [OU,Bool.and_eq_true,bne_iff_ne,ne_eq,List.contains_eq_mem,decide_eq_true_eq] at hc
  obtain ⟨⟨⟨hf,hr⟩,hne⟩,hrest⟩:=hc
  obtain ⟨oi,v,hi,hy,hT⟩:=h
  have hp':Ph S stop (listed.setIfInBounds i true) w:=by
   rcases hp with hp | hp
   ·left;rwa [getD_set_ne false hne]
   ·exact .inr hp
  exact Ew (S1:=fun _=>True) hi (Region.noSelect_spec hs) hQ hne (fun _ _ _ _ _=>trivial) rest.length listed a w hcl (Region.free_spec hi hf) hr hy hp
   (Dh hs hQ rest past _ _ w (hcl.step hr) hrest (fun e=>by rw [getD_set_ne false hne];exact hpast e) hp' hT)
 | (i,1) :: rest,past,listed,a,w,hcl,hc,hpast,hp,h=>by
  simp only [OU,Bool.and_eq_true,bne_iff_ne,ne_eq,List.contains_eq_mem,decide_eq_true_eq] at hc
  obtain ⟨⟨⟨⟨hf,hr⟩,hd⟩,hne⟩,hrest⟩:=hc
  obtain ⟨oi,v,hi,hy,hT⟩:=h
  have hp':Ph S stop (listed.setIfInBounds i true) w:=by
   rcases hp with hp | hp
   ·left;rwa [getD_set_ne false hne]
   ·exact .inr hp
  refine Ew (S1:=S) hi (Region.noSelect_spec hs) hQ hne ?_ rest.length listed a w hcl (Region.free_spec hi hf) hr hy hp
   (Dh hs hQ rest past _ _ w (hcl.step hr) hrest (fun e=>by rw [getD_set_ne false hne];exact hpast e) hp' hT)
  intro listed w hcl hr hp
  rcases hp with hp | hp
  ·have h1:=hcl.deps ops.size stop hp i hd
   rw [FZ (mem_ready.1 hr).1] at h1
   cases h1
  ·exact hp
 | (i,k+2) :: rest,past,listed,a,w,hcl,hc,hpast,hp,h=>by
  simp only [OU,Bool.and_eq_true,beq_iff_eq,decide_eq_true_eq] at hc
  obtain ⟨⟨hr,hlt⟩,hrest⟩:=hc
  refine ⟨fun h0=>absurd (h0 ▸ hr) (by simp),fun j hj=>?_⟩
  have hji:j=i:=by rw [hr] at hj;simpa using hj
  subst hji
  have h:wpOp P ops Q j (fun a' w'=>((past || j == stop)=true\/S w')/\VY P ops Q S stop (past || j == stop) rest a' w') a w:=h
  have hpast':(past || j == stop)=true->(listed.setIfInBounds j true).getD stop false=true:=by
   intro e
   simp only [Bool.or_eq_true,beq_iff_eq] at e
   rcases e with e | e
   ·by_cases hjs:j=stop
    ·subst hjs;simp [hlt]
    ·rw [getD_set_ne false hjs];exact hpast e
   ·subst e;simp [hlt]
  refine wpOp_mono (fun a' w' h'=>?_) h
  have hp':Ph S stop (listed.setIfInBounds j true) w':=by
   rcases h'.1 with h0 | h0
   ·exact .inl (hpast' h0)
   ·exact .inr h0
  exact ⟨hp',Dh hs hQ rest _ _ a' w' (hcl.step hj) hrest hpast' hp' h'.2⟩
theorem J7 {id:Nat} {a:Act} {w:World} (S:World->Prop) (stop:Nat) (l:List (Nat × Nat)) (hm:P.follows .mixedOrders=true)
  (hs:(Region.noSelect ops && OU .any ops stop l (Array.replicate ops.size false) && (l.length == ops.size))=true)
  (hQ:∀ c (a:Act) (d:Option Tmp) (v:Value) w,Q (.panic c) (a.put d v) w->Q (.panic c) a w) (hS:S w.drew) (h:VY P ops Q S stop false l a w.drew):(Code.region id ops true).wp P Q a w:=by
 simp only [Bool.and_eq_true,beq_iff_eq] at hs
 obtain ⟨⟨hs,hc⟩,hl⟩:=hs
 refine wp_region_any hm (GK (S:=S) (stop:=stop) _ _ _ _ ?_)
 rw [<- hl]
 refine Dh hs hQ l false _ a w.drew ?_ (by rw [hl];exact hc) (by simp) (.inr hS) h
 intro j o hj hlist
 exfalso
 simp [Array.getElem?_replicate] at hlist
 split at hlist <;> simp at hlist
end

/-! .. abstractly -/
def UB (P:Program) (o:Oper) (st:ST) (K:ST->Prop):Prop:=
 ∀ (M0:Fm) (w0:World) (a:Act) (w:World) (N:Act->World->Prop) (Q:Exit->Act->World->Prop),Rel M0 w0 st a w->(∀ st' a' w',K st'->Rel M0 w0 st' a' w'->Fp (fun _=>False) w w'->N a' w')->o.wp P a w N Q
def CU (P:Program) (ops:Array Oper) (stop:Nat) (eff past:Bool) (l:List (Nat × Nat)) (st:ST) (K:ST->Prop):Prop:=
 ∀ (M0:Fm) (w0:World) (a:Act) (w w1:World) (Q:Exit->Act->World->Prop),(eff=false->w=w1)->(past=false->Fp (fun _=>False) w1 w)->Rel M0 w0 st a w->(∀ st' a' w',K st'->Rel M0 w0 st' a' w'->Q .normal a' w')->
  VY P ops Q (fun W=>Fp (fun _=>False) w1 W) stop past l a w
section
variable {P : Program} {ops : Array Oper} {o : Oper} {st : ST} {K : ST -> Prop} {stop i : Nat} {eff past : Bool} {rest : List (Nat × Nat)}
theorem H9 (h:K st):CU P ops stop eff past [] st K:=fun _ _ _ _ _ _ _ _ hR hN=>hN _ _ _ h hR
theorem VZ (hi:ops[i]?=some o) (hg:o.guard=none) (hd:VJ o st.n=true) (h:∀ K':ST->Prop,(∀ st',CU P ops stop eff past rest st' K->K' st')->VK P o st K'):CU P ops stop eff past ((i,0) :: rest) st K:=by
 intro M0 w0 a w w1 Q he hp hR hN
 have h:=h (fun st'=>CU P ops stop eff past rest st' K) (fun _ h=>h)
 obtain ⟨g,hpp,hR⟩:=hR
 unfold VK at h
 split at h
 rotate_left
 ·exact h.elim
 rename_i c x hop
 obtain ⟨v,h1,h2⟩:=FT (P:=P) (ρ:=a.eval) (ev:=st.ev) hR.ev hop h.1
 exact ⟨o,v,hi,.inl ⟨by simp [Region.wanted,hg],fun W _=>h1 W⟩,h.2 M0 w0 _ w w1 Q he hp ⟨g,by cases o.dst <;> exact hpp,hR.put (B3 hd) h2⟩ hN⟩
theorem W0 (hi:ops[i]?=some o) (hg:o.guard=none) (hd:VJ o st.n=true) (h:∀ K':ST->Prop,(∀ st',CU P ops stop false past rest st' K->K' st')->VM P o st K'):CU P ops stop false past ((i,1) :: rest) st K:=by
 intro M0 w0 a w w1 Q he hp hR hN
 have h:=h (fun st'=>CU P ops stop false past rest st' K) (fun _ h=>h)
 obtain ⟨g,hpp,hR⟩:=hR
 unfold VM at h
 split at h
 rotate_left
 ·exact h.elim
 rename_i c x hop
 obtain ⟨v,h1,h2⟩:=H6 (P:=P) hR.hr hR.ev hop h.1
 have hw:=he rfl
 subst hw
 exact ⟨o,v,hi,.inl ⟨by simp [Region.wanted,hg],fun W hW=>h1 W hW⟩,h.2 M0 w0 _ w w Q he hp ⟨g,by cases o.dst <;> exact hpp,hR.put (B3 hd) h2⟩ hN⟩
theorem W1 {k:Nat} (hi:ops[i]?=some o) (hg:o.guard=none) (hns:(past || i == stop)=true) (h:∀ K':ST->Prop,(∀ st',CU P ops stop true true rest st' K->K' st')->Stp P o st K'):CU P ops stop eff past ((i,k+2) :: rest) st K:=by
 intro M0 w0 a w w1 Q he hp hR hN
 show wpOp P ops Q i _ a w
 unfold wpOp
 rw [hi]
 simp only [Region.wanted,hg,if_true,hns]
 exact .inl (h (fun st'=>CU P ops stop true true rest st' K) (fun _ h=>h) M0 w0 a w _ Q hR fun st' a' w' h1 h2=>⟨.inl trivial,h1 M0 w0 a' w' w1 Q (by simp) (by simp) h2 hN⟩)
theorem Rel.drew {M0:Fm} {w0 w:World} {st:ST} {a:Act} (h:Rel M0 w0 st a w):Rel M0 w0 st a w.drew:=by
 obtain ⟨g,hpp,hR⟩:=h
 have hm:Mo g st.hp w g st.hp w.drew (fun _=>True):=⟨fun i hi=>⟨hi,rfl,rfl⟩,fun _ _ h=>h,Nat.le_refl _,fun _ _ _=>rfl,fun i _ _ r' j k cs e1 e2=>⟨r',e1,e2,fun _=>rfl⟩⟩
 refine ⟨g,hpp,?_⟩
 have:=hR.mo (hp':=st.hp) hm ⟨hR.hr.ml,hR.hr.md,hR.hr.inj,fun id r e=>RowR.mo hm e (hR.hr.row id r e) (fun _=>rfl) (fun _ _ _ _ _=>⟨rfl,rfl⟩),fun id kv e=>MpR.mo hm e (hR.hr.mp id kv e) rfl,hm.gl hR.hr.gl⟩ hR.new (hR.fp.trans (Fp.drew _ _))
 exact this
theorem Ac {Q:Exit->ST->Prop} {id:Nat} {l:List Oper} (stop:Nat) (ks:List (Nat × Nat)) (hm:P.follows .mixedOrders=true)
  (hs:(Region.noSelect l.toArray && OU .any l.toArray stop ks (Array.replicate l.toArray.size false) && (ks.length == l.toArray.size))=true)
  (hQ:∀ c st,¬ Q (.panic c) st) (h:CU P l.toArray stop false false ks st (Q .normal)):AW P (.region id l.toArray true) st Q:=by
 intro M0 w0 a w hR
 refine J7 (fun W=>Fp (fun _=>False) w.drew W) stop ks hm hs (fun c a d v w ⟨st',_,h⟩=>(hQ c st' h).elim) (Fp.refl _ _) ?_
 exact h M0 w0 a w.drew w.drew _ (fun _=>rfl) (fun _=>Fp.refl _ _) hR.drew fun st' a' w' h1 h2=>⟨st',h2,h1⟩
theorem Bx (hd:VJ o st.n=true) (h:VN P o st K):UB P o st K:=by
 intro M0 w0 a w N Q hR hN
 obtain ⟨g,⟨hp1,hp2⟩,hR⟩:=hR
 unfold VN at h
 split at h
 rotate_left
 ·exact h.elim
 rename_i c ob f hop
 obtain ⟨v,w',h1,g',hx,hx2,h2,h3⟩:=Mm (P:=P) hR hop h.1
 unfold Oper.wp
 rw [h1]
 exact hN _ _ _ h.2 ⟨g',⟨by cases o.dst <;> (simp [ST.put];omega),by cases o.dst <;> exact hp2.trans (hx.le hp1)⟩,h2.put (B3 hd) h3⟩ hx2
end
/-! the builtin clear, at a window -/
theorem Mw {P : Program} {o : Oper} {st : ST} {K : ST -> Prop} {t e : TypeId} {x : Operand} {z : Ty} {id off n k : Nat} {r : Row} (hd : VJ o st.n = true) (ho : o.op = .call ⟨.builtin .clear, #[x], #[t]⟩) (ht : P.underlying t = some (.slice e)) (hz : tyOf P e = some z)
  (hx : st.ev x = .a (.c (.w id off n k))) (hrow : st.hp[id]? = some (.r r)) (hn : 0 < n) (hlen : z.zero.length = k) (hone : (z.zero.map C.v).all C.one = true) (hfit : off * k + n * k <= r.cells.length)
  (h : ∀ zs : List C, zs.length = n * k -> (∀ c ∈ zs, c ∈ z.zero.map C.v) -> K ({ st with hp := st.hp.set id (.r { r with cells := DJ r.cells (off * k) zs }) }.put o.dst .u)) : Stp P o st K := by
 intro M0 w0 a w N Q hR hN
 obtain ⟨g, ⟨hp1, hp2⟩, hR⟩ := hR
 have hv := hR.ev x
 rw [hx] at hv
 obtain ⟨b1, b2, b3, b4⟩ := hv
 obtain ⟨zv, z1, z2⟩ := tyOf.zero hz w
 have hzs : zv.cells.size = k := by rw [<- hlen, <- z2]; simp
 let us := (Builtin.zeroCells zv.cells n).toList
 have hul : us.length = n * k := by simp [us, size_zeroCells, hzs]
 have hum : ∀ u ∈ us, u ∈ z.zero := by
  intro u hu
  have hu' : u ∈ Builtin.zeroCells zv.cells n := by simpa [us] using hu
  simp only [Builtin.zeroCells, Array.mem_map, Array.mem_range] at hu'
  obtain ⟨i, hi, rfl⟩ := hu'
  by_cases hk : k = 0
  ·rw [hzs, hk] at hi; simp at hi
  have hm : i % zv.cells.size < zv.cells.size := Nat.mod_lt _ (by omega)
  rw [<- z2]
  simp [hm]
 have hcm : ∀ c ∈ us.map C.v, c ∈ z.zero.map C.v := by
  intro c hc
  obtain ⟨u, hu, rfl⟩ := List.mem_map.1 hc
  exact List.mem_map.2 ⟨u, hum u hu, rfl⟩
 obtain ⟨w', r1, r2⟩ := BI (P := P) (off := off * k) (by omega) (us.map C.v) us 0 st w r hR hrow
  ⟨by simp, fun i c hc => by
   rw [List.getElem?_map, Option.map_eq_some_iff] at hc
   obtain ⟨u, hu, rfl⟩ := hc
   exact ⟨u, hu, rfl⟩⟩
  (by rw [List.all_eq_true] at hone ⊢; exact fun c hc => hone c (hcm c hc)) (by simp only [List.length_map, hul]; omega)
 have hrun : (execOp a.eval o).run P w = .ok (.value (.tuple #[])) w' := by
  obtain ⟨m, rfl⟩ : ∃ m, n = m + 1 := ⟨n - 1, by omega⟩
  simp only [us] at r1
  unfold execOp
  simp only [ho, resolve, invoke, builtin, Sem.run_bind, Sem.run_pure, Result.andThen_ok, List.map_toArray, List.map_cons, List.map_nil, b4]
  simp [Builtin.clear_, run_underlying ht, z1, r1]
 unfold Oper.wp
 rw [hrun]
 exact hN _ _ _ (h (us.map C.v) (by simp [hul]) hcm) ⟨g, ⟨by cases o.dst <;> (simp [ST.put]; omega), by cases o.dst <;> exact hp2⟩, RelG.put (st := { st with hp := st.hp.set id (.r { r with cells := DJ r.cells (off * k) (us.map C.v) }) }) r2 (B3 hd) trivial⟩
theorem AD {a b:Prop} (h:b) (p:a:=by first | omega | (simp;done) | (simp;omega)):a/\b:=⟨p,h⟩
end Go.Proofs.YtjijjfkalheokaaGreatDoor
namespace Go.Proofs.YtjijjfkalheokaaGreatDoor
set_option linter.unusedVariables false
set_option linter.unusedSimpArgs false
open Go.RowKit

end Go.Proofs.YtjijjfkalheokaaGreatDoor
namespace Go.Proofs.YtjijjfkalheokaaGreatDoor
set_option linter.unusedVariables false
set_option linter.unusedSimpArgs false
open Go.RowKit

section
variable {P : Program} {ops : Array Oper} {o : Oper} {st : ST} {K : ST -> Prop} {stop i j d : Nat} {eff past want : Bool} {rest : List (Nat × Nat)}
theorem G0 {g:Gh} {M0:Nat->Prop} {w0 w:World} {a:Act} (hg:o.guard=some (j,want)) (hj:(ops[j]?).bind (·.dst)=some d) (ht:st.get d=.b want) (hR:RelG g M0 w0 st a w):Region.wanted o (yielded ops a.tmps)=true:=by
 have hy:yielded ops a.tmps j=some want:=by
  unfold yielded
  rw [hj]
  have:=hR.tm d
  rw [ht] at this
  have hv:a.tmps.getD d undef=.bool want:=this
  simp only [Option.bind_some]
  rw [Array.getD_eq_getD_getElem?] at hv
  cases hd:a.tmps[d]? with
  | none=>rw [hd] at hv;cases hv
  | some v=>rw [hd] at hv;simp at hv;subst hv;rfl
 unfold Region.wanted
 rw [hg]
 simp only [hy]
 cases want <;> rfl
theorem GL {g:Gh} {M0:Nat->Prop} {w0 w:World} {a:Act} {v:Value} (hg:o.guard=some (j,want)) (hj:(ops[j]?).bind (·.dst)=some d) (ht:st.get d=.a (.c (.v v))) (hv:v ≠ .bool want) (hR:RelG g M0 w0 st a w):Region.wanted o (yielded ops a.tmps)=false:=by
 unfold Region.wanted
 rw [hg]
 have:=hR.tm d
 rw [ht] at this
 have hx:a.tmps.getD d undef=v:=this
 rw [Array.getD_eq_getD_getElem?] at hx
 have hy:yielded ops a.tmps j ≠ some want:=by
  unfold yielded
  rw [hj]
  simp only [Option.bind_some]
  cases hq:a.tmps[d]? with
  | none=>simp
  | some u=>
   rw [hq] at hx
   simp only [Option.getD_some] at hx
   subst hx
   intro e
   split at e
   rotate_left
   ·cases e
   rename_i b hb
   simp only [Option.some.injEq] at hb e
   subst e
   exact hv hb
 simpa using hy
theorem Mx {r:List Oper} {v:Value} (hg:o.guard=some (j,want)) (hj:(ops[j]?).bind (·.dst)=some d) (ht:st.get d=.a (.c (.v v))) (hv:v ≠ .bool want) (hd:VJ o st.n=true)
  (h:VQ P ops r (st.put o.dst (.a (.c (.v undef)))) K):VQ P ops (o :: r) st K:=by
 intro M0 w0 a w Q hR hN
 obtain ⟨g,hpp,hR'⟩:=hR
 refine wpList_step fun K' hK'=>?_
 rw [GL hg hj ht hv hR']
 exact hK' _ _ (h M0 w0 _ w Q ⟨g,by cases o.dst <;> exact hpp,hR'.put (B3 hd) rfl⟩ hN)
theorem BV {r:List Oper} (hg:o.guard=some (j,want)) (hj:(ops[j]?).bind (·.dst)=some d) (ht:st.get d=.b want)
  (h:∀ K':ST->Prop,(∀ st',VQ P ops r st' K->K' st')->Stp P o st K'):VQ P ops (o :: r) st K:=by
 intro M0 w0 a w Q hR hN
 obtain ⟨g,hpp,hR'⟩:=hR
 refine wpList_step fun K' hK'=>?_
 rw [G0 hg hj ht hR',if_pos rfl]
 exact h (fun st'=>VQ P ops r st' K) (fun _ h=>h) M0 w0 a w K' Q ⟨g,hpp,hR'⟩ fun st' a' w' q1 q2=>hK' _ _ (q1 M0 w0 a' w' Q q2 hN)
theorem Vn (hi:ops[i]?=some o) (hg:o.guard=some (j,want)) (hj:(ops[j]?).bind (·.dst)=some d) (ht:st.get d=.b want) (hd:VJ o st.n=true) (h:∀ K':ST->Prop,(∀ st',CU P ops stop eff past rest st' K->K' st')->VK P o st K'):CU P ops stop eff past ((i,0) :: rest) st K:=by
 intro M0 w0 a w w1 Q he hp hR hN
 have h:=h (fun st'=>CU P ops stop eff past rest st' K) (fun _ h=>h)
 obtain ⟨g,hpp,hR⟩:=hR
 unfold VK at h
 split at h
 rotate_left
 ·exact h.elim
 rename_i c x hop
 obtain ⟨v,h1,h2⟩:=FT (P:=P) (ρ:=a.eval) (ev:=st.ev) hR.ev hop h.1
 exact ⟨o,v,hi,.inl ⟨G0 hg hj ht hR,fun W _=>h1 W⟩,h.2 M0 w0 _ w w1 Q he hp ⟨g,by cases o.dst <;> exact hpp,hR.put (B3 hd) h2⟩ hN⟩
theorem Vo (hi:ops[i]?=some o) (hg:o.guard=some (j,want)) (hj:(ops[j]?).bind (·.dst)=some d) (ht:st.get d=.b want) (hd:VJ o st.n=true) (h:∀ K':ST->Prop,(∀ st',CU P ops stop false past rest st' K->K' st')->VM P o st K'):CU P ops stop false past ((i,1) :: rest) st K:=by
 intro M0 w0 a w w1 Q he hp hR hN
 have h:=h (fun st'=>CU P ops stop false past rest st' K) (fun _ h=>h)
 obtain ⟨g,hpp,hR⟩:=hR
 unfold VM at h
 split at h
 rotate_left
 ·exact h.elim
 rename_i c x hop
 obtain ⟨v,h1,h2⟩:=H6 (P:=P) hR.hr hR.ev hop h.1
 have hw:=he rfl
 subst hw
 exact ⟨o,v,hi,.inl ⟨G0 hg hj ht hR,fun W hW=>h1 W hW⟩,h.2 M0 w0 _ w w Q he hp ⟨g,by cases o.dst <;> exact hpp,hR.put (B3 hd) h2⟩ hN⟩
theorem Va {k:Nat} (hi:ops[i]?=some o) (hg:o.guard=some (j,want)) (hj:(ops[j]?).bind (·.dst)=some d) (ht:st.get d=.b want) (hns:(past || i == stop)=true) (h:∀ K':ST->Prop,(∀ st',CU P ops stop true true rest st' K->K' st')->Stp P o st K'):CU P ops stop eff past ((i,k+2) :: rest) st K:=by
 intro M0 w0 a w w1 Q he hp hR hN
 obtain ⟨g,hpp,hR'⟩:=hR
 show wpOp P ops Q i _ a w
 unfold wpOp
 rw [hi]
 simp only [G0 hg hj ht hR',if_true,hns]
 exact .inl (h (fun st'=>CU P ops stop true true rest st' K) (fun _ h=>h) M0 w0 a w _ Q ⟨g,hpp,hR'⟩ fun st' a' w' h1 h2=>⟨.inl trivial,h1 M0 w0 a' w' w1 Q (by simp) (by simp) h2 hN⟩)
theorem TR {k:Nat} {v:Value} (hk:k=0\/k=1) (hi:ops[i]?=some o) (hg:o.guard=some (j,want)) (hj:(ops[j]?).bind (·.dst)=some d) (ht:st.get d=.a (.c (.v v))) (hv:v ≠ .bool want) (hd:VJ o st.n=true)
  (h:CU P ops stop eff past rest (st.put o.dst (.a (.c (.v undef)))) K):CU P ops stop eff past ((i,k) :: rest) st K:=by
 intro M0 w0 a w w1 Q he hp hR hN
 obtain ⟨g,hpp,hR⟩:=hR
 have:=h M0 w0 (a.put o.dst undef) w w1 Q he hp ⟨g,by cases o.dst <;> exact hpp,hR.put (B3 hd) rfl⟩ hN
 rcases hk with rfl | rfl
 ·exact ⟨o,undef,hi,.inr ⟨GL hg hj ht hv hR,rfl⟩,this⟩
 exact ⟨o,undef,hi,.inr ⟨GL hg hj ht hv hR,rfl⟩,this⟩
theorem Vp {k:Nat} {v:Value} (hi:ops[i]?=some o) (hg:o.guard=some (j,want)) (hj:(ops[j]?).bind (·.dst)=some d) (ht:st.get d=.a (.c (.v v))) (hv:v ≠ .bool want) (hd:VJ o st.n=true)
  (h:CU P ops stop eff (past || i == stop) rest (st.put o.dst (.a (.c (.v undef)))) K):CU P ops stop eff past ((i,k+2) :: rest) st K:=by
 intro M0 w0 a w w1 Q he hp hR hN
 obtain ⟨g,hpp,hR⟩:=hR
 have hf:=GL hg hj ht hv hR
 have:=h M0 w0 (a.put o.dst undef) w w1 Q he (fun e=>hp (by simp at e;exact e.1)) ⟨g,by cases o.dst <;> exact hpp,hR.put (B3 hd) rfl⟩ hN
 show wpOp P ops Q i _ a w
 unfold wpOp
 rw [hi]
 simp only [hf,Bool.false_eq_true,if_false]
 refine ⟨?_,this⟩
 cases hpast:past || i == stop with
 | true=>exact .inl rfl
 | false=>exact .inr (hp (by simp at hpast;exact hpast.1))
end
end Go.Proofs.YtjijjfkalheokaaGreatDoor
namespace Go.Proofs.YtjijjfkalheokaaGreatDoor
set_option linter.unusedVariables false
set_option linter.unusedSimpArgs false
open Go.RowKit

theorem FC.frz {P:Program} {f:FuncId} {args:List AV} {e k n:Nat} {cs:List C} {ts:List Tr} (h:FC P f args [] (fun r o=>r=.a (.c (.s 0 n))/\o=[.r ⟨e,k,true,cs⟩])) (hz:Fz cs ts) (hk:0<k) (hn:n*k=ts.length):
  FC P f args [] (fun r o=>o=[]/\r=.a (.c (.t k ts))):=by
 intro g w vals hr ha
 refine (h g w vals hr ha).mono ?_
 rintro x w' ⟨v,r,outs,g',rfl,⟨rfl,rfl⟩,h1,h2,h3,h4,h5⟩
 have hR:RelG g' (FX [] g) w { tm:=[(0,.a (.c (.s 0 n)))],hp:=[.r ⟨e,k,true,cs⟩],n:=1,pin:=0 } { tmps:=#[v],defers:=[] } w':=by
  refine ⟨h1,h3,fun d=>?_,rfl,rfl,h5⟩
  simp only [ST.get,El]
  split
  ·rename_i hd;subst hd;exact h4
  trivial
 have hF:=hR.freeze (id:=0) (r:=⟨e,k,true,cs⟩) rfl hz hk
 have hv:=hF.tm 0
 have e0:(ST.frz { tm:=[(0,.a (.c (.s 0 n)))],hp:=[.r ⟨e,k,true,cs⟩],n:=1,pin:=0 } 0 k ts).get 0=.a (.c (.t k ts)):=by
  simp only [ST.frz,ST.get,El,List.map_cons,List.map_nil,AV.frz,A0.frz,C.frz,if_true,hn,Nat.le_refl,List.take_length]
 rw [show (({ tm:=[(0,.a (.c (.s 0 n)))],hp:=[.r ⟨e,k,true,cs⟩],n:=1,pin:=0 }:ST).frz 0 (⟨e,k,true,cs⟩:Row).k ts).get 0=.a (.c (.t k ts)) from e0] at hv
 have hp:=hF.hr.pk (ρ:=[]) (M:=g'.M) (fun b hb=>.inl hb) hF.hr.ml (fun ℓ hl=>by
  cases ℓ with
  | ob i=>rcases hl with ⟨r,e1,_⟩ | ⟨kv,e1⟩ <;> simp [VS] at e1
  | cl i j=>obtain ⟨r,_,_,e1,_⟩:=hl;simp [VS] at e1) rfl
 have hv2:=AVR.ren (ρ:=[]) (M:=g'.M) (fun b hb=>.inl hb) hv
 refine ⟨v,.a (.c (.t k ts)),[],_,rfl,⟨rfl,rfl⟩,hp,⟨Nat.le_refl _,h2.2.1,fun i hi=>by simp at hi⟩,fun ℓ hl=>?_,hv2,h5⟩
 cases ℓ with
 | ob i=>rcases hl with ⟨r,e1,_⟩ | ⟨kv,e1⟩ <;> simp at e1
 | cl i j=>obtain ⟨r,_,_,e1,_⟩:=hl;simp at e1
end Go.Proofs.YtjijjfkalheokaaGreatDoor
namespace Go.Proofs.YtjijjfkalheokaaGreatDoor
set_option linter.unusedVariables false
set_option linter.unusedSimpArgs false
open Go.RowKit
/-! steps in one go; what the evaluator needs of lists and numbers, in one theorem -/
def gv (x:AV) (want:Bool) (a b:Prop):Prop:=
 match x,want with
 | .a (.c (.v (.bool true))),true=>a
 | .a (.c (.v (.bool false))),false=>a
 | .a (.c (.v (.bool true))),false=>b
 | .a (.c (.v (.bool false))),true=>b
 | .a (.c (.v (.tuple _))),_=>b
 | _,_=>False
theorem C5 {x:AV} {want:Bool} {a b:Prop} (h:gv x want a b):(x=.b want/\a)\/(∃ v,x=.a (.c (.v v))/\v ≠ .bool want/\b):=by
 unfold gv at h
 split at h
 ·exact .inl ⟨rfl,h⟩
 ·exact .inl ⟨rfl,h⟩
 ·exact .inr ⟨_,rfl,by simp,h⟩
 ·exact .inr ⟨_,rfl,by simp,h⟩
 ·exact .inr ⟨_,rfl,by simp,h⟩
 exact h.elim
section
variable {P : Program} {ops : Array Oper} {o : Oper} {st : ST} {K : ST -> Prop} {stop i j d : Nat} {eff past want : Bool} {rest : List (Nat × Nat)}
theorem UK {r:List Oper} (hg:o.guard=some (j,want)) (hj:(ops[j]?).bind (·.dst)=some d) (hd:VJ o st.n=true)
  (h:∀ K':ST->Prop,(∀ st',VQ P ops r st' K->K' st')->gv (st.get d) want (VP P o st K') (K' (st.put o.dst (.a (.c (.v undef)))))):VQ P ops (o :: r) st K:=by
 rcases C5 (h (fun st'=>VQ P ops r st' K) (fun _ h=>h)) with ⟨h1,_⟩ | ⟨v,h1,h2,h3⟩
 rotate_left
 ·exact Mx hg hj h1 h2 hd h3
 refine BV hg hj h1 fun K' hK'=>AP hd ?_
 rcases C5 (h K' hK') with ⟨_,h2⟩ | ⟨v,h2,h3,_⟩
 ·exact h2
 rw [h1] at h2;cases h2;exact absurd rfl h3
theorem Vq (hi:ops[i]?=some o) (hg:o.guard=some (j,want)) (hj:(ops[j]?).bind (·.dst)=some d) (hd:VJ o st.n=true) (h:∀ K':ST->Prop,(∀ st',CU P ops stop eff past rest st' K->K' st')->gv (st.get d) want (VK P o st K') (K' (st.put o.dst (.a (.c (.v undef)))))):CU P ops stop eff past ((i,0) :: rest) st K:=by
 rcases C5 (h (fun st'=>CU P ops stop eff past rest st' K) (fun _ h=>h)) with ⟨h1,_⟩ | ⟨v,h1,h2,h3⟩
 rotate_left
 ·exact TR (.inl rfl) hi hg hj h1 h2 hd h3
 refine Vn hi hg hj h1 hd fun K' hK'=>?_
 rcases C5 (h K' hK') with ⟨_,h2⟩ | ⟨v,h2,h3,_⟩
 ·exact h2
 rw [h1] at h2;cases h2;exact absurd rfl h3
theorem Vr (hi:ops[i]?=some o) (hg:o.guard=some (j,want)) (hj:(ops[j]?).bind (·.dst)=some d) (hd:VJ o st.n=true) (h:∀ K':ST->Prop,(∀ st',CU P ops stop false past rest st' K->K' st')->gv (st.get d) want (VM P o st K') (K' (st.put o.dst (.a (.c (.v undef)))))):CU P ops stop false past ((i,1) :: rest) st K:=by
 rcases C5 (h (fun st'=>CU P ops stop false past rest st' K) (fun _ h=>h)) with ⟨h1,_⟩ | ⟨v,h1,h2,h3⟩
 rotate_left
 ·exact TR (.inr rfl) hi hg hj h1 h2 hd h3
 refine Vo hi hg hj h1 hd fun K' hK'=>?_
 rcases C5 (h K' hK') with ⟨_,h2⟩ | ⟨v,h2,h3,_⟩
 ·exact h2
 rw [h1] at h2;cases h2;exact absurd rfl h3
theorem Vs {k:Nat} (hi:ops[i]?=some o) (hg:o.guard=some (j,want)) (hj:(ops[j]?).bind (·.dst)=some d) (hns:(past || i == stop)=true) (hd:VJ o st.n=true) (h:∀ K':ST->Prop,(∀ st',CU P ops stop true true rest st' K->K' st')->gv (st.get d) want (VP P o st K') False):CU P ops stop eff past ((i,k+2) :: rest) st K:=by
 rcases C5 (h (fun st'=>CU P ops stop true true rest st' K) (fun _ h=>h)) with ⟨h1,_⟩ | ⟨v,h1,h2,h3⟩
 rotate_left
 ·exact h3.elim
 refine Va hi hg hj h1 hns fun K' hK'=>AP hd ?_
 rcases C5 (h K' hK') with ⟨_,h2⟩ | ⟨v,h2,h3,_⟩
 ·exact h2
 rw [h1] at h2;cases h2;exact absurd rfl h3
theorem Vb {k:Nat} (hi:ops[i]?=some o) (hg:o.guard=some (j,want)) (hj:(ops[j]?).bind (·.dst)=some d) (hd:VJ o st.n=true) (h:∀ K':ST->Prop,(∀ st',CU P ops stop eff (past || i == stop) rest st' K->K' st')->gv (st.get d) want False (K' (st.put o.dst (.a (.c (.v undef)))))):CU P ops stop eff past ((i,k+2) :: rest) st K:=by
 rcases C5 (h (fun st'=>CU P ops stop eff (past || i == stop) rest st' K) (fun _ h=>h)) with ⟨_,h2⟩ | ⟨v,h1,h2,h3⟩
 ·exact h2.elim
 exact Vp hi hg hj h1 h2 hd h3
end
def JQ (ops:Array Oper) (o:Oper):Option (Option Nat × Bool):=
 match o.guard with
 | none=>some (none,true)
 | some (j,w)=>((ops[j]?).bind (·.dst)).map fun d=>(some d,w)
def IK (st:ST):Option Nat->AV
 | none=>.a (.c (.v (.bool true)))
 | some d=>st.get d
theorem D5 {ops:Array Oper} {o:Oper} {dd:Option Nat} {want:Bool} (h:JQ ops o=some (dd,want)):(o.guard=none/\dd=none/\want=true)\/∃ j d,o.guard=some (j,want)/\(ops[j]?).bind (·.dst)=some d/\dd=some d:=by
 unfold JQ at h
 split at h
 ·rename_i hg;cases h;exact .inl ⟨hg,rfl,rfl⟩
 rename_i j w hg
 rw [Option.map_eq_some_iff] at h
 obtain ⟨d,hd,he⟩:=h
 cases he
 exact .inr ⟨j,d,hg,hd,rfl⟩
section
variable {P : Program} {ops : Array Oper} {o : Oper} {st : ST} {K : ST -> Prop} {stop i : Nat} {eff past want : Bool} {dd : Option Nat} {rest : List (Nat × Nat)}
theorem B5 {r:List Oper} (hx:JQ ops o=some (dd,want)) (hd:VJ o st.n=true)
  (h:∀ K':ST->Prop,(∀ st',VQ P ops r st' K->K' st')->gv (IK st dd) want (VP P o st K') (K' (st.put o.dst (.a (.c (.v undef)))))):VQ P ops (o :: r) st K:=by
 rcases D5 hx with ⟨hg,rfl,rfl⟩ | ⟨j,d,hg,hj,rfl⟩
 ·exact Ai hg fun K' hK'=>AP hd (h K' hK')
 exact UK hg hj hd h
theorem Rz (hi:ops[i]?=some o) (hx:JQ ops o=some (dd,want)) (hd:VJ o st.n=true) (h:∀ K':ST->Prop,(∀ st',CU P ops stop eff past rest st' K->K' st')->gv (IK st dd) want (VK P o st K') (K' (st.put o.dst (.a (.c (.v undef)))))):CU P ops stop eff past ((i,0) :: rest) st K:=by
 rcases D5 hx with ⟨hg,rfl,rfl⟩ | ⟨j,d,hg,hj,rfl⟩
 ·exact VZ hi hg hd fun K' hK'=>h K' hK'
 exact Vq hi hg hj hd h
theorem RA (hi:ops[i]?=some o) (hx:JQ ops o=some (dd,want)) (hd:VJ o st.n=true) (h:∀ K':ST->Prop,(∀ st',CU P ops stop false past rest st' K->K' st')->gv (IK st dd) want (VM P o st K') (K' (st.put o.dst (.a (.c (.v undef)))))):CU P ops stop false past ((i,1) :: rest) st K:=by
 rcases D5 hx with ⟨hg,rfl,rfl⟩ | ⟨j,d,hg,hj,rfl⟩
 ·exact W0 hi hg hd fun K' hK'=>h K' hK'
 exact Vr hi hg hj hd h
theorem RB {k:Nat} (hi:ops[i]?=some o) (hx:JQ ops o=some (dd,want)) (hns:(past || i == stop)=true) (hd:VJ o st.n=true) (h:∀ K':ST->Prop,(∀ st',CU P ops stop true true rest st' K->K' st')->gv (IK st dd) want (VP P o st K') False):CU P ops stop eff past ((i,k+2) :: rest) st K:=by
 rcases D5 hx with ⟨hg,rfl,rfl⟩ | ⟨j,d,hg,hj,rfl⟩
 ·exact W1 hi hg hns fun K' hK'=>AP hd (h K' hK')
 exact Vs hi hg hj hns hd h
end
theorem W2:(∀ {α β:Type} {f:α->β} {a:α} {l:List α},List.map f (a :: l)=f a :: List.map f l)/\(∀ {α β:Type} {f:α->β},List.map f []=[])/\(∀ {α:Type} {a:α} {l:List α},(a :: l).length=l.length+1)/\(∀ {α:Type},([]:List α).length=0)/\
  (∀ {α:Type} {a:α} {l:List α},(a :: l)[0]?=some a)/\(∀ {α:Type} {a:α} {l:List α} {i:Nat},(a :: l)[i+1]?=l[i]?)/\(∀ {α β:Type} {f:α->β} {x:α},Option.map f (some x)=some (f x))/\(∀ {α β:Type} {f:α->β},Option.map f none=none)/\
  (∀ {α:Type} {h:Decidable True} (t e:α),@ite α True h t e=t)/\(∀ {α:Type} {h:Decidable False} (t e:α),@ite α False h t e=e)/\(∀ {h:Decidable True} (t e:Prop),@ite Prop True h t e=t)/\(∀ {h:Decidable False} (t e:Prop),@ite Prop False h t e=e)/\
  (∀ n:Nat,n*1=n)/\(∀ n:Nat,0*n=0)/\(∀ n:Nat,0+n=n)/\(∀ n:Nat,n+0=n)/\(∀ n:Nat,(n:Int).toNat=n)/\(∀ n:Nat,n / 1=n)/\(∀ n:Nat,(n<n+1)=True)/\((0<1)=True)/\
  (∀ p:Prop,(True->p)=p)/\(∀ p:Prop,(False->p)=True)/\((false=true)=False)/\(∀ p:Prop,(p\/False)=p)/\(∀ p:Prop,(False\/p)=p)/\(∀ p:Prop,(p\/True)=True)/\(∀ p:Prop,(True\/p)=True)/\(∀ p:Prop,(p/\False)=False)/\(∀ p:Prop,(False/\p)=False)/\(∀ p:Prop,(True/\p)=p)/\(∀ p:Prop,(p/\True)=p)/\
  (∀ {h:Decidable True},@decide True h=true)/\(∀ {h:Decidable False},@decide False h=false)/\(∀ {α:Type},([]:List (List α)).flatten=[])/\(∀ {α:Type} {a:List α} {l:List (List α)},(a :: l).flatten=a++l.flatten)/\
  (∀ {α:Type} {p:α->Bool},[].all p=true)/\(∀ {α:Type} {p:α->Bool} {a:α} {l:List α},(a :: l).all p=(p a && l.all p))/\(∀ b:Bool,(b && true)=b)/\(∀ b:Bool,(true && b)=b)/\(∀ b:Bool,(b && false)=false)/\(∀ b:Bool,(false && b)=false)/\
  (∀ {α:Type} {l:List α},[]++l=l)/\(∀ {α:Type} {a:α} {l m:List α},a :: l++m=a :: (l++m))/\(∀ {α:Type} [BEq α] [ReflBEq α] {a:α},(a == a)=true):=by
 refine ⟨?_,?_,?_,?_,?_,?_,?_,?_,?_,?_,?_,?_,?_,?_,?_,?_,?_,?_,?_,?_,?_,?_,?_,?_,?_,?_,?_,?_,?_,?_,?_,?_,?_,?_,?_,?_,?_,?_,?_,?_,?_,?_,?_,?_⟩ <;> intros <;> simp
theorem W3:type_of% @List.getElem_toArray.{0}/\type_of% @List.getElem_cons_zero.{0}/\type_of% @List.getElem_cons_succ.{0}/\type_of% @Bool.or_true/\type_of% @Bool.or_false:=
 ⟨@List.getElem_toArray,@List.getElem_cons_zero,@List.getElem_cons_succ,@Bool.or_true,@Bool.or_false⟩
theorem W4:(((((((type_of% @VP.eq_1/\type_of% @VK.eq_1)/\(type_of% @VM.eq_1/\type_of% @VN.eq_1))/\((type_of% @VO.eq_1/\type_of% @Pa.eq_1)/\(type_of% @VF.eq_1/\(type_of% @VF.eq_2/\type_of% @VF.eq_3))))/\(((type_of% @VF.eq_4/\type_of% @VF.eq_5)/\(type_of% @VF.eq_6/\type_of% @VF.eq_7))/\((type_of% @VF.eq_8/\type_of% @VF.eq_9)/\(type_of% @VF.eq_10/\(type_of% @VF.eq_11/\type_of% @VF.eq_12)))))/\((((type_of% @VF.eq_13/\type_of% @VF.eq_14)/\(type_of% @VF.eq_15/\type_of% @VF.eq_16))/\((type_of% @VG.eq_1/\type_of% @VG.eq_2)/\(type_of% @VG.eq_3/\(type_of% @VH.eq_1/\type_of% @VH.eq_2))))/\(((type_of% @VH.eq_3/\type_of% @VH.eq_4)/\(type_of% @VH.eq_5/\(type_of% @VH.eq_6/\type_of% @VI.eq_1)))/\((type_of% @Rr.eq_1/\type_of% @Mf.eq_1)/\(type_of% @TC.eq_1/\(type_of% @TD.eq_1/\type_of% @VE.eq_1))))))/\(((((type_of% @Mg.eq_1/\type_of% @HQ.eq_1)/\(type_of% @D2.eq_1/\type_of% @Er.eq_1))/\((type_of% @HT.eq_1/\type_of% @TE.eq_1)/\(type_of% @HU.eq_1/\(type_of% @TF.eq_1/\type_of% @Tp.eq_1))))/\(((type_of% @Mh.eq_1/\type_of% @DW.eq_1)/\(type_of% @UA.eq_1/\type_of% @Mk.eq_1))/\((type_of% @TH.eq_1/\type_of% @I0.eq_1)/\(type_of% @TK.eq_1/\(type_of% @Ml.eq_1/\type_of% @Ea.eq_1)))))/\((((type_of% @Ea.eq_2/\type_of% @Ea.eq_3)/\(type_of% @Ea.eq_4/\type_of% @Ea.eq_5))/\((type_of% @Ea.eq_6/\type_of% @Dw.eq_1)/\(type_of% @Dw.eq_2/\(type_of% @Dw.eq_3/\type_of% @Dw.eq_4))))/\(((type_of% @FA.eq_1/\type_of% @FA.eq_2)/\(type_of% @FA.eq_3/\(type_of% @FA.eq_4/\type_of% @FA.eq_5)))/\((type_of% @FA.eq_6/\type_of% @FA.eq_7)/\(type_of% @FA.eq_8/\(type_of% @FA.eq_9/\type_of% @FA.eq_10)))))))/\((((((type_of% @Ep.eq_1/\type_of% @Ep.eq_2)/\(type_of% @Ep.eq_3/\type_of% @Ep.eq_4))/\((type_of% @Ep.eq_5/\type_of% @Ep.eq_6)/\(type_of% @GE.eq_1/\(type_of% @GE.eq_2/\type_of% @GE.eq_3))))/\(((type_of% @GE.eq_4/\type_of% @GE.eq_5)/\(type_of% @GE.eq_6/\type_of% @GE.eq_7))/\((type_of% @VC.eq_1/\type_of% @VC.eq_2)/\(type_of% @VC.eq_3/\(type_of% @FQ.eq_1/\type_of% @FQ.eq_2)))))/\((((type_of% @FQ.eq_3/\type_of% @VD.eq_1)/\(type_of% @VD.eq_2/\type_of% @Me.eq_1))/\((type_of% @A0.cells.eq_1/\type_of% @A0.cells.eq_2)/\(type_of% @A0.ones.eq_1/\(type_of% @A0.ones.eq_2/\type_of% @AV.zeroOf.eq_1))))/\(((type_of% @DJ.eq_1/\type_of% @DJ.eq_2)/\(type_of% @Fq.eq_1/\(type_of% @Fq.eq_2/\type_of% @Fq.eq_3)))/\((type_of% @M5.eq_1/\type_of% @M5.eq_2)/\(type_of% @M5.eq_3/\(type_of% @C.one.eq_1/\type_of% @C.one.eq_2))))))/\(((((type_of% @C.one.eq_3/\type_of% @C.one.eq_4)/\(type_of% @C.one.eq_5/\type_of% @C.one.eq_6))/\((type_of% @C.pl.eq_1/\type_of% @C.pl.eq_2)/\(type_of% @C.pl.eq_3/\(type_of% @C.ofTr.eq_1/\type_of% @C.ofTr.eq_2))))/\(((type_of% @TG.eq_1/\type_of% @CY.eq_1)/\(type_of% @rep.eq_1/\type_of% @rep.eq_2))/\((type_of% @FV.eq_1/\type_of% @FV.eq_2)/\(type_of% @ST.ev.eq_1/\(type_of% @ST.ev.eq_2/\type_of% @ST.ev.eq_3)))))/\((((type_of% @ST.ev.eq_4/\type_of% @ST.get.eq_1)/\(type_of% @ST.put.eq_1/\type_of% @ST.put.eq_2))/\((type_of% @El.eq_1/\type_of% @El.eq_2)/\(type_of% @AV.i.eq_1/\(type_of% @AV.b.eq_1/\type_of% @AV.u.eq_1))))/\(((type_of% @Ld.eq_1/\type_of% @VR.eq_1)/\(type_of% @IK.eq_1/\(type_of% @IK.eq_2/\type_of% @gv.eq_1)))/\((type_of% @gv.eq_2/\type_of% @gv.eq_3)/\(type_of% @gv.eq_4/\(type_of% @gv.eq_5/\type_of% @gv.eq_6)))))))):=
 ⟨⟨⟨⟨⟨⟨⟨@VP.eq_1,@VK.eq_1⟩,⟨@VM.eq_1,@VN.eq_1⟩⟩,⟨⟨@VO.eq_1,@Pa.eq_1⟩,⟨@VF.eq_1,⟨@VF.eq_2,@VF.eq_3⟩⟩⟩⟩,⟨⟨⟨@VF.eq_4,@VF.eq_5⟩,⟨@VF.eq_6,@VF.eq_7⟩⟩,⟨⟨@VF.eq_8,@VF.eq_9⟩,⟨@VF.eq_10,⟨@VF.eq_11,@VF.eq_12⟩⟩⟩⟩⟩,⟨⟨⟨⟨@VF.eq_13,@VF.eq_14⟩,⟨@VF.eq_15,@VF.eq_16⟩⟩,⟨⟨@VG.eq_1,@VG.eq_2⟩,⟨@VG.eq_3,⟨@VH.eq_1,@VH.eq_2⟩⟩⟩⟩,⟨⟨⟨@VH.eq_3,@VH.eq_4⟩,⟨@VH.eq_5,⟨@VH.eq_6,@VI.eq_1⟩⟩⟩,⟨⟨@Rr.eq_1,@Mf.eq_1⟩,⟨@TC.eq_1,⟨@TD.eq_1,@VE.eq_1⟩⟩⟩⟩⟩⟩,⟨⟨⟨⟨⟨@Mg.eq_1,@HQ.eq_1⟩,⟨@D2.eq_1,@Er.eq_1⟩⟩,⟨⟨@HT.eq_1,@TE.eq_1⟩,⟨@HU.eq_1,⟨@TF.eq_1,@Tp.eq_1⟩⟩⟩⟩,⟨⟨⟨@Mh.eq_1,@DW.eq_1⟩,⟨@UA.eq_1,@Mk.eq_1⟩⟩,⟨⟨@TH.eq_1,@I0.eq_1⟩,⟨@TK.eq_1,⟨@Ml.eq_1,@Ea.eq_1⟩⟩⟩⟩⟩,⟨⟨⟨⟨@Ea.eq_2,@Ea.eq_3⟩,⟨@Ea.eq_4,@Ea.eq_5⟩⟩,⟨⟨@Ea.eq_6,@Dw.eq_1⟩,⟨@Dw.eq_2,⟨@Dw.eq_3,@Dw.eq_4⟩⟩⟩⟩,⟨⟨⟨@FA.eq_1,@FA.eq_2⟩,⟨@FA.eq_3,⟨@FA.eq_4,@FA.eq_5⟩⟩⟩,⟨⟨@FA.eq_6,@FA.eq_7⟩,⟨@FA.eq_8,⟨@FA.eq_9,@FA.eq_10⟩⟩⟩⟩⟩⟩⟩,⟨⟨⟨⟨⟨⟨@Ep.eq_1,@Ep.eq_2⟩,⟨@Ep.eq_3,@Ep.eq_4⟩⟩,⟨⟨@Ep.eq_5,@Ep.eq_6⟩,⟨@GE.eq_1,⟨@GE.eq_2,@GE.eq_3⟩⟩⟩⟩,⟨⟨⟨@GE.eq_4,@GE.eq_5⟩,⟨@GE.eq_6,@GE.eq_7⟩⟩,⟨⟨@VC.eq_1,@VC.eq_2⟩,⟨@VC.eq_3,⟨@FQ.eq_1,@FQ.eq_2⟩⟩⟩⟩⟩,⟨⟨⟨⟨@FQ.eq_3,@VD.eq_1⟩,⟨@VD.eq_2,@Me.eq_1⟩⟩,⟨⟨@A0.cells.eq_1,@A0.cells.eq_2⟩,⟨@A0.ones.eq_1,⟨@A0.ones.eq_2,@AV.zeroOf.eq_1⟩⟩⟩⟩,⟨⟨⟨@DJ.eq_1,@DJ.eq_2⟩,⟨@Fq.eq_1,⟨@Fq.eq_2,@Fq.eq_3⟩⟩⟩,⟨⟨@M5.eq_1,@M5.eq_2⟩,⟨@M5.eq_3,⟨@C.one.eq_1,@C.one.eq_2⟩⟩⟩⟩⟩⟩,⟨⟨⟨⟨⟨@C.one.eq_3,@C.one.eq_4⟩,⟨@C.one.eq_5,@C.one.eq_6⟩⟩,⟨⟨@C.pl.eq_1,@C.pl.eq_2⟩,⟨@C.pl.eq_3,⟨@C.ofTr.eq_1,@C.ofTr.eq_2⟩⟩⟩⟩,⟨⟨⟨@TG.eq_1,@CY.eq_1⟩,⟨@rep.eq_1,@rep.eq_2⟩⟩,⟨⟨@FV.eq_1,@FV.eq_2⟩,⟨@ST.ev.eq_1,⟨@ST.ev.eq_2,@ST.ev.eq_3⟩⟩⟩⟩⟩,⟨⟨⟨⟨@ST.ev.eq_4,@ST.get.eq_1⟩,⟨@ST.put.eq_1,@ST.put.eq_2⟩⟩,⟨⟨@El.eq_1,@El.eq_2⟩,⟨@AV.i.eq_1,⟨@AV.b.eq_1,@AV.u.eq_1⟩⟩⟩⟩,⟨⟨⟨@Ld.eq_1,@VR.eq_1⟩,⟨@IK.eq_1,⟨@IK.eq_2,@gv.eq_1⟩⟩⟩,⟨⟨@gv.eq_2,@gv.eq_3⟩,⟨@gv.eq_4,⟨@gv.eq_5,@gv.eq_6⟩⟩⟩⟩⟩⟩⟩⟩
attribute [go_sem] W4 JG P0 W2 W3 undef reduceIte reduceCtorEq Nat.reduceEqDiff Nat.reduceAdd Nat.reduceMul Nat.reduceSub Nat.reduceDiv Nat.reduceLT Nat.reduceLeDiff Nat.reduceBEq Nat.reduceBNe List.reduceReplicate Em idx Dt AV.ren A0.ren C.ren Ob.ren ST.pick ST.back Fi Cb VV AV.up A0.up C.up Ob.up AV.nb A0.nb C.nb List.contains_cons List.contains_nil List.getD_cons_zero List.getD_cons_succ List.set_cons_zero List.set_cons_succ
end Go.Proofs.YtjijjfkalheokaaGreatDoor
