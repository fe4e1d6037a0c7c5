/- Lemmas. -/
import Derived.Test.YtbnabodoabimnaaGreatMD
import Derived.Test.YtbnabodoabimnaaGreatRegn
namespace Go.Proofs.YtbnabodoabimnaaGreat
set_option linter.unusedVariables false
set_option linter.unusedSimpArgs false
open Go.RowKit
section
variable {P : Program} {ops : Array Oper} {Q : Exit -> Act -> World -> Prop} {md : Region.Mode} {S : World -> Prop} {stop : Nat}
def Vq (P:Program) (ops:Array Oper) (Q:Exit->Act->World->Prop) (S:World->Prop) (stop:Nat):Bool->List (Nat × Nat)->Act->World->Prop
 | _,[],a,w=>Q .normal a w
 | past,(i,0) :: rest,a,w=>∃ oi v,ops[i]?=some oi/\YieldsIf P ops (fun _=>True) oi v a/\Vq P ops Q S stop past rest (a.put oi.dst v) w
 | past,(i,1) :: rest,a,w=>∃ oi v,ops[i]?=some oi/\YieldsIf P ops S oi v a/\Vq P ops Q S stop past rest (a.put oi.dst v) w
 | past,(i,_) :: rest,a,w=>wpOp P ops Q i (fun a' w'=>((past || i == stop)=true\/S w')/\Vq P ops Q S stop (past || i == stop) rest a' w') a w
def Oi (md:Region.Mode) (ops:Array Oper) (stop:Nat):List (Nat × Nat)->Array Bool->Bool
 | [],listed=>(Region.ready md ops listed).isEmpty
 | (i,0) :: rest,listed=>Region.free md ops listed i && (Region.ready md ops listed).contains i && i != stop && Oi md ops stop rest (listed.setIfInBounds i true)
 | (i,1) :: rest,listed=>Region.free md ops listed i && (Region.ready md ops listed).contains i && (HV md ops ops.size stop).contains i && i != stop && Oi md ops stop rest (listed.setIfInBounds i true)
 | (i,_) :: rest,listed=>(Region.ready md ops listed == [i]) && decide (i<listed.size) && Oi md ops stop rest (listed.setIfInBounds i true)
theorem En {i:Nat} {oi:Oper} {v:Value} {S1:World->Prop} (hi:ops[i]?=some oi) (hsel:∀ (j:Nat) (o:Oper) cs b,ops[j]?=some o->o.op ≠ .select cs b)
  (hQ:∀ c (a:Act) (d:Option Tmp) (v:Value) w,Q (.panic c) (a.put d v) w->Q (.panic c) a w) (hst:i ≠ stop)
  (hS:∀ (listed:Array Bool) (w:World),Closed md ops listed->i∈Region.ready md ops listed->Ph S stop listed w->S1 w):
  ∀ (fuel:Nat) (listed:Array Bool) (a:Act) (w:World),Closed md ops listed->
   (∀ j oj,ops[j]?=some oj->j ≠ i->listed.getD j true=false->(∀ e∈oj.after,Region.binds md e=true->e.on ≠ i)->oi.apart ops oj=true)->
   i∈Region.ready md ops listed->YieldsIf P ops S1 oi v a->Ph S stop listed w->
   HU P md ops Q S stop fuel (listed.setIfInBounds i true) (a.put oi.dst v) w->HU P md ops Q S stop (fuel+1) listed a w:=by
 have hPh:∀ (listed:Array Bool) (w:World),Ph S stop (listed.setIfInBounds i true) w->Ph S stop listed w:=by
  intro listed w h
  rcases h with h | h
  ·left;rwa [getD_set_ne false hst] at h
  exact .inr h
 have hPh':∀ (listed:Array Bool) (w:World),Ph S stop listed w->Ph S stop (listed.setIfInBounds i true) w:=by
  intro listed w h
  rcases h with h | h
  ·left;rwa [getD_set_ne false hst]
  exact .inr h
 intro fuel
 induction fuel with
 | zero=>
  intro listed a w hcl _ hr hy hp H
  refine ⟨fun h=>(by rw [h] at hr;cases hr),fun j hj=>?_⟩
  by_cases hji:j=i
  ·subst hji;exact hy.wpOp hi (hS listed w hcl hr hp) ⟨hPh' _ _ hp,H⟩
  have:=ready_mono hj hji
  rw [H.1] at this
  cases this
 | succ fuel ih=>
  intro listed a w hcl hfree hr hy hp H
  refine ⟨fun h=>(by rw [h] at hr;cases hr),fun j hj=>?_⟩
  by_cases hji:j=i
  ·subst hji;exact hy.wpOp hi (hS listed w hcl hr hp) ⟨hPh' _ _ hp,H⟩
  have h1:=H.2 j (ready_mono hj hji)
  obtain ⟨hjun,oj,hoj,hall⟩:=mem_ready.1 hj
  have hnot:∀ e∈oj.after,Region.binds md e=true->e.on ≠ i:=fun e he hb heq=>by
   have h1:=hall e he hb
   rw [heq,FK (mem_ready.1 hr).1] at h1
   cases h1
  have h2:=wpOp_putIf hoj (hfree j oj hoj hji hjun hnot) (fun cs b=>hsel i oi cs b hi) (fun cs b=>hsel j oj cs b hoj) (fun c a w h=>hQ c a _ _ w h) hy h1
  have hfree':∀ k ok,ops[k]?=some ok->k ≠ i->(listed.setIfInBounds j true).getD k true=false->
    (∀ e∈ok.after,Region.binds md e=true->e.on ≠ i)->oi.apart ops ok=true:=fun k ok hk hki hun hno=>by
   refine hfree k ok hk hki ?_ hno
   by_cases hjk:j=k
   ·subst hjk;exact hjun
   ·rw [getD_set_ne true hjk] at hun;exact hun
  refine wpOp_mono (fun a' w' h3=>?_) h2
  have hc:=h3.2.1
  rw [Array.setIfInBounds_comm _ _ (Ne.symm hji)] at hc
  have hp':=hPh _ _ hc
  refine ⟨hp',ih (listed.setIfInBounds j true) a' w' (hcl.step hj) hfree' (ready_mono hr (Ne.symm hji)) h3.1 hp' ?_⟩
  rw [Array.setIfInBounds_comm _ _ hji]
  exact h3.2.2
theorem Dk (hs:Region.noSelect ops=true) (hQ:∀ c (a:Act) (d:Option Tmp) (v:Value) w,Q (.panic c) (a.put d v) w->Q (.panic c) a w):
  ∀ (l:List (Nat × Nat)) (past:Bool) (listed:Array Bool) (a:Act) (w:World),Closed md ops listed->Oi md ops stop l listed=true->(past=true->listed.getD stop false=true)->Ph S stop listed w->Vq P ops Q S stop past l a w->HU P md ops Q S stop l.length listed a w
 | [],past,listed,a,w,_,hc,_,_,h=>by
  simp only [Oi,List.isEmpty_iff] at hc
  exact ⟨hc,h⟩
 | (i,0) :: rest,past,listed,a,w,hcl,hc,hpast,hp,h=>by
  simp only [Oi,gA1,bne_iff_ne,ne_eq,gAn,gBM] at hc
  obtain ⟨⟨⟨hf,hr⟩,hne⟩,hrest⟩:=hc
  obtain ⟨oi,v,hi,hy,hT⟩:=h
  have hp':Ph S stop (listed.setIfInBounds i true) w:=by
   rcases hp with hp | hp
   ·left;rwa [getD_set_ne false hne]
   ·exact .inr hp
  exact En (S1:=fun _=>True) hi (Region.noSelect_spec hs) hQ hne (fun _ _ _ _ _=>trivial) rest.length listed a w hcl (Region.free_spec hi hf) hr hy hp
   (Dk hs hQ rest past _ _ w (hcl.step hr) hrest (fun e=>by rw [getD_set_ne false hne];exact hpast e) hp' hT)
 | (i,1) :: rest,past,listed,a,w,hcl,hc,hpast,hp,h=>by
  simp only [Oi,gA1,bne_iff_ne,ne_eq,gAn,gBM] at hc
  obtain ⟨⟨⟨⟨hf,hr⟩,hd⟩,hne⟩,hrest⟩:=hc
  obtain ⟨oi,v,hi,hy,hT⟩:=h
  have hp':Ph S stop (listed.setIfInBounds i true) w:=by
   rcases hp with hp | hp
   ·left;rwa [getD_set_ne false hne]
   ·exact .inr hp
  refine En (S1:=S) hi (Region.noSelect_spec hs) hQ hne ?_ rest.length listed a w hcl (Region.free_spec hi hf) hr hy hp
   (Dk hs hQ rest past _ _ w (hcl.step hr) hrest (fun e=>by rw [getD_set_ne false hne];exact hpast e) hp' hT)
  intro listed w hcl hr hp
  rcases hp with hp | hp
  ·have h1:=hcl.deps ops.size stop hp i hd
   rw [FK (mem_ready.1 hr).1] at h1
   cases h1
  ·exact hp
 | (i,k+2) :: rest,past,listed,a,w,hcl,hc,hpast,hp,h=>by
  simp only [Oi,gA1,beq_iff_eq,gBM] at hc
  obtain ⟨⟨hr,hlt⟩,hrest⟩:=hc
  refine ⟨fun h0=>absurd (h0 ▸ hr) (by simp),fun j hj=>?_⟩
  have hji:j=i:=by rw [hr] at hj;simpa using hj
  subst hji
  have h:wpOp P ops Q j (fun a' w'=>((past || j == stop)=true\/S w')/\Vq P ops Q S stop (past || j == stop) rest a' w') a w:=h
  have hpast':(past || j == stop)=true->(listed.setIfInBounds j true).getD stop false=true:=by
   intro e
   simp only [Bool.or_eq_true,beq_iff_eq] at e
   rcases e with e | e
   ·by_cases hjs:j=stop
    ·subst hjs;simp [hlt]
    ·rw [getD_set_ne false hjs];exact hpast e
   ·subst e;simp [hlt]
  refine wpOp_mono (fun a' w' h'=>?_) h
  have hp':Ph S stop (listed.setIfInBounds j true) w':=by
   rcases h'.1 with h0 | h0
   ·exact .inl (hpast' h0)
   ·exact .inr h0
  exact ⟨hp',Dk hs hQ rest _ _ a' w' (hcl.step hj) hrest hpast' hp' h'.2⟩
theorem IQ {id:Nat} {a:Act} {w:World} (S:World->Prop) (stop:Nat) (l:List (Nat × Nat)) (hm:P.follows .mixedOrders=true)
  (hs:(Region.noSelect ops && Oi .any ops stop l (Array.replicate ops.size false) && (l.length == ops.size))=true)
  (hQ:∀ c (a:Act) (d:Option Tmp) (v:Value) w,Q (.panic c) (a.put d v) w->Q (.panic c) a w) (hS:S w.drew) (h:Vq P ops Q S stop false l a w.drew):(Code.region id ops true).wp P Q a w:=by
 simp only [gA1,beq_iff_eq] at hs
 obtain ⟨⟨hs,hc⟩,hl⟩:=hs
 refine wp_region_any hm (Gt (S:=S) (stop:=stop) _ _ _ _ ?_)
 rw [<- hl]
 refine Dk hs hQ l false _ a w.drew ?_ (by rw [hl];exact hc) (by simp) (.inr hS) h
 intro j o hj hlist
 exfalso
 simp [Array.getElem?_replicate] at hlist
 split at hlist <;> simp at hlist
end

/-! .. abstractly -/
def Ud (P:Program) (o:Oper) (st:ST) (K:ST->Prop):Prop:=
 ∀ (M0:Fm) (w0:World) (a:Act) (w:World) (N:Act->World->Prop) (Q:Exit->Act->World->Prop),Rel M0 w0 st a w->(∀ st' a' w',K st'->Rel M0 w0 st' a' w'->Fp (fun _=>False) w w'->N a' w')->o.wp P a w N Q
def D1 (P:Program) (ops:Array Oper) (stop:Nat) (eff past:Bool) (l:List (Nat × Nat)) (st:ST) (K:ST->Prop):Prop:=
 ∀ (M0:Fm) (w0:World) (a:Act) (w w1:World) (Q:Exit->Act->World->Prop),(eff=false->w=w1)->(past=false->Fp (fun _=>False) w1 w)->Rel M0 w0 st a w->(∀ st' a' w',K st'->Rel M0 w0 st' a' w'->Q .normal a' w')->
  Vq P ops Q (fun W=>Fp (fun _=>False) w1 W) stop past l a w
section
variable {P : Program} {ops : Array Oper} {o : Oper} {st : ST} {K : ST -> Prop} {stop i : Nat} {eff past : Bool} {rest : List (Nat × Nat)}
theorem IR (h:K st):D1 P ops stop eff past [] st K:=fun _ _ _ _ _ _ _ _ hR hN=>hN _ _ _ h hR
theorem Vr (hi:ops[i]?=some o) (hg:o.guard=none) (hd:Vc o st.n=true) (h:∀ K':ST->Prop,(∀ st',D1 P ops stop eff past rest st' K->K' st')->Vd P o st K'):D1 P ops stop eff past ((i,0) :: rest) st K:=by
 intro M0 w0 a w w1 Q he hp hR hN
 have h:=h (fun st'=>D1 P ops stop eff past rest st' K) (fun _ h=>h)
 obtain ⟨g,hpp,hR⟩:=hR
 unfold Vd at h
 split at h
 rotate_left
 ·exact h.elim
 rename_i c x hop
 obtain ⟨v,h1,h2⟩:=FE (P:=P) (ρ:=a.eval) (ev:=st.ev) hR.ev hop h.1
 exact ⟨o,v,hi,.inl ⟨by simp [Region.wanted,hg],fun W _=>h1 W⟩,h.2 M0 w0 _ w w1 Q he hp ⟨g,by cases o.dst <;> exact hpp,hR.put (B5 hd) h2⟩ hN⟩
theorem Vs (hi:ops[i]?=some o) (hg:o.guard=none) (hd:Vc o st.n=true) (h:∀ K':ST->Prop,(∀ st',D1 P ops stop false past rest st' K->K' st')->Ve P o st K'):D1 P ops stop false past ((i,1) :: rest) st K:=by
 intro M0 w0 a w w1 Q he hp hR hN
 have h:=h (fun st'=>D1 P ops stop false past rest st' K) (fun _ h=>h)
 obtain ⟨g,hpp,hR⟩:=hR
 unfold Ve at h
 split at h
 rotate_left
 ·exact h.elim
 rename_i c x hop
 obtain ⟨v,h1,h2⟩:=GO (P:=P) hR.hr hR.ev hop h.1
 have hw:=he rfl
 subst hw
 exact ⟨o,v,hi,.inl ⟨by simp [Region.wanted,hg],fun W hW=>h1 W hW⟩,h.2 M0 w0 _ w w Q he hp ⟨g,by cases o.dst <;> exact hpp,hR.put (B5 hd) h2⟩ hN⟩
theorem Vt {k:Nat} (hi:ops[i]?=some o) (hg:o.guard=none) (hns:(past || i == stop)=true) (h:∀ K':ST->Prop,(∀ st',D1 P ops stop true true rest st' K->K' st')->Stp P o st K'):D1 P ops stop eff past ((i,k+2) :: rest) st K:=by
 intro M0 w0 a w w1 Q he hp hR hN
 show wpOp P ops Q i _ a w
 unfold wpOp
 rw [hi]
 simp only [Region.wanted,hg,if_true,hns]
 exact .inl (h (fun st'=>D1 P ops stop true true rest st' K) (fun _ h=>h) M0 w0 a w _ Q hR fun st' a' w' h1 h2=>⟨.inl trivial,h1 M0 w0 a' w' w1 Q (by simp) (by simp) h2 hN⟩)
theorem Rel.drew {M0:Fm} {w0 w:World} {st:ST} {a:Act} (h:Rel M0 w0 st a w):Rel M0 w0 st a w.drew:=by
 obtain ⟨g,hpp,hR⟩:=h
 have hm:Mo g st.hp w g st.hp w.drew (fun _=>True):=⟨fun i hi=>⟨hi,rfl,rfl⟩,fun _ _ h=>h,gBu _,fun _ _ _=>rfl,fun i _ _ r' j k cs e1 e2=>⟨r',e1,e2,fun _=>rfl⟩⟩
 refine ⟨g,hpp,?_⟩
 have:=hR.mo (hp':=st.hp) hm ⟨hR.hr.ml,hR.hr.md,hR.hr.inj,fun id r e=>RowR.mo hm e (hR.hr.row id r e) (fun _=>rfl) (fun _ _ _ _ _=>⟨rfl,rfl⟩),fun id kv e=>MpR.mo hm e (hR.hr.mp id kv e) rfl,hm.gl hR.hr.gl⟩ hR.new (hR.fp.trans (Fp.drew _ _))
 exact this
theorem Af {Q:Exit->ST->Prop} {id:Nat} {l:List Oper} (stop:Nat) (ks:List (Nat × Nat)) (hm:P.follows .mixedOrders=true)
  (hs:(Region.noSelect l.toArray && Oi .any l.toArray stop ks (Array.replicate l.toArray.size false) && (ks.length == l.toArray.size))=true)
  (hQ:∀ c st,¬ Q (.panic c) st) (h:D1 P l.toArray stop false false ks st (Q .normal)):AW P (.region id l.toArray true) st Q:=by
 intro M0 w0 a w hR
 refine IQ (fun W=>Fp (fun _=>False) w.drew W) stop ks hm hs (fun c a d v w ⟨st',_,h⟩=>(hQ c st' h).elim) (Fp.refl _ _) ?_
 exact h M0 w0 a w.drew w.drew _ (fun _=>rfl) (fun _=>Fp.refl _ _) hR.drew fun st' a' w' h1 h2=>⟨st',h2,h1⟩
theorem Bl (hd:Vc o st.n=true) (h:Vf P o st K):Ud P o st K:=by
 intro M0 w0 a w N Q hR hN
 obtain ⟨g,⟨hp1,hp2⟩,hR⟩:=hR
 unfold Vf at h
 split at h
 rotate_left
 ·exact h.elim
 rename_i c ob f hop
 obtain ⟨v,w',h1,g',hx,hx2,h2,h3⟩:=Mb (P:=P) hR hop h.1
 unfold Oper.wp
 rw [h1]
 exact hN _ _ _ h.2 ⟨g',⟨by cases o.dst <;> (simp [ST.put];omega),by cases o.dst <;> exact hp2.trans (hx.le hp1)⟩,h2.put (B5 hd) h3⟩ hx2
end
/-! the builtin clear, at a window -/
theorem HW {P : Program} {o : Oper} {st : ST} {K : ST -> Prop} {t e : TypeId} {x : Operand} {z : Ty} {id off n k : Nat} {r : Row} (hd : Vc o st.n = true) (ho : o.op = .call ⟨.builtin .clear, #[x], #[t]⟩) (ht : P.underlying t = some (.slice e)) (hz : tyOf P e = some z)
  (hx : st.ev x = .a (.c (.w id off n k))) (hrow : st.hp[id]? = some (.r r)) (hn : 0 < n) (hlen : z.zero.length = k) (hone : (z.zero.map C.v).all C.one = true) (hfit : off * k + n * k <= r.cells.length)
  (h : ∀ zs : List C, zs.length = n * k -> (∀ c ∈ zs, c ∈ z.zero.map C.v) -> K ({ st with hp := st.hp.set id (.r { r with cells := De r.cells (off * k) zs }) }.put o.dst .u)) : Stp P o st K := by
 intro M0 w0 a w N Q hR hN
 obtain ⟨g, ⟨hp1, hp2⟩, hR⟩ := hR
 have hv := hR.ev x
 rw [hx] at hv
 obtain ⟨b1, b2, b3, b4⟩ := hv
 obtain ⟨zv, z1, z2⟩ := tyOf.zero hz w
 have hzs : zv.cells.size = k := by rw [<- hlen, <- z2]; simp
 let us := (Builtin.zeroCells zv.cells n).toList
 have hul : us.length = n * k := by simp [us, size_zeroCells, hzs]
 have hum : ∀ u ∈ us, u ∈ z.zero := by
  intro u hu
  have hu' : u ∈ Builtin.zeroCells zv.cells n := by simpa [us] using hu
  simp only [Builtin.zeroCells, Array.mem_map, Array.mem_range] at hu'
  obtain ⟨i, hi, rfl⟩ := hu'
  by_cases hk : k = 0
  ·rw [hzs, hk] at hi; simp at hi
  have hm : i % zv.cells.size < zv.cells.size := Nat.mod_lt _ (by omega)
  rw [<- z2]
  simp [hm]
 have hcm : ∀ c ∈ us.map C.v, c ∈ z.zero.map C.v := by
  intro c hc
  obtain ⟨u, hu, rfl⟩ := gB7.1 hc
  exact gB7.2 ⟨u, hum u hu, rfl⟩
 obtain ⟨w', r1, r2⟩ := BB (P := P) (off := off * k) (by omega) (us.map C.v) us 0 st w r hR hrow
  ⟨by simp, fun i c hc => by
   rw [gAC, gBG] at hc
   obtain ⟨u, hu, rfl⟩ := hc
   exact ⟨u, hu, rfl⟩⟩
  (by rw [gAg] at hone ⊢; exact fun c hc => hone c (hcm c hc)) (by simp only [gAN, hul]; omega)
 have hrun : (execOp a.eval o).run P w = .ok (.value (.tuple #[])) w' := by
  obtain ⟨m, rfl⟩ : ∃ m, n = m + 1 := ⟨n - 1, by omega⟩
  simp only [us] at r1
  unfold execOp
  simp only [ho, resolve, invoke, builtin, Sem.run_bind, Sem.run_pure, Result.andThen_ok, gAZ, gAV, gAX, b4]
  simp [Builtin.clear_, run_underlying ht, z1, r1]
 unfold Oper.wp
 rw [hrun]
 exact hN _ _ _ (h (us.map C.v) (by simp [hul]) hcm) ⟨g, ⟨by cases o.dst <;> (simp [ST.put]; omega), by cases o.dst <;> exact hp2⟩, RelG.put (st := { st with hp := st.hp.set id (.r { r with cells := De r.cells (off * k) (us.map C.v) }) }) r2 (B5 hd) trivial⟩
theorem AE {a b:Prop} (h:b) (p:a:=by first | omega | (simp;done) | (simp;omega)):a/\b:=⟨p,h⟩
end Go.Proofs.YtbnabodoabimnaaGreat
namespace Go.Proofs.YtbnabodoabimnaaGreat
set_option linter.unusedVariables false
set_option linter.unusedSimpArgs false
open Go.RowKit
section
variable {P : Program} {ops : Array Oper} {o : Oper} {st : ST} {K : ST -> Prop} {stop i j d : Nat} {eff past want : Bool} {rest : List (Nat × Nat)}
theorem Gu {g:Gh} {M0:Nat->Prop} {w0 w:World} {a:Act} (hg:o.guard=some (j,want)) (hj:(ops[j]?).bind (·.dst)=some d) (ht:st.get d=.b want) (hR:RelG g M0 w0 st a w):Region.wanted o (yielded ops a.tmps)=true:=by
 have hy:yielded ops a.tmps j=some want:=by
  unfold yielded
  rw [hj]
  have:=hR.tm d
  rw [ht] at this
  have hv:a.tmps.getD d undef=.bool want:=this
  simp only [Option.bind_some]
  rw [Array.getD_eq_getD_getElem?] at hv
  cases hd:a.tmps[d]? with
  | none=>rw [hd] at hv;cases hv
  | some v=>rw [hd] at hv;simp at hv;subst hv;rfl
 unfold Region.wanted
 rw [hg]
 simp only [hy]
 cases want <;> rfl
theorem Gv {g:Gh} {M0:Nat->Prop} {w0 w:World} {a:Act} {v:Value} (hg:o.guard=some (j,want)) (hj:(ops[j]?).bind (·.dst)=some d) (ht:st.get d=.a (.c (.v v))) (hv:v ≠ .bool want) (hR:RelG g M0 w0 st a w):Region.wanted o (yielded ops a.tmps)=false:=by
 unfold Region.wanted
 rw [hg]
 have:=hR.tm d
 rw [ht] at this
 have hx:a.tmps.getD d undef=v:=this
 rw [Array.getD_eq_getD_getElem?] at hx
 have hy:yielded ops a.tmps j ≠ some want:=by
  unfold yielded
  rw [hj]
  simp only [Option.bind_some]
  cases hq:a.tmps[d]? with
  | none=>simp
  | some u=>
   rw [hq] at hx
   simp only [gBF] at hx
   subst hx
   intro e
   split at e
   rotate_left
   ·cases e
   rename_i b hb
   simp only [gBI] at hb e
   subst e
   exact hv hb
 simpa using hy
theorem Mm {r:List Oper} {v:Value} (hg:o.guard=some (j,want)) (hj:(ops[j]?).bind (·.dst)=some d) (ht:st.get d=.a (.c (.v v))) (hv:v ≠ .bool want) (hd:Vc o st.n=true)
  (h:Vi P ops r (st.put o.dst (.a (.c (.v undef)))) K):Vi P ops (o :: r) st K:=by
 intro M0 w0 a w Q hR hN
 obtain ⟨g,hpp,hR'⟩:=hR
 refine wpList_step fun K' hK'=>?_
 rw [Gv hg hj ht hv hR']
 exact hK' _ _ (h M0 w0 _ w Q ⟨g,by cases o.dst <;> exact hpp,hR'.put (B5 hd) rfl⟩ hN)
theorem AY {r:List Oper} (hg:o.guard=some (j,want)) (hj:(ops[j]?).bind (·.dst)=some d) (ht:st.get d=.b want)
  (h:∀ K':ST->Prop,(∀ st',Vi P ops r st' K->K' st')->Stp P o st K'):Vi P ops (o :: r) st K:=by
 intro M0 w0 a w Q hR hN
 obtain ⟨g,hpp,hR'⟩:=hR
 refine wpList_step fun K' hK'=>?_
 rw [Gu hg hj ht hR',if_pos rfl]
 exact h (fun st'=>Vi P ops r st' K) (fun _ h=>h) M0 w0 a w K' Q ⟨g,hpp,hR'⟩ fun st' a' w' q1 q2=>hK' _ _ (q1 M0 w0 a' w' Q q2 hN)
theorem UN (hi:ops[i]?=some o) (hg:o.guard=some (j,want)) (hj:(ops[j]?).bind (·.dst)=some d) (ht:st.get d=.b want) (hd:Vc o st.n=true) (h:∀ K':ST->Prop,(∀ st',D1 P ops stop eff past rest st' K->K' st')->Vd P o st K'):D1 P ops stop eff past ((i,0) :: rest) st K:=by
 intro M0 w0 a w w1 Q he hp hR hN
 have h:=h (fun st'=>D1 P ops stop eff past rest st' K) (fun _ h=>h)
 obtain ⟨g,hpp,hR⟩:=hR
 unfold Vd at h
 split at h
 rotate_left
 ·exact h.elim
 rename_i c x hop
 obtain ⟨v,h1,h2⟩:=FE (P:=P) (ρ:=a.eval) (ev:=st.ev) hR.ev hop h.1
 exact ⟨o,v,hi,.inl ⟨Gu hg hj ht hR,fun W _=>h1 W⟩,h.2 M0 w0 _ w w1 Q he hp ⟨g,by cases o.dst <;> exact hpp,hR.put (B5 hd) h2⟩ hN⟩
theorem UO (hi:ops[i]?=some o) (hg:o.guard=some (j,want)) (hj:(ops[j]?).bind (·.dst)=some d) (ht:st.get d=.b want) (hd:Vc o st.n=true) (h:∀ K':ST->Prop,(∀ st',D1 P ops stop false past rest st' K->K' st')->Ve P o st K'):D1 P ops stop false past ((i,1) :: rest) st K:=by
 intro M0 w0 a w w1 Q he hp hR hN
 have h:=h (fun st'=>D1 P ops stop false past rest st' K) (fun _ h=>h)
 obtain ⟨g,hpp,hR⟩:=hR
 unfold Ve at h
 split at h
 rotate_left
 ·exact h.elim
 rename_i c x hop
 obtain ⟨v,h1,h2⟩:=GO (P:=P) hR.hr hR.ev hop h.1
 have hw:=he rfl
 subst hw
 exact ⟨o,v,hi,.inl ⟨Gu hg hj ht hR,fun W hW=>h1 W hW⟩,h.2 M0 w0 _ w w Q he hp ⟨g,by cases o.dst <;> exact hpp,hR.put (B5 hd) h2⟩ hN⟩
theorem Ue {k:Nat} (hi:ops[i]?=some o) (hg:o.guard=some (j,want)) (hj:(ops[j]?).bind (·.dst)=some d) (ht:st.get d=.b want) (hns:(past || i == stop)=true) (h:∀ K':ST->Prop,(∀ st',D1 P ops stop true true rest st' K->K' st')->Stp P o st K'):D1 P ops stop eff past ((i,k+2) :: rest) st K:=by
 intro M0 w0 a w w1 Q he hp hR hN
 obtain ⟨g,hpp,hR'⟩:=hR
 show wpOp P ops Q i _ a w
 unfold wpOp
 rw [hi]
 simp only [Gu hg hj ht hR',if_true,hns]
 exact .inl (h (fun st'=>D1 P ops stop true true rest st' K) (fun _ h=>h) M0 w0 a w _ Q ⟨g,hpp,hR'⟩ fun st' a' w' h1 h2=>⟨.inl trivial,h1 M0 w0 a' w' w1 Q (by simp) (by simp) h2 hN⟩)
theorem Th {k:Nat} {v:Value} (hk:k=0\/k=1) (hi:ops[i]?=some o) (hg:o.guard=some (j,want)) (hj:(ops[j]?).bind (·.dst)=some d) (ht:st.get d=.a (.c (.v v))) (hv:v ≠ .bool want) (hd:Vc o st.n=true)
  (h:D1 P ops stop eff past rest (st.put o.dst (.a (.c (.v undef)))) K):D1 P ops stop eff past ((i,k) :: rest) st K:=by
 intro M0 w0 a w w1 Q he hp hR hN
 obtain ⟨g,hpp,hR⟩:=hR
 have:=h M0 w0 (a.put o.dst undef) w w1 Q he hp ⟨g,by cases o.dst <;> exact hpp,hR.put (B5 hd) rfl⟩ hN
 rcases hk with rfl | rfl
 ·exact ⟨o,undef,hi,.inr ⟨Gv hg hj ht hv hR,rfl⟩,this⟩
 exact ⟨o,undef,hi,.inr ⟨Gv hg hj ht hv hR,rfl⟩,this⟩
theorem UP {k:Nat} {v:Value} (hi:ops[i]?=some o) (hg:o.guard=some (j,want)) (hj:(ops[j]?).bind (·.dst)=some d) (ht:st.get d=.a (.c (.v v))) (hv:v ≠ .bool want) (hd:Vc o st.n=true)
  (h:D1 P ops stop eff (past || i == stop) rest (st.put o.dst (.a (.c (.v undef)))) K):D1 P ops stop eff past ((i,k+2) :: rest) st K:=by
 intro M0 w0 a w w1 Q he hp hR hN
 obtain ⟨g,hpp,hR⟩:=hR
 have hf:=Gv hg hj ht hv hR
 have:=h M0 w0 (a.put o.dst undef) w w1 Q he (fun e=>hp (by simp at e;exact e.1)) ⟨g,by cases o.dst <;> exact hpp,hR.put (B5 hd) rfl⟩ hN
 show wpOp P ops Q i _ a w
 unfold wpOp
 rw [hi]
 simp only [hf,gA5,if_false]
 refine ⟨?_,this⟩
 cases hpast:past || i == stop with
 | true=>exact .inl rfl
 | false=>exact .inr (hp (by simp at hpast;exact hpast.1))
end
end Go.Proofs.YtbnabodoabimnaaGreat
namespace Go.Proofs.YtbnabodoabimnaaGreat
set_option linter.unusedVariables false
set_option linter.unusedSimpArgs false
open Go.RowKit
theorem FC.frz {P:Program} {f:FuncId} {args:List AV} {e k n:Nat} {cs:List C} {ts:List Tr} (h:FC P f args [] (fun r o=>r=.a (.c (.s 0 n))/\o=[.r ⟨e,k,true,cs⟩])) (hz:Fz cs ts) (hk:0<k) (hn:n*k=ts.length):
  FC P f args [] (fun r o=>o=[]/\r=.a (.c (.t k ts))):=by
 intro g w vals hr ha
 refine (h g w vals hr ha).mono ?_
 rintro x w' ⟨v,r,outs,g',rfl,⟨rfl,rfl⟩,h1,h2,h3,h4,h5⟩
 have hR:RelG g' (Gg [] g) w { tm:=[(0,.a (.c (.s 0 n)))],hp:=[.r ⟨e,k,true,cs⟩],n:=1,pin:=0 } { tmps:=#[v],defers:=[] } w':=by
  refine ⟨h1,h3,fun d=>?_,rfl,rfl,h5⟩
  simp only [ST.get,Ek]
  split
  ·rename_i hd;subst hd;exact h4
  trivial
 have hF:=hR.freeze (id:=0) (r:=⟨e,k,true,cs⟩) rfl hz hk
 have hv:=hF.tm 0
 have e0:(ST.frz { tm:=[(0,.a (.c (.s 0 n)))],hp:=[.r ⟨e,k,true,cs⟩],n:=1,pin:=0 } 0 k ts).get 0=.a (.c (.t k ts)):=by
  simp only [ST.frz,ST.get,Ek,gAV,gAX,AV.frz,A0.frz,C.frz,if_true,hn,gBu,gBn]
 rw [show (({ tm:=[(0,.a (.c (.s 0 n)))],hp:=[.r ⟨e,k,true,cs⟩],n:=1,pin:=0 }:ST).frz 0 (⟨e,k,true,cs⟩:Row).k ts).get 0=.a (.c (.t k ts)) from e0] at hv
 have hp:=hF.hr.pk (ρ:=[]) (M:=g'.M) (fun b hb=>.inl hb) hF.hr.ml (fun ℓ hl=>by
  cases ℓ with
  | ob i=>rcases hl with ⟨r,e1,_⟩ | ⟨kv,e1⟩ <;> simp [Vk] at e1
  | cl i j=>obtain ⟨r,_,_,e1,_⟩:=hl;simp [Vk] at e1) rfl
 have hv2:=AVR.ren (ρ:=[]) (M:=g'.M) (fun b hb=>.inl hb) hv
 refine ⟨v,.a (.c (.t k ts)),[],_,rfl,⟨rfl,rfl⟩,hp,⟨gBu _,h2.2.1,fun i hi=>by simp at hi⟩,fun ℓ hl=>?_,hv2,h5⟩
 cases ℓ with
 | ob i=>rcases hl with ⟨r,e1,_⟩ | ⟨kv,e1⟩ <;> simp at e1
 | cl i j=>obtain ⟨r,_,_,e1,_⟩:=hl;simp at e1
/-! steps in one go; what the evaluator needs of lists and numbers, in one theorem -/
def gv (x:AV) (want:Bool) (a b:Prop):Prop:=
 match x,want with
 | .a (.c (.v (.bool true))),true=>a
 | .a (.c (.v (.bool false))),false=>a
 | .a (.c (.v (.bool true))),false=>b
 | .a (.c (.v (.bool false))),true=>b
 | .a (.c (.v (.tuple _))),_=>b
 | _,_=>False
theorem BW {x:AV} {want:Bool} {a b:Prop} (h:gv x want a b):(x=.b want/\a)\/(∃ v,x=.a (.c (.v v))/\v ≠ .bool want/\b):=by
 unfold gv at h
 split at h
 ·exact .inl ⟨rfl,h⟩
 ·exact .inl ⟨rfl,h⟩
 ·exact .inr ⟨_,rfl,by simp,h⟩
 ·exact .inr ⟨_,rfl,by simp,h⟩
 ·exact .inr ⟨_,rfl,by simp,h⟩
 exact h.elim
section
variable {P : Program} {ops : Array Oper} {o : Oper} {st : ST} {K : ST -> Prop} {stop i j d : Nat} {eff past want : Bool} {rest : List (Nat × Nat)}
theorem Uf {r:List Oper} (hg:o.guard=some (j,want)) (hj:(ops[j]?).bind (·.dst)=some d) (hd:Vc o st.n=true)
  (h:∀ K':ST->Prop,(∀ st',Vi P ops r st' K->K' st')->gv (st.get d) want (Vh P o st K') (K' (st.put o.dst (.a (.c (.v undef)))))):Vi P ops (o :: r) st K:=by
 rcases BW (h (fun st'=>Vi P ops r st' K) (fun _ h=>h)) with ⟨h1,_⟩ | ⟨v,h1,h2,h3⟩
 rotate_left
 ·exact Mm hg hj h1 h2 hd h3
 refine AY hg hj h1 fun K' hK'=>Bc hd ?_
 rcases BW (h K' hK') with ⟨_,h2⟩ | ⟨v,h2,h3,_⟩
 ·exact h2
 rw [h1] at h2;cases h2;exact absurd rfl h3
theorem UQ (hi:ops[i]?=some o) (hg:o.guard=some (j,want)) (hj:(ops[j]?).bind (·.dst)=some d) (hd:Vc o st.n=true) (h:∀ K':ST->Prop,(∀ st',D1 P ops stop eff past rest st' K->K' st')->gv (st.get d) want (Vd P o st K') (K' (st.put o.dst (.a (.c (.v undef)))))):D1 P ops stop eff past ((i,0) :: rest) st K:=by
 rcases BW (h (fun st'=>D1 P ops stop eff past rest st' K) (fun _ h=>h)) with ⟨h1,_⟩ | ⟨v,h1,h2,h3⟩
 rotate_left
 ·exact Th (.inl rfl) hi hg hj h1 h2 hd h3
 refine UN hi hg hj h1 hd fun K' hK'=>?_
 rcases BW (h K' hK') with ⟨_,h2⟩ | ⟨v,h2,h3,_⟩
 ·exact h2
 rw [h1] at h2;cases h2;exact absurd rfl h3
theorem UR (hi:ops[i]?=some o) (hg:o.guard=some (j,want)) (hj:(ops[j]?).bind (·.dst)=some d) (hd:Vc o st.n=true) (h:∀ K':ST->Prop,(∀ st',D1 P ops stop false past rest st' K->K' st')->gv (st.get d) want (Ve P o st K') (K' (st.put o.dst (.a (.c (.v undef)))))):D1 P ops stop false past ((i,1) :: rest) st K:=by
 rcases BW (h (fun st'=>D1 P ops stop false past rest st' K) (fun _ h=>h)) with ⟨h1,_⟩ | ⟨v,h1,h2,h3⟩
 rotate_left
 ·exact Th (.inr rfl) hi hg hj h1 h2 hd h3
 refine UO hi hg hj h1 hd fun K' hK'=>?_
 rcases BW (h K' hK') with ⟨_,h2⟩ | ⟨v,h2,h3,_⟩
 ·exact h2
 rw [h1] at h2;cases h2;exact absurd rfl h3
theorem US {k:Nat} (hi:ops[i]?=some o) (hg:o.guard=some (j,want)) (hj:(ops[j]?).bind (·.dst)=some d) (hns:(past || i == stop)=true) (hd:Vc o st.n=true) (h:∀ K':ST->Prop,(∀ st',D1 P ops stop true true rest st' K->K' st')->gv (st.get d) want (Vh P o st K') False):D1 P ops stop eff past ((i,k+2) :: rest) st K:=by
 rcases BW (h (fun st'=>D1 P ops stop true true rest st' K) (fun _ h=>h)) with ⟨h1,_⟩ | ⟨v,h1,h2,h3⟩
 rotate_left
 ·exact h3.elim
 refine Ue hi hg hj h1 hns fun K' hK'=>Bc hd ?_
 rcases BW (h K' hK') with ⟨_,h2⟩ | ⟨v,h2,h3,_⟩
 ·exact h2
 rw [h1] at h2;cases h2;exact absurd rfl h3
theorem UC {k:Nat} (hi:ops[i]?=some o) (hg:o.guard=some (j,want)) (hj:(ops[j]?).bind (·.dst)=some d) (hd:Vc o st.n=true) (h:∀ K':ST->Prop,(∀ st',D1 P ops stop eff (past || i == stop) rest st' K->K' st')->gv (st.get d) want False (K' (st.put o.dst (.a (.c (.v undef)))))):D1 P ops stop eff past ((i,k+2) :: rest) st K:=by
 rcases BW (h (fun st'=>D1 P ops stop eff (past || i == stop) rest st' K) (fun _ h=>h)) with ⟨_,h2⟩ | ⟨v,h1,h2,h3⟩
 ·exact h2.elim
 exact UP hi hg hj h1 h2 hd h3
end
def JO (ops:Array Oper) (o:Oper):Option (Option Nat × Bool):=
 match o.guard with
 | none=>some (none,true)
 | some (j,w)=>((ops[j]?).bind (·.dst)).map fun d=>(some d,w)
def Iy (st:ST):Option Nat->AV
 | none=>.a (.c (.v (.bool true)))
 | some d=>st.get d
theorem D5 {ops:Array Oper} {o:Oper} {dd:Option Nat} {want:Bool} (h:JO ops o=some (dd,want)):(o.guard=none/\dd=none/\want=true)\/∃ j d,o.guard=some (j,want)/\(ops[j]?).bind (·.dst)=some d/\dd=some d:=by
 unfold JO at h
 split at h
 ·rename_i hg;cases h;exact .inl ⟨hg,rfl,rfl⟩
 rename_i j w hg
 rw [gBG] at h
 obtain ⟨d,hd,he⟩:=h
 cases he
 exact .inr ⟨j,d,hg,hd,rfl⟩
section
variable {P : Program} {ops : Array Oper} {o : Oper} {st : ST} {K : ST -> Prop} {stop i : Nat} {eff past want : Bool} {dd : Option Nat} {rest : List (Nat × Nat)}
theorem AX {r:List Oper} (hx:JO ops o=some (dd,want)) (hd:Vc o st.n=true)
  (h:∀ K':ST->Prop,(∀ st',Vi P ops r st' K->K' st')->gv (Iy st dd) want (Vh P o st K') (K' (st.put o.dst (.a (.c (.v undef)))))):Vi P ops (o :: r) st K:=by
 rcases D5 hx with ⟨hg,rfl,rfl⟩ | ⟨j,d,hg,hj,rfl⟩
 ·exact Aj hg fun K' hK'=>Bc hd (h K' hK')
 exact Uf hg hj hd h
theorem QP (hi:ops[i]?=some o) (hx:JO ops o=some (dd,want)) (hd:Vc o st.n=true) (h:∀ K':ST->Prop,(∀ st',D1 P ops stop eff past rest st' K->K' st')->gv (Iy st dd) want (Vd P o st K') (K' (st.put o.dst (.a (.c (.v undef)))))):D1 P ops stop eff past ((i,0) :: rest) st K:=by
 rcases D5 hx with ⟨hg,rfl,rfl⟩ | ⟨j,d,hg,hj,rfl⟩
 ·exact Vr hi hg hd fun K' hK'=>h K' hK'
 exact UQ hi hg hj hd h
theorem QQ (hi:ops[i]?=some o) (hx:JO ops o=some (dd,want)) (hd:Vc o st.n=true) (h:∀ K':ST->Prop,(∀ st',D1 P ops stop false past rest st' K->K' st')->gv (Iy st dd) want (Ve P o st K') (K' (st.put o.dst (.a (.c (.v undef)))))):D1 P ops stop false past ((i,1) :: rest) st K:=by
 rcases D5 hx with ⟨hg,rfl,rfl⟩ | ⟨j,d,hg,hj,rfl⟩
 ·exact Vs hi hg hd fun K' hK'=>h K' hK'
 exact UR hi hg hj hd h
theorem QR {k:Nat} (hi:ops[i]?=some o) (hx:JO ops o=some (dd,want)) (hns:(past || i == stop)=true) (hd:Vc o st.n=true) (h:∀ K':ST->Prop,(∀ st',D1 P ops stop true true rest st' K->K' st')->gv (Iy st dd) want (Vh P o st K') False):D1 P ops stop eff past ((i,k+2) :: rest) st K:=by
 rcases D5 hx with ⟨hg,rfl,rfl⟩ | ⟨j,d,hg,hj,rfl⟩
 ·exact Vt hi hg hns fun K' hK'=>Bc hd (h K' hK')
 exact US hi hg hj hns hd h
end
theorem Vu:(∀ {α β:Type} {f:α->β} {a:α} {l:List α},List.map f (a :: l)=f a :: List.map f l)/\(∀ {α β:Type} {f:α->β},List.map f []=[])/\(∀ {α:Type} {a:α} {l:List α},(a :: l).length=l.length+1)/\(∀ {α:Type},([]:List α).length=0)/\
  (∀ {α:Type} {a:α} {l:List α},(a :: l)[0]?=some a)/\(∀ {α:Type} {a:α} {l:List α} {i:Nat},(a :: l)[i+1]?=l[i]?)/\(∀ {α β:Type} {f:α->β} {x:α},Option.map f (some x)=some (f x))/\(∀ {α β:Type} {f:α->β},Option.map f none=none)/\
  (∀ {α:Type} {h:Decidable True} (t e:α),@ite α True h t e=t)/\(∀ {α:Type} {h:Decidable False} (t e:α),@ite α False h t e=e)/\(∀ {h:Decidable True} (t e:Prop),@ite Prop True h t e=t)/\(∀ {h:Decidable False} (t e:Prop),@ite Prop False h t e=e)/\
  (∀ n:Nat,n*1=n)/\(∀ n:Nat,0*n=0)/\(∀ n:Nat,0+n=n)/\(∀ n:Nat,n+0=n)/\(∀ n:Nat,(n:Int).toNat=n)/\(∀ n:Nat,n / 1=n)/\(∀ n:Nat,(n<n+1)=True)/\((0<1)=True)/\
  (∀ p:Prop,(True->p)=p)/\(∀ p:Prop,(False->p)=True)/\((false=true)=False)/\(∀ p:Prop,(p\/False)=p)/\(∀ p:Prop,(False\/p)=p)/\(∀ p:Prop,(p\/True)=True)/\(∀ p:Prop,(True\/p)=True)/\(∀ p:Prop,(p/\False)=False)/\(∀ p:Prop,(False/\p)=False)/\(∀ p:Prop,(True/\p)=p)/\(∀ p:Prop,(p/\True)=p)/\
  (∀ {h:Decidable True},@decide True h=true)/\(∀ {h:Decidable False},@decide False h=false)/\(∀ {α:Type},([]:List (List α)).flatten=[])/\(∀ {α:Type} {a:List α} {l:List (List α)},(a :: l).flatten=a++l.flatten)/\
  (∀ {α:Type} {p:α->Bool},[].all p=true)/\(∀ {α:Type} {p:α->Bool} {a:α} {l:List α},(a :: l).all p=(p a && l.all p))/\(∀ b:Bool,(b && true)=b)/\(∀ b:Bool,(true && b)=b)/\(∀ b:Bool,(b && false)=false)/\(∀ b:Bool,(false && b)=false)/\
  (∀ {α:Type} {l:List α},[]++l=l)/\(∀ {α:Type} {a:α} {l m:List α},a :: l++m=a :: (l++m))/\(∀ {α:Type} [BEq α] [ReflBEq α] {a:α},(a == a)=true):=by
 refine ⟨?_,?_,?_,?_,?_,?_,?_,?_,?_,?_,?_,?_,?_,?_,?_,?_,?_,?_,?_,?_,?_,?_,?_,?_,?_,?_,?_,?_,?_,?_,?_,?_,?_,?_,?_,?_,?_,?_,?_,?_,?_,?_,?_,?_⟩ <;> intros <;> simp
theorem Vv:type_of% @List.getElem_toArray.{0}/\type_of% @List.getElem_cons_zero.{0}/\type_of% @List.getElem_cons_succ.{0}/\type_of% @Bool.or_true/\type_of% @Bool.or_false:=
 ⟨@List.getElem_toArray,@List.getElem_cons_zero,@List.getElem_cons_succ,@Bool.or_true,@Bool.or_false⟩
theorem Vw:(((((((type_of% @Vh.eq_1/\type_of% @Vd.eq_1)/\(type_of% @Ve.eq_1/\type_of% @Vf.eq_1))/\((type_of% @Vg.eq_1/\type_of% @OB.eq_1)/\(type_of% @V8.eq_1/\(type_of% @V8.eq_2/\type_of% @V8.eq_3))))/\(((type_of% @V8.eq_4/\type_of% @V8.eq_5)/\(type_of% @V8.eq_6/\type_of% @V8.eq_7))/\((type_of% @V8.eq_8/\type_of% @V8.eq_9)/\(type_of% @V8.eq_10/\(type_of% @V8.eq_11/\type_of% @V8.eq_12)))))/\((((type_of% @V8.eq_13/\type_of% @V8.eq_14)/\(type_of% @V8.eq_15/\type_of% @V8.eq_16))/\((type_of% @V9.eq_1/\type_of% @V9.eq_2)/\(type_of% @V9.eq_3/\(type_of% @Va.eq_1/\type_of% @Va.eq_2))))/\(((type_of% @Va.eq_3/\type_of% @Va.eq_4)/\(type_of% @Va.eq_5/\(type_of% @Va.eq_6/\type_of% @Vb.eq_1)))/\((type_of% @QH.eq_1/\type_of% @M4.eq_1)/\(type_of% @T3.eq_1/\(type_of% @T4.eq_1/\type_of% @V7.eq_1))))))/\(((((type_of% @M5.eq_1/\type_of% @HB.eq_1)/\(type_of% @D4.eq_1/\type_of% @F6.eq_1))/\((type_of% @HD.eq_1/\type_of% @T5.eq_1)/\(type_of% @HE.eq_1/\(type_of% @T6.eq_1/\type_of% @SR.eq_1))))/\(((type_of% @M6.eq_1/\type_of% @DX.eq_1)/\(type_of% @U6.eq_1/\type_of% @M9.eq_1))/\((type_of% @T8.eq_1/\type_of% @HK.eq_1)/\(type_of% @T9.eq_1/\(type_of% @Ma.eq_1/\type_of% @Ee.eq_1)))))/\((((type_of% @Ee.eq_2/\type_of% @Ee.eq_3)/\(type_of% @Ee.eq_4/\type_of% @Ee.eq_5))/\((type_of% @Ee.eq_6/\type_of% @Dt.eq_1)/\(type_of% @Dt.eq_2/\(type_of% @Dt.eq_3/\type_of% @Dt.eq_4))))/\(((type_of% @Ff.eq_1/\type_of% @Ff.eq_2)/\(type_of% @Ff.eq_3/\(type_of% @Ff.eq_4/\type_of% @Ff.eq_5)))/\((type_of% @Ff.eq_6/\type_of% @Ff.eq_7)/\(type_of% @Ff.eq_8/\(type_of% @Ff.eq_9/\type_of% @Ff.eq_10)))))))/\((((((type_of% @El.eq_1/\type_of% @El.eq_2)/\(type_of% @El.eq_3/\type_of% @El.eq_4))/\((type_of% @El.eq_5/\type_of% @El.eq_6)/\(type_of% @Gm.eq_1/\(type_of% @Gm.eq_2/\type_of% @Gm.eq_3))))/\(((type_of% @Gm.eq_4/\type_of% @Gm.eq_5)/\(type_of% @Gm.eq_6/\type_of% @Gm.eq_7))/\((type_of% @V5.eq_1/\type_of% @V5.eq_2)/\(type_of% @V5.eq_3/\(type_of% @FB.eq_1/\type_of% @FB.eq_2)))))/\((((type_of% @FB.eq_3/\type_of% @V6.eq_1)/\(type_of% @V6.eq_2/\type_of% @M3.eq_1))/\((type_of% @A0.cells.eq_1/\type_of% @A0.cells.eq_2)/\(type_of% @A0.ones.eq_1/\(type_of% @A0.ones.eq_2/\type_of% @AV.zeroOf.eq_1))))/\(((type_of% @De.eq_1/\type_of% @De.eq_2)/\(type_of% @Fa.eq_1/\(type_of% @Fa.eq_2/\type_of% @Fa.eq_3)))/\((type_of% @LS.eq_1/\type_of% @LS.eq_2)/\(type_of% @LS.eq_3/\(type_of% @C.one.eq_1/\type_of% @C.one.eq_2))))))/\(((((type_of% @C.one.eq_3/\type_of% @C.one.eq_4)/\(type_of% @C.one.eq_5/\type_of% @C.one.eq_6))/\((type_of% @C.pl.eq_1/\type_of% @C.pl.eq_2)/\(type_of% @C.pl.eq_3/\(type_of% @C.ofTr.eq_1/\type_of% @C.ofTr.eq_2))))/\(((type_of% @T7.eq_1/\type_of% @CX.eq_1)/\(type_of% @rep.eq_1/\type_of% @rep.eq_2))/\((type_of% @FH.eq_1/\type_of% @FH.eq_2)/\(type_of% @ST.ev.eq_1/\(type_of% @ST.ev.eq_2/\type_of% @ST.ev.eq_3)))))/\((((type_of% @ST.ev.eq_4/\type_of% @ST.get.eq_1)/\(type_of% @ST.put.eq_1/\type_of% @ST.put.eq_2))/\((type_of% @Ek.eq_1/\type_of% @Ek.eq_2)/\(type_of% @AV.i.eq_1/\(type_of% @AV.b.eq_1/\type_of% @AV.u.eq_1))))/\(((type_of% @L6.eq_1/\type_of% @Vj.eq_1)/\(type_of% @Iy.eq_1/\(type_of% @Iy.eq_2/\type_of% @gv.eq_1)))/\((type_of% @gv.eq_2/\type_of% @gv.eq_3)/\(type_of% @gv.eq_4/\(type_of% @gv.eq_5/\type_of% @gv.eq_6)))))))):=
 ⟨⟨⟨⟨⟨⟨⟨@Vh.eq_1,@Vd.eq_1⟩,⟨@Ve.eq_1,@Vf.eq_1⟩⟩,⟨⟨@Vg.eq_1,@OB.eq_1⟩,⟨@V8.eq_1,⟨@V8.eq_2,@V8.eq_3⟩⟩⟩⟩,⟨⟨⟨@V8.eq_4,@V8.eq_5⟩,⟨@V8.eq_6,@V8.eq_7⟩⟩,⟨⟨@V8.eq_8,@V8.eq_9⟩,⟨@V8.eq_10,⟨@V8.eq_11,@V8.eq_12⟩⟩⟩⟩⟩,⟨⟨⟨⟨@V8.eq_13,@V8.eq_14⟩,⟨@V8.eq_15,@V8.eq_16⟩⟩,⟨⟨@V9.eq_1,@V9.eq_2⟩,⟨@V9.eq_3,⟨@Va.eq_1,@Va.eq_2⟩⟩⟩⟩,⟨⟨⟨@Va.eq_3,@Va.eq_4⟩,⟨@Va.eq_5,⟨@Va.eq_6,@Vb.eq_1⟩⟩⟩,⟨⟨@QH.eq_1,@M4.eq_1⟩,⟨@T3.eq_1,⟨@T4.eq_1,@V7.eq_1⟩⟩⟩⟩⟩⟩,⟨⟨⟨⟨⟨@M5.eq_1,@HB.eq_1⟩,⟨@D4.eq_1,@F6.eq_1⟩⟩,⟨⟨@HD.eq_1,@T5.eq_1⟩,⟨@HE.eq_1,⟨@T6.eq_1,@SR.eq_1⟩⟩⟩⟩,⟨⟨⟨@M6.eq_1,@DX.eq_1⟩,⟨@U6.eq_1,@M9.eq_1⟩⟩,⟨⟨@T8.eq_1,@HK.eq_1⟩,⟨@T9.eq_1,⟨@Ma.eq_1,@Ee.eq_1⟩⟩⟩⟩⟩,⟨⟨⟨⟨@Ee.eq_2,@Ee.eq_3⟩,⟨@Ee.eq_4,@Ee.eq_5⟩⟩,⟨⟨@Ee.eq_6,@Dt.eq_1⟩,⟨@Dt.eq_2,⟨@Dt.eq_3,@Dt.eq_4⟩⟩⟩⟩,⟨⟨⟨@Ff.eq_1,@Ff.eq_2⟩,⟨@Ff.eq_3,⟨@Ff.eq_4,@Ff.eq_5⟩⟩⟩,⟨⟨@Ff.eq_6,@Ff.eq_7⟩,⟨@Ff.eq_8,⟨@Ff.eq_9,@Ff.eq_10⟩⟩⟩⟩⟩⟩⟩,⟨⟨⟨⟨⟨⟨@El.eq_1,@El.eq_2⟩,⟨@El.eq_3,@El.eq_4⟩⟩,⟨⟨@El.eq_5,@El.eq_6⟩,⟨@Gm.eq_1,⟨@Gm.eq_2,@Gm.eq_3⟩⟩⟩⟩,⟨⟨⟨@Gm.eq_4,@Gm.eq_5⟩,⟨@Gm.eq_6,@Gm.eq_7⟩⟩,⟨⟨@V5.eq_1,@V5.eq_2⟩,⟨@V5.eq_3,⟨@FB.eq_1,@FB.eq_2⟩⟩⟩⟩⟩,⟨⟨⟨⟨@FB.eq_3,@V6.eq_1⟩,⟨@V6.eq_2,@M3.eq_1⟩⟩,⟨⟨@A0.cells.eq_1,@A0.cells.eq_2⟩,⟨@A0.ones.eq_1,⟨@A0.ones.eq_2,@AV.zeroOf.eq_1⟩⟩⟩⟩,⟨⟨⟨@De.eq_1,@De.eq_2⟩,⟨@Fa.eq_1,⟨@Fa.eq_2,@Fa.eq_3⟩⟩⟩,⟨⟨@LS.eq_1,@LS.eq_2⟩,⟨@LS.eq_3,⟨@C.one.eq_1,@C.one.eq_2⟩⟩⟩⟩⟩⟩,⟨⟨⟨⟨⟨@C.one.eq_3,@C.one.eq_4⟩,⟨@C.one.eq_5,@C.one.eq_6⟩⟩,⟨⟨@C.pl.eq_1,@C.pl.eq_2⟩,⟨@C.pl.eq_3,⟨@C.ofTr.eq_1,@C.ofTr.eq_2⟩⟩⟩⟩,⟨⟨⟨@T7.eq_1,@CX.eq_1⟩,⟨@rep.eq_1,@rep.eq_2⟩⟩,⟨⟨@FH.eq_1,@FH.eq_2⟩,⟨@ST.ev.eq_1,⟨@ST.ev.eq_2,@ST.ev.eq_3⟩⟩⟩⟩⟩,⟨⟨⟨⟨@ST.ev.eq_4,@ST.get.eq_1⟩,⟨@ST.put.eq_1,@ST.put.eq_2⟩⟩,⟨⟨@Ek.eq_1,@Ek.eq_2⟩,⟨@AV.i.eq_1,⟨@AV.b.eq_1,@AV.u.eq_1⟩⟩⟩⟩,⟨⟨⟨@L6.eq_1,@Vj.eq_1⟩,⟨@Iy.eq_1,⟨@Iy.eq_2,@gv.eq_1⟩⟩⟩,⟨⟨@gv.eq_2,@gv.eq_3⟩,⟨@gv.eq_4,⟨@gv.eq_5,@gv.eq_6⟩⟩⟩⟩⟩⟩⟩⟩
attribute [go_sem] Vw JF Oq Vu Vv undef reduceIte reduceCtorEq Nat.reduceEqDiff Nat.reduceAdd Nat.reduceMul Nat.reduceSub Nat.reduceDiv Nat.reduceLT Nat.reduceLeDiff Nat.reduceBEq Nat.reduceBNe List.reduceReplicate F9 idx Dn AV.ren A0.ren C.ren Ob.ren ST.pick ST.back Oh Do Vn AV.up A0.up C.up Ob.up AV.nb A0.nb C.nb List.contains_cons List.contains_nil gAz gAy gBj gBi
end Go.Proofs.YtbnabodoabimnaaGreat
