/- Lemmas. -/
import Derived.Test.YtbnabodoabimnaaGreatAm39
import Derived.Scope
namespace Go.Proofs.YtbnabodoabimnaaGreat
set_option linter.unusedVariables false
set_option linter.unusedSimpArgs false
open Go.RowKit
section
variable {P : Program} {ops : Array Oper} {Q : Exit -> Act -> World -> Prop}
def E2 (P:Program) (ops:Array Oper) (Q:Exit->Act->World->Prop) (H:Array Bool->World->Prop):Nat->Array Bool->Act->World->Prop
 | 0,listed,a,w=>Region.ready .any ops listed=[]/\Q .normal a w
 | fuel+1,listed,a,w=>(Region.ready .any ops listed=[]->Q .normal a w)/\
  ∀ i∈Region.ready .any ops listed,wpOp P ops Q i (fun a' w'=>H (listed.setIfInBounds i true) w'/\E2 P ops Q H fuel (listed.setIfInBounds i true) a' w') a w
theorem GS {H:Array Bool->World->Prop}:∀ (fuel:Nat) (listed:Array Bool) (a:Act) (w:World),E2 P ops Q H fuel listed a w->wpAny P .any ops Q fuel listed a w
 | 0,_,_,_,h=>h
 | fuel+1,_,_,_,h=>⟨h.1,fun i hi=>wpOp_mono (fun a' w' h'=>GS fuel _ a' w' h'.2) (h.2 i hi)⟩
theorem HX {H H':Array Bool->World->Prop} (hm:∀ l w,H l w->H' l w):∀ (fuel:Nat) (listed:Array Bool) (a:Act) (w:World),E2 P ops Q H fuel listed a w->E2 P ops Q H' fuel listed a w
 | 0,_,_,_,h=>h
 | fuel+1,_,_,_,h=>⟨h.1,fun i hi=>wpOp_mono (fun a' w' h'=>⟨hm _ _ h'.1,HX hm fuel _ a' w' h'.2⟩) (h.2 i hi)⟩
theorem DL {i:Nat} {oi:Oper} {v:Value} {S1:World->Prop} {H0 H1:Array Bool->World->Prop} (hi:ops[i]?=some oi) (hsel:∀ (j:Nat) (o:Oper) cs b,ops[j]?=some o->o.op ≠ .select cs b)
  (hQ:∀ c (a:Act) (d:Option Tmp) (v:Value) w,Q (.panic c) (a.put d v) w->Q (.panic c) a w) (hm:∀ l w,H1 l w->H0 l w) (hH:∀ l w,H1 (l.setIfInBounds i true) w->H0 l w)
  (hS:∀ (l:Array Bool) (w:World),Closed .any ops l->i∈Region.ready .any ops l->H1 (l.setIfInBounds i true) w->S1 w):
  ∀ (fuel:Nat) (listed:Array Bool) (a:Act) (w:World),Closed .any ops listed->
   (∀ j oj,ops[j]?=some oj->j ≠ i->listed.getD j true=false->(∀ e∈oj.after,Region.binds .any e=true->e.on ≠ i)->oi.apart ops oj=true)->
   i∈Region.ready .any ops listed->YieldsIf P ops S1 oi v a->H1 (listed.setIfInBounds i true) w->
   E2 P ops Q H1 fuel (listed.setIfInBounds i true) (a.put oi.dst v) w->E2 P ops Q H0 (fuel+1) listed a w:=by
 intro fuel
 induction fuel with
 | zero=>
  intro listed a w hcl _ hr hy hp H
  refine ⟨fun h=>(by rw [h] at hr;cases hr),fun j hj=>?_⟩
  by_cases hji:j=i
  ·subst hji;exact hy.wpOp hi (hS listed w hcl hr hp) ⟨hm _ _ hp,H⟩
  have:=ready_mono hj hji
  rw [H.1] at this
  cases this
 | succ fuel ih=>
  intro listed a w hcl hfree hr hy hp H
  refine ⟨fun h=>(by rw [h] at hr;cases hr),fun j hj=>?_⟩
  by_cases hji:j=i
  ·subst hji;exact hy.wpOp hi (hS listed w hcl hr hp) ⟨hm _ _ hp,HX hm _ _ _ _ H⟩
  have h1:=H.2 j (ready_mono hj hji)
  obtain ⟨hjun,oj,hoj,hall⟩:=mem_ready.1 hj
  have hnot:∀ e∈oj.after,Region.binds .any e=true->e.on ≠ i:=fun e he hb heq=>by
   have h1:=hall e he hb
   rw [heq,FK (mem_ready.1 hr).1] at h1
   cases h1
  have h2:=wpOp_putIf hoj (hfree j oj hoj hji hjun hnot) (fun cs b=>hsel i oi cs b hi) (fun cs b=>hsel j oj cs b hoj) (fun c a w h=>hQ c a _ _ w h) hy h1
  have hfree':∀ k ok,ops[k]?=some ok->k ≠ i->(listed.setIfInBounds j true).getD k true=false->
    (∀ e∈ok.after,Region.binds .any e=true->e.on ≠ i)->oi.apart ops ok=true:=fun k ok hk hki hun hno=>by
   refine hfree k ok hk hki ?_ hno
   by_cases hjk:j=k
   ·subst hjk;exact hjun
   ·rw [getD_set_ne true hjk] at hun;exact hun
  refine wpOp_mono (fun a' w' h3=>?_) h2
  have hc:=h3.2.1
  rw [Array.setIfInBounds_comm _ _ (Ne.symm hji)] at hc
  refine ⟨hH _ _ hc,ih (listed.setIfInBounds j true) a' w' (hcl.step hj) hfree' (ready_mono hr (Ne.symm hji)) h3.1 hc ?_⟩
  rw [Array.setIfInBounds_comm _ _ hji]
  exact h3.2.2

/-! the walk: (number, kind: 0 computes, 1 a load that holds until the operation stop comes up, 2 acts; stop) -/
abbrev Cs:=List (Nat × (World->Prop))
def HC (cs:Cs) (l:Array Bool) (w:World):Prop:=∀ c∈cs,l.getD c.1 false=true\/c.2 w
def VD (P:Program) (ops:Array Oper) (Q:Exit->Act->World->Prop):List (Nat × Nat × Nat)->List Nat->Cs->Act->World->Prop
 | [],_,_,a,w=>Q .normal a w
 | (i,0,_) :: r,done,cs,a,w=>∃ oi v,ops[i]?=some oi/\YieldsIf P ops (fun _=>True) oi v a/\VD P ops Q r done cs (a.put oi.dst v) w
 | (i,1,s) :: r,done,cs,a,w=>∃ oi v S,ops[i]?=some oi/\YieldsIf P ops S oi v a/\S w/\VD P ops Q r done ((s,S) :: cs) (a.put oi.dst v) w
 | (i,_,_) :: r,done,cs,a,w=>wpOp P ops Q i (fun a' w'=>(∀ c∈cs,c.1∈i :: done\/c.2 w')/\VD P ops Q r (i :: done) cs a' w') a w
theorem GT {listed:Array Bool}:∀ (es:List Edge) (m:Array Bool),(∀ i,m.getD i false=true->listed.getD i false=true)->(∀ e∈es,Region.binds .any e=true->listed.getD e.on false=true)->∀ i,(OE m es).getD i false=true->listed.getD i false=true
 | [],_,hm,_,i,h=>hm i h
 | e :: r,m,hm,he,i,h=>by
  unfold OE at h
  split at h
  ·rename_i hb
   refine GT r _ (fun q hq=>?_) (fun e' he'=>he e' (by simp [he'])) i h
   by_cases hqe:e.on=q
   ·subst hqe;exact he e (by simp) hb
   ·rw [getD_set_ne false hqe] at hq
    exact hm q hq
  ·exact GT r m hm (fun e' he'=>he e' (by simp [he'])) i h
theorem JR {listed:Array Bool} (hcl:Closed .any ops listed):∀ (k:Nat) (m:Array Bool),(∀ i,m.getD i false=true->listed.getD i false=true)->∀ i,(OG ops k m).getD i false=true->listed.getD i false=true
 | 0,_,hm,i,h=>hm i h
 | k+1,m,hm,i,h=>by
  unfold OG at h
  refine JR hcl k _ ?_ i h
  split
  ·rename_i o hk ho
   exact GT _ m hm (fun e he hb=>hcl k o ho (hm k hk) e (by simpa using he) hb)
  ·exact hm
theorem JS {listed:Array Bool} (hcl:Closed .any ops listed) {j i:Nat} (hj:listed.getD j false=true) (h:QS ops j i=true):listed.getD i false=true:=by
 refine JR hcl ops.size _ (fun q hq=>?_) i h
 by_cases hqj:j=q
 ·subst hqj;exact hj
 rw [getD_set_ne false hqj] at hq
 simp [Array.getElem?_replicate] at hq
 split at hq <;> simp at hq
theorem HC.unset {cs:Cs} {l:Array Bool} {w:World} {i:Nat} (hi:i ∉ cs.map (·.1)) (h:HC cs (l.setIfInBounds i true) w):HC cs l w:=by
 intro c hc
 rcases h c hc with h1 | h1
 rotate_left
 ·exact .inr h1
 left
 rwa [getD_set_ne false (by rintro rfl;exact hi (gB7.2 ⟨c,hc,rfl⟩))] at h1
theorem HC.set {cs:Cs} {l:Array Bool} {w:World} {i:Nat} (h:HC cs l w):HC cs (l.setIfInBounds i true) w:=fun c hc=>(h c hc).imp getD_set_true (fun h=>h)
theorem Eo (hs:Region.noSelect ops=true) (hQ:∀ c (a:Act) (d:Option Tmp) (v:Value) w,Q (.panic c) (a.put d v) w->Q (.panic c) a w):
  ∀ (l:List (Nat × Nat × Nat)) (done:List Nat) (cs:Cs) (listed:Array Bool) (a:Act) (w:World),Closed .any ops listed->OH ops l (cs.map (·.1)) listed=true->(∀ d∈done,listed.getD d false=true)->HC cs listed w->VD P ops Q l done cs a w->
   E2 P ops Q (HC cs) l.length listed a w
 | [],done,cs,listed,a,w,_,hc,_,_,h=>by
  simp only [OH,List.isEmpty_iff] at hc
  exact ⟨hc,h⟩
 | (i,0,s) :: r,done,cs,listed,a,w,hcl,hc,hdn,hh,h=>by
  simp only [OH,gA1,gA7,gAn,gBM,gBL] at hc
  obtain ⟨hf,hr,hni,hc⟩:=hc
  obtain ⟨oi,v,hi,hy,hT⟩:=h
  have ih:=Eo hs hQ r done cs _ _ w (hcl.step hr) hc (fun d hd=>getD_set_true (hdn d hd)) hh.set hT
  exact DL (S1:=fun _=>True) hi (Region.noSelect_spec hs) hQ (fun _ _ h=>h) (fun l w h=>h.unset hni) (fun _ _ _ _ _=>trivial) r.length listed a w hcl (Region.free_spec hi hf) hr hy hh.set ih
 | (i,1,s) :: r,done,cs,listed,a,w,hcl,hc,hdn,hh,h=>by
  simp only [OH,gA1,gA7,gAn,gBM,gBL,bne_iff_ne,ne_eq] at hc
  obtain ⟨hf,hr,hdep,hne,hni,hc⟩:=hc
  obtain ⟨oi,v,S,hi,hy,hSw,hT⟩:=h
  have hh1:HC ((s,S) :: cs) (listed.setIfInBounds i true) w:=by
   intro c hc
   rcases gB2.1 hc with rfl | hc
   ·exact .inr hSw
   ·exact hh.set c hc
  have ih:=Eo hs hQ r done ((s,S) :: cs) _ _ w (hcl.step hr) hc (fun d hd=>getD_set_true (hdn d hd)) hh1 hT
  refine DL (S1:=S) (H1:=HC ((s,S) :: cs)) hi (Region.noSelect_spec hs) hQ (fun l w h c hc=>h c (gEf _ hc)) (fun l w h=>HC.unset hni (fun c hc=>h c (gEf _ hc))) ?_ r.length listed a w hcl (Region.free_spec hi hf) hr hy hh1 ih
  intro l w hcl hr h
  rcases h (s,S) (by simp) with h1 | h1
  ·rw [getD_set_ne false hne] at h1
   have h2:=JS hcl h1 hdep
   rw [FK (mem_ready.1 hr).1] at h2
   cases h2
  ·exact h1
 | (i,k+2,s) :: r,done,cs,listed,a,w,hcl,hc,hdn,hh,h=>by
  simp only [OH,gA1,beq_iff_eq,gBM] at hc
  obtain ⟨hr,hlt,hc⟩:=hc
  refine ⟨fun h0=>absurd (h0 ▸ hr) (by simp),fun j hj=>?_⟩
  have hji:j=i:=by rw [hr] at hj;simpa using hj
  subst hji
  have h:wpOp P ops Q j (fun a' w'=>(∀ c∈cs,c.1∈j :: done\/c.2 w')/\VD P ops Q r (j :: done) cs a' w') a w:=h
  refine wpOp_mono (fun a' w' h'=>?_) h
  have hdn':∀ d∈j :: done,(listed.setIfInBounds j true).getD d false=true:=by
   intro d hd
   rcases gB2.1 hd with rfl | hd
   ·simp [hlt]
   ·exact getD_set_true (hdn d hd)
  have hh':HC cs (listed.setIfInBounds j true) w':=fun c hc=>(h'.1 c hc).imp (hdn' c.1) (fun h=>h)
  exact ⟨hh',Eo hs hQ r (j :: done) cs _ a' w' (hcl.step hj) hc hdn' hh' h'.2⟩
end
end Go.Proofs.YtbnabodoabimnaaGreat
namespace Go.Proofs.YtbnabodoabimnaaGreat
set_option linter.unusedVariables false
set_option linter.unusedSimpArgs false
open Go.RowKit
section
variable {P : Program} {ops : Array Oper} {Q : Exit -> Act -> World -> Prop}
end
section
variable {P : Program} {T : Tb} {ops : Array Oper} {k : RS -> Ans}
end
end Go.Proofs.YtbnabodoabimnaaGreat
namespace Go.Proofs.YtbnabodoabimnaaGreat
set_option linter.unusedVariables false
set_option linter.unusedSimpArgs false
open Go.RowKit
section
variable {P : Program} {T : Tb} {k : RS -> Ans}
theorem OI {c:Code} {st:ST} {Q:Exit->ST->Prop} (h:AW P c st (fun e s=>match e with | .goto _=>False | e=>Q e s)):AW P (.scope c) st Q:=by
 intro M0 w0 a w hR
 refine wp_scope_straight (wp_mono (h M0 w0 a w hR) ?_)
 rintro e a' w' ⟨st',h1,h2⟩
 cases e <;> first | exact h2.elim | exact ⟨st',h1,h2⟩
theorem OJ {l:Nat} {st:ST} {Q:Exit->ST->Prop} (h:Q .normal st):AW P (.label l) st Q:=fun _ _ _ _ hR=>wp_label ⟨st,hR,h⟩
end
end Go.Proofs.YtbnabodoabimnaaGreat
