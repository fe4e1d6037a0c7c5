/- Lemmas. -/
import Derived.Test.YtbnabodoabimnaaGreatAl
import Derived.WalkKit
import Derived.WalkSpells
import Derived.WalkLawsBesides
import Derived.BigQuiet
import Derived.Deep.QuietTactic
import Derived.Deep.RegionHeld3
import Derived.Deep.Draws
import Derived.Deep.AppendLies
import Derived.Maps.AppendAt
import Derived.Lib.Hide
import Derived.Outline
namespace Go.Proofs.YtbnabodoabimnaaGreat
set_option linter.unusedVariables false
set_option linter.unusedSimpArgs false
open Go.RowKit
/-! Frames: of the blocks that were there, only those of M may have changed. -/
structure Fr (M:List Nat) (w w':World):Prop where
 os:w'.os=w.os
 tape:w'.tape=w.tape
 output:w'.output=w.output
 size:w.heap.size<=w'.heap.size
 block:∀ k,k<w.heap.size->k ∉ M->w'.heap[k]?=w.heap[k]?

section
variable {M M' : List Nat} {a b c w w' : World}
theorem Fr.refl (M:List Nat) (w:World):Fr M w w:=⟨rfl,rfl,rfl,gBu _,fun _ _ _=>rfl⟩
theorem Fr.trans (h : Fr M a b) (k : Fr M b c) : Fr M a c :=
 ⟨k.os.trans h.os, k.tape.trans h.tape, k.output.trans h.output, gBv h.size k.size,
  fun i hi hm => (k.block i (gBw hi h.size) hm).trans (h.block i hi hm)⟩
theorem Fr.mono (h:Fr M a b) (hs:∀ k∈M,k<a.heap.size->k∈M'):Fr M' a b:=
 ⟨h.os,h.tape,h.output,h.size,fun k hk hm=>h.block k hk (fun hin=>hm (hs k hin hk))⟩
theorem Fr.any (h:Fr [] a b):Fr M a b:=h.mono (fun _ hk=>by cases hk)
theorem Fr.drop {m:Nat} (h:Fr (m :: M) a b) (hm:a.heap.size<=m):Fr M a b:=
 h.mono (fun k hk hlt=>by
  rcases gB2.1 hk with rfl | hk
  ·omega
  ·exact hk)
theorem Fr.cons {m:Nat} (h:Fr M a b):Fr (m :: M) a b:=h.mono (fun _ hk _=>gEf _ hk)
theorem Fr.drew (h:Fr M a w):Fr M a w.drew:=⟨h.os,h.tape,h.output,h.size,h.block⟩
theorem Fr.drewN (h:Fr M a w) (n:Nat):Fr M a (w.drewN n):=⟨h.os,h.tape,h.output,h.size,h.block⟩
theorem Fr.alloc (h:Fr M a w) (o:Obj):Fr M a (w.alloc o):=
 h.trans ⟨rfl,rfl,rfl,by simp,fun k hk _=>Below.heap_alloc _ _ _ hk⟩
theorem Fr.setCell (h : Fr M a w) {p : Addr} (hp : p.block ∈ M \/ a.heap.size <= p.block) (u : Value) : Fr M a (w.setCell p u) :=
 ⟨h.os, h.tape, h.output, by simpa [World.setCell] using h.size, fun k hk hm => (Below.heap_setCell _ _ _ _ (by
  rintro rfl
  rcases hp with hp | hp
  ·exact hm hp
  ·omega)).trans (h.block k hk hm)⟩
theorem Fr.below (h:Fr [] w w'):Below w.heap.size w w':=⟨h.os,h.tape,h.output,h.size,fun k hk=>h.block k hk (by simp)⟩
theorem Fr.cell (h:Fr M w w') {p:Addr} (hp:p.block<w.heap.size) (hm:p.block ∉ M):w'.cell? p=w.cell? p:=World.cell?_of_block (h.block p.block hp hm)
theorem Fr.grownBy {m:Nat} (h:Fr [m] a b):a.grownBy b (some m):=⟨h.os,h.tape,h.output,h.size,fun k hk hne=>h.block k hk (by simpa using fun e=>hne (by rw [e]))⟩
end

/-! A block that is known whole. -/
def Blk (w:World) (g:Nat) (e:TypeId) (cs:List Value):Prop:=w.heap[g]?=some (.cells cs.toArray e (0,0))
section
variable {w w' : World} {g : Nat} {e : TypeId} {cs : List Value} {M : List Nat}
theorem Blk.lt (h:Blk w g e cs):g<w.heap.size:=by
 rcases gBx g w.heap.size with hlt | hge
 ·exact hlt
 unfold Blk at h;rw [Array.getElem?_eq_none hge] at h;cases h
theorem Blk.cell (h:Blk w g e cs) (i:Nat):w.cell? ⟨g,i,none⟩=cs[i]?:=by
 rw [cell_of_row w g i _ e (0,0) h];simp
theorem Blk.frozen (h:Blk w g e cs) (i:Nat):w.frozen? ⟨g,i,none⟩=false:=by
 unfold Blk at h;simp [World.frozen?,h]
theorem Blk.new (w:World) (e:TypeId) (cs:List Value):Blk (w.alloc (.cells cs.toArray e)) w.heap.size e cs:=heap_alloc_new w _
theorem Blk.drew (h:Blk w g e cs):Blk w.drew g e cs:=h
theorem Blk.drewN (h:Blk w g e cs) (n:Nat):Blk (w.drewN n) g e cs:=h
theorem Blk.alloc (h:Blk w g e cs) (o:Obj):Blk (w.alloc o) g e cs:=(Below.heap_alloc w o g h.lt).trans h
theorem Blk.far (h:Blk w g e cs) {p:Addr} (hp:g ≠ p.block) (u:Value):Blk (w.setCell p u) g e cs:=(Below.heap_setCell w p u g hp).trans h
theorem Blk.fr (h:Blk w g e cs) (hf:Fr M w w') (hg:g ∉ M):Blk w' g e cs:=(hf.block g h.lt hg).trans h
end

/-! A slice that reads as a list of cells, in blocks that are not in M. -/
structure Sl (M:List Nat) (w:World) (A:Option Addr) (n c k:Nat) (cs:List Value):Prop where
 len:cs.length=n*k
 cap:n<=c
 at_:0<n->∃ b off,A=some ⟨b,off,none⟩/\b ∉ M/\b<w.heap.size/\∀ j u,cs[j]?=some u->w.cell? ⟨b,off+j,none⟩=some u

section
variable {M M' : List Nat} {w w' : World} {A : Option Addr} {n c k : Nat} {cs : List Value}
theorem Sl.nil (M:List Nat) (w:World) (k:Nat):Sl M w none 0 0 k []:=⟨by simp,gBu _,fun h=>absurd h (by omega)⟩
theorem Sl.empty (h:Sl M w A n c k cs) (hn:n=0) (M':List Nat) (w':World):Sl M' w' A n c k cs:=⟨h.len,h.cap,fun hp=>absurd hp (by omega)⟩
theorem Sl.keep (h : Sl M w A n c k cs) (hf : Fr M w w') : Sl M w' A n c k cs :=
 ⟨h.len, h.cap, fun hn => by
  obtain ⟨b, off, hA, hm, hb, hc⟩ := h.at_ hn
  exact ⟨b, off, hA, hm, gBw hb hf.size, fun j u hu => (hf.cell (p := ⟨b, off + j, none⟩) hb hm).trans (hc j u hu)⟩⟩
theorem Sl.sub (h : Sl M w A n c k cs) (hs : ∀ m ∈ M', m ∈ M) : Sl M' w A n c k cs :=
 ⟨h.len, h.cap, fun hn => by
  obtain ⟨b, off, hA, hm, r⟩ := h.at_ hn
  exact ⟨b, off, hA, fun hin => hm (hs _ hin), r⟩⟩
theorem Sl.plain (h:Sl M w A n c k cs):Sl [] w A n c k cs:=h.sub (fun _ hm=>by cases hm)
theorem Sl.new (h : Sl M w A n c k cs) {m : Nat} (hm : w.heap.size <= m) : Sl (m :: M) w A n c k cs :=
 ⟨h.len, h.cap, fun hn => by
  obtain ⟨b, off, hA, hm', hb, r⟩ := h.at_ hn
  exact ⟨b, off, hA, by simp only [gB2, not_or]; exact ⟨by omega, hm'⟩, hb, r⟩⟩
def Ol (A:Option Addr) (c i k:Nat):Option Addr:=if c=i then A else A.map (·.add (i*k))
theorem Sl.cut (h:Sl M w A n c k cs) {i j:Nat} (hij:i<=j) (hj:j<=n) (hk:0<k):
  Sl M w (Ol A c i k) (j - i) (c - i) k ((cs.drop (i*k)).take ((j - i)*k)):=by
 unfold Ol
 refine ⟨by rw [gAS,gAK,h.len,<- Nat.sub_mul,gBy];exact gBA _ (by omega),by have:=h.cap;omega,fun hn=>?_⟩
 obtain ⟨b,off,rfl,hm,hb,hc⟩:=h.at_ (by omega)
 rw [if_neg (by have:=h.cap;omega)]
 refine ⟨b,off+i*k,?_,hm,hb,fun q u hu=>?_⟩
 ·simp [Addr.add]
 rw [gAF] at hu
 split at hu
 rotate_left
 ·cases hu
 rw [gAA] at hu
 rw [Nat.add_assoc]
 exact hc _ u hu
end

/-! Lists of data as cells. -/
def cb (x:Bool):List Value:=[.bool x]
def cp (x:Int × Int):List Value:=[.int .i64 x.1,.int .i64 x.2]
def cv (x:Value):List Value:=[x]

theorem GK {α:Type} (f:α->List Value) (k:Nat) (hf:∀ x,(f x).length=k) (xs:List α):(xs.flatMap f).length=xs.length*k:=by
 induction xs with
 | nil=>simp
 | cons x xs ih=>simp only [gAu,gAI,hf,ih,gAJ,Nat.add_mul,Nat.one_mul];omega
theorem GL {α:Type} (f:α->List Value) (k:Nat) (hf:∀ x,(f x).length=k) (xs:List α) (i j:Nat) (x:α) (hx:xs[i]?=some x) (hj:j<k):
  (xs.flatMap f)[i*k+j]?=(f x)[j]?:=by
 induction xs generalizing i with
 | nil=>simp at hx
 | cons y ys ih=>
  cases i with
  | zero=>
   simp only [List.getElem?_cons_zero,gBI] at hx
   subst hx
   simp only [gAu,Nat.zero_mul,gBD]
   rw [gEa (by rw [hf];exact hj)]
  | succ i=>
   simp only [List.getElem?_cons_succ] at hx
   simp only [gAu]
   rw [gEb (by rw [hf,Nat.add_mul];omega),hf]
   rw [<- ih i hx]
   congr 1
   rw [Nat.add_mul];omega
theorem LX {α:Type} (f:α->List Value) (k:Nat) (hf:∀ x,(f x).length=k) (xs:List α) (i:Nat):(xs.flatMap f).drop (i*k)=(xs.drop i).flatMap f:=by
 induction i generalizing xs with
 | zero=>simp
 | succ i ih=>
  cases xs with
  | nil=>simp
  | cons x xs=>
   simp only [gAu,gAr]
   rw [show (i+1)*k=(f x).length+i*k from by rw [hf,Nat.add_mul];omega,<- List.drop_drop,List.drop_left,ih]
theorem Hy {α:Type} (f:α->List Value) (k:Nat) (hf:∀ x,(f x).length=k) (xs:List α) (i:Nat):(xs.flatMap f).take (i*k)=(xs.take i).flatMap f:=by
 induction i generalizing xs with
 | zero=>simp
 | succ i ih=>
  cases xs with
  | nil=>simp
  | cons x xs=>
   simp only [gAu,gBp]
   rw [show (i+1)*k=(f x).length+i*k from by rw [hf,Nat.add_mul];omega,List.take_length_add_append,ih]

structure Ls {α:Type} (f:α->List Value) (k:Nat) (M:List Nat) (w:World) (A:Option Addr) (n c:Nat) (xs:List α):Prop where
 sl:Sl M w A n c k (xs.flatMap f)
 n_eq:xs.length=n

section
variable {α : Type} {f : α -> List Value} {k : Nat} {M M' : List Nat} {w w' : World} {A : Option Addr} {n c : Nat} {xs : List α}
theorem Ls.keep (h:Ls f k M w A n c xs) (hf:Fr M w w'):Ls f k M w' A n c xs:=⟨h.sl.keep hf,h.n_eq⟩
theorem Ls.sub (h:Ls f k M w A n c xs) (hs:∀ m∈M',m∈M):Ls f k M' w A n c xs:=⟨h.sl.sub hs,h.n_eq⟩
theorem Ls.plain (h:Ls f k M w A n c xs):Ls f k [] w A n c xs:=⟨h.sl.plain,h.n_eq⟩
theorem Ls.new (h:Ls f k M w A n c xs) {m:Nat} (hm:w.heap.size<=m):Ls f k (m :: M) w A n c xs:=⟨h.sl.new hm,h.n_eq⟩
theorem Ls.nil (f:α->List Value) (k:Nat) (M:List Nat) (w:World):Ls f k M w none 0 0 []:=⟨Sl.nil _ _ _,rfl⟩
theorem Ls.get (h:Ls f k M w A n c xs) {i:Nat} (hi:i<n):∃ b off x,A=some ⟨b,off,none⟩/\b ∉ M/\b<w.heap.size/\xs[i]?=some x/\xs.drop i=x :: xs.drop (i+1)/\
  ∀ (hfk:∀ x,(f x).length=k) j u,j<k->(f x)[j]?=some u->w.cell? ⟨b,off+i*k+j,none⟩=some u:=by
 obtain ⟨b,off,hA,hm,hb,hc⟩:=h.sl.at_ (by omega)
 have hl:i<xs.length:=by rw [h.n_eq];exact hi
 refine ⟨b,off,xs[i],hA,hm,hb,gE1 hl,gAp hl,fun hfk j u hj hu=>?_⟩
 rw [Nat.add_assoc]
 refine hc _ u ?_
 rw [GL f k hfk xs i j xs[i] (gE1 hl) hj]
 exact hu
theorem Ls.cut (h:Ls f k M w A n c xs) (hfk:∀ x,(f x).length=k) {i j:Nat} (hij:i<=j) (hj:j<=n) (hk:0<k):
  Ls f k M w (Ol A c i k) (j - i) (c - i) ((xs.drop i).take (j - i)):=by
 refine ⟨?_,by rw [gAS,gAK,h.n_eq];omega⟩
 have:=h.sl.cut hij hj hk
 rw [LX f k hfk,Hy f k hfk] at this
 exact this
theorem Ls.pre (h:Ls f k M w A n c xs) (hfk:∀ x,(f x).length=k) {j:Nat} (hj:j<=n):Ls f k M w A j c (xs.take j):=by
 refine ⟨⟨?_,by have:=h.sl.cap;omega,fun hn=>?_⟩,by rw [gAS,h.n_eq];omega⟩
 ·rw [GK f k hfk,gAS,h.n_eq,gBy hj]
 obtain ⟨b,off,rfl,hm,hb,hc⟩:=h.sl.at_ (by omega)
 refine ⟨b,off,rfl,hm,hb,fun q u hu=>hc q u ?_⟩
 rw [<- Hy f k hfk,gAF] at hu
 split at hu
 ·exact hu
 cases hu
end

abbrev SY:=Ls cp 2

section
variable {M : List Nat} {w : World} {A : Option Addr} {n c : Nat}
end

/-! Slices of slices. -/
def LsV {α:Type} (f:α->List Value) (k:Nat) (M:List Nat) (w:World) (v:Value) (xs:List α):Prop:=∃ A n c,v=.slice A n c/\Ls f k M w A n c xs
def LRel {β α:Type} (R:β->α->Prop) (vs:List β) (rs:List α):Prop:=vs.length=rs.length/\∀ (i:Nat) (v:β) (r:α),vs[i]?=some v->rs[i]?=some r->R v r

structure Ll {α:Type} (f:α->List Value) (k:Nat) (M:List Nat) (w:World) (A:Option Addr) (n c:Nat) (rs:List (List α)):Prop where
 ex:∃ vs,Ls cv 1 M w A n c vs/\LRel (LsV f k M w) vs rs

section
variable {α : Type} {f : α -> List Value} {k : Nat} {M M' : List Nat} {w w' : World} {A : Option Addr} {n c : Nat} {rs : List (List α)}
theorem LsV.keep {v:Value} {xs:List α} (h:LsV f k M w v xs) (hf:Fr M w w'):LsV f k M w' v xs:=by
 obtain ⟨A,n,c,hv,h⟩:=h;exact ⟨A,n,c,hv,h.keep hf⟩
theorem LsV.sub {v:Value} {xs:List α} (h:LsV f k M w v xs) (hs:∀ m∈M',m∈M):LsV f k M' w v xs:=by
 obtain ⟨A,n,c,hv,h⟩:=h;exact ⟨A,n,c,hv,h.sub hs⟩
theorem LsV.new {v:Value} {xs:List α} (h:LsV f k M w v xs) {m:Nat} (hm:w.heap.size<=m):LsV f k (m :: M) w v xs:=by
 obtain ⟨A,n,c,hv,h⟩:=h;exact ⟨A,n,c,hv,h.new hm⟩
theorem LRel.imp {β γ:Type} {R R':β->γ->Prop} {vs:List β} {rs:List γ} (h:LRel R vs rs) (hi:∀ v r,R v r->R' v r):LRel R' vs rs:=⟨h.1,fun i v r hv hr=>hi v r (h.2 i v r hv hr)⟩
theorem LRel.nil {β γ:Type} {R:β->γ->Prop}:LRel R ([]:List β) ([]:List γ):=⟨rfl,fun i v r hv _=>by simp at hv⟩
theorem LRel.snoc {β γ:Type} {R:β->γ->Prop} {vs:List β} {rs:List γ} (h:LRel R vs rs) {v:β} {r:γ} (hv:R v r):LRel R (vs++[v]) (rs++[r]):=by
 refine ⟨by simp [h.1],fun i v' r' h1 h2=>?_⟩
 by_cases hi:i<vs.length
 ·rw [gEa hi] at h1
  rw [gEa (by rw [<- h.1];exact hi)] at h2
  exact h.2 i v' r' h1 h2
 rw [gEb (by omega)] at h1
 rw [gEb (by rw [<- h.1];omega),<- h.1] at h2
 by_cases h0:i - vs.length=0
 ·rw [h0] at h1 h2
  simp at h1 h2
  subst h1;subst h2
  exact hv
 obtain ⟨q,hq⟩:∃ q,i - vs.length=q+1:=⟨i - vs.length - 1,by omega⟩
 rw [hq] at h1
 simp at h1
theorem LRel.set {β γ:Type} {R:β->γ->Prop} {vs:List β} {rs:List γ} (h:LRel R vs rs) (s:Nat) {v:β} {r:γ} (hv:R v r):LRel R (vs.set s v) (rs.set s r):=by
 refine ⟨by simp [h.1],fun i v' r' h1 h2=>?_⟩
 rw [gAE] at h1 h2
 rw [<- h.1] at h2
 split at h1
 ·split at h1
  rotate_left
  ·cases h1
  rename_i hlt
  simp_all
 split at h2
 ·contradiction
 exact h.2 i v' r' h1 h2
theorem LRel.rep {β γ : Type} {R : β -> γ -> Prop} {v : β} {r : γ} (hv : R v r) (n : Nat) : LRel R (List.replicate n v) (List.replicate n r) :=
 ⟨by simp, fun i v' r' h1 h2 => by
  rw [gAD] at h1 h2
  split at h1
  ·simp_all
  ·cases h1⟩
theorem LRel.get {β γ:Type} {R:β->γ->Prop} {vs:List β} {rs:List γ} (h:LRel R vs rs) {i:Nat} {v:β} (hv:vs[i]?=some v):∃ r,rs[i]?=some r/\R v r:=by
 have hlt:i<vs.length:=(List.getElem?_eq_some_iff.1 hv).1
 have hr:rs[i]?=some (rs[i]'(by rw [<- h.1];exact hlt)):=gE1 _
 exact ⟨_,hr,h.2 i v _ hv hr⟩
theorem LRel.get' {β γ:Type} {R:β->γ->Prop} {vs:List β} {rs:List γ} (h:LRel R vs rs) {i:Nat} {r:γ} (hr:rs[i]?=some r):∃ v,vs[i]?=some v/\R v r:=by
 have hlt:i<rs.length:=(List.getElem?_eq_some_iff.1 hr).1
 have hv:vs[i]?=some (vs[i]'(by rw [h.1];exact hlt)):=gE1 _
 exact ⟨_,hv,h.2 i _ r hv hr⟩
theorem Ll.keep (h:Ll f k M w A n c rs) (hf:Fr M w w'):Ll f k M w' A n c rs:=by
 obtain ⟨vs,h1,h2⟩:=h.ex
 exact ⟨vs,h1.keep hf,h2.imp fun _ _ hr=>hr.keep hf⟩
theorem Ll.sub (h:Ll f k M w A n c rs) (hs:∀ m∈M',m∈M):Ll f k M' w A n c rs:=by
 obtain ⟨vs,h1,h2⟩:=h.ex
 exact ⟨vs,h1.sub hs,h2.imp fun _ _ hr=>hr.sub hs⟩
theorem Ll.plain (h:Ll f k M w A n c rs):Ll f k [] w A n c rs:=h.sub (fun _ hm=>by cases hm)
theorem Ll.new (h:Ll f k M w A n c rs) {m:Nat} (hm:w.heap.size<=m):Ll f k (m :: M) w A n c rs:=by
 obtain ⟨vs,h1,h2⟩:=h.ex
 exact ⟨vs,h1.new hm,h2.imp fun _ _ hr=>hr.new hm⟩
theorem Ll.n_eq (h:Ll f k M w A n c rs):rs.length=n:=by
 obtain ⟨vs,h1,h2⟩:=h.ex
 rw [<- h2.1];exact h1.n_eq
theorem Ll.nil (f:α->List Value) (k:Nat) (M:List Nat) (w:World):Ll f k M w none 0 0 []:=⟨[],Ls.nil _ _ _ _,LRel.nil⟩
theorem Ll.get (h:Ll f k M w A n c rs) {i:Nat} (hi:i<n):∃ b off B m d r,A=some ⟨b,off,none⟩/\b ∉ M/\b<w.heap.size/\rs[i]?=some r/\rs.drop i=r :: rs.drop (i+1)/\
  w.cell? ⟨b,off+i,none⟩=some (.slice B m d)/\Ls f k M w B m d r:=by
 obtain ⟨vs,h1,h2⟩:=h.ex
 obtain ⟨b,off,v,hA,hm,hb,hv,_,hcell⟩:=h1.get hi
 obtain ⟨r,hr,B,m,d,rfl,hL⟩:=h2.get hv
 have hlt:i<rs.length:=(List.getElem?_eq_some_iff.1 hr).1
 refine ⟨b,off,B,m,d,r,hA,hm,hb,hr,?_,by simpa using hcell (fun _=>rfl) 0 _ (by omega) rfl,hL⟩
 rw [gAp hlt]
 congr 1
 rw [gE1 hlt] at hr
 exact Option.some.inj hr
end

/-! boxes: blocks that stand at the beginning of a walk -/
section
variable {M : List Nat} {w wr : World} {o : Obj} {cs cs' : Array Value} {e e' : TypeId}
theorem Fr.box (hF:Fr M (w.alloc o) wr):Fr M w wr:=((Fr.refl M w).alloc o).trans hF
theorem Fr.lt (hF:Fr M (w.alloc o) wr):w.heap.size<wr.heap.size:=by have:=hF.size;simp at this;omega
theorem Fr.lt2 {o':Obj} (hF:Fr M ((w.alloc o).alloc o') wr):w.heap.size+1<wr.heap.size:=by have:=hF.size;simp at this;omega
end

/-! Owned rows as lists, and the law of append for them. -/
structure ET (P:Program) (t e:TypeId) (k bytes:Nat):Prop where
 ht:P.underlying t=some (.slice e)
 hi:∃ i z,P.info? e=some i/\i.zero=some z/\i.size=k/\i.bytes=bytes/\z.cells.size=k
 hk:0<k

section
variable {P : Program} {α : Type} {f : α -> List Value} {M : List Nat} {w w' : World} {A : Option Addr} {n m c k bytes : Nat} {B : Nat} {t e : TypeId} {v : Value} {cs news : List Value} {xs : List α}
def Own (w:World) (B:Nat) (e:TypeId) (k:Nat) (v:Value) (n:Nat) (cs:List Value):Prop:=
 w.ownsRow B e k v n cs\/∃ A,v=.slice A n n/\Sl [] w A n n k cs/\∀ a,A=some a->B<=a.block/\a.block<w.heap.size
theorem Own.nil (w:World) (B:Nat) (e:TypeId) (k:Nat):Own w B e k (.slice none 0 0) 0 []:=.inl (World.ownsRow_nil _ _ _ _)
theorem Own.form (h:Own w B e k v n cs):∃ A c,v=.slice A n c/\n<=c:=by
 rcases h with ⟨_,⟨rfl,rfl⟩ | ⟨g,cap,cur,rfl,_,_,hn,_⟩⟩ | ⟨A,rfl,_⟩
 ·exact ⟨_,_,rfl,gBu _⟩
 ·exact ⟨_,_,rfl,hn⟩
 exact ⟨_,_,rfl,gBu _⟩
theorem Own.len (h:Own w B e k v n cs):cs.length=n*k:=by
 rcases h with h | ⟨A,_,h,_⟩
 ·exact h.1
 exact h.len
theorem Own.sl {A:Option Addr} (h:Own w B e k (.slice A n c) n cs) (hM:∀ m∈M,m<B):Sl M w A n c k cs:=by
 rcases h with h | ⟨A',hv,h,hb⟩
 rotate_left
 ·injection hv with e1 e2 e3
  subst e1;subst e3
  refine ⟨h.len,h.cap,fun hn=>?_⟩
  obtain ⟨b,off,hA,_,hlt,hc⟩:=h.at_ hn
  have hB:=(hb _ hA).1
  exact ⟨b,off,hA,fun hin=>by have:=hM b hin;simp at hB;omega,hlt,hc⟩
 refine ⟨h.1,?_,fun hn=>?_⟩
 ·rcases h.2 with ⟨h1,h2⟩ | ⟨g,cap,cur,h1,_,_,hn,_⟩
  ·omega
  injection h1 with _ _ h1;omega
 rcases h.2 with ⟨_,h2⟩ | ⟨g,cap,cur,h1,hg,hh,_,_,_,ht⟩
 ·omega
 injection h1 with h1
 subst h1
 refine ⟨g,0,rfl,fun hin=>by have:=hM g hin;omega,(Array.getElem?_eq_some_iff.1 hh).1,fun j u hu=>?_⟩
 rw [gBD,cell_of_row w g j cur e (0,0) hh]
 rw [<- ht,gAF] at hu
 split at hu
 ·simpa using hu
 cases hu
theorem Own.fr (h:Own w B e k v n cs) (hf:Fr M w w') (hM:∀ m∈M,m<B):Own w' B e k v n cs:=by
 rcases h with h | ⟨A,rfl,h,hb⟩
 ·left
  refine ⟨h.1,?_⟩
  rcases h.2 with hn | ⟨g,cap,cur,rfl,hb,hgg,rest⟩
  ·exact .inl hn
  refine .inr ⟨g,cap,cur,rfl,hb,?_,rest⟩
  rw [hf.block g (Array.getElem?_eq_some_iff.1 hgg).1 (fun hin=>by have:=hM g hin;omega)]
  exact hgg
 right
 refine ⟨A,rfl,⟨h.len,h.cap,fun hn=>?_⟩,fun a ha=>⟨(hb a ha).1,gBw (hb a ha).2 hf.size⟩⟩
 obtain ⟨b,off,hA,_,hlt,hc⟩:=h.at_ hn
 have hB:=(hb _ hA).1
 simp at hB
 exact ⟨b,off,hA,by simp,gBw hlt hf.size,fun j u hu=>(hf.cell (p:=⟨b,off+j,none⟩) hlt (fun hin=>by have:=hM b hin;omega)).trans (hc j u hu)⟩
theorem Own.blk2 (h:Own w B e k v n cs) (g:Nat) (hg:v.ownBlock=some g):B<=g/\g<w.heap.size:=by
 rcases h with h | ⟨A,rfl,h,hb⟩
 ·exact h.lt g hg
 cases A with
 | none=>cases hg
 | some a=>
  simp only [Value.ownBlock,gBI] at hg
  subst hg
  exact hb a rfl
theorem Own.keep (h:Own w B e k v n cs) (hf:Fr M w w') (hd:∀ b,v.ownBlock=some b->b ∉ M):Own w' B e k v n cs:=by
 rcases h with ho | ⟨A',rfl,ho,hA'⟩
 ·left
  refine ⟨ho.1,?_⟩
  rcases ho.2 with h0 | ⟨g,cap,cur,rfl,hg,hh,rest⟩
  ·exact .inl h0
  refine .inr ⟨g,cap,cur,rfl,hg,?_,rest⟩
  rw [hf.block g (Array.getElem?_eq_some_iff.1 hh).1 (hd g rfl)]
  exact hh
 right
 refine ⟨A',rfl,⟨ho.len,ho.cap,fun hn=>?_⟩,fun a ha=>⟨(hA' a ha).1,gBw (hA' a ha).2 hf.size⟩⟩
 obtain ⟨b,off,hA,_,hlt,hc⟩:=ho.at_ hn
 subst hA
 exact ⟨b,off,rfl,by simp,gBw hlt hf.size,fun j u hu=>(hf.cell (p:=⟨b,off+j,none⟩) hlt (hd b rfl)).trans (hc j u hu)⟩
def bl (v:Value):List Nat:=v.ownBlock.toList
theorem Own.blt (h:Own w B e k v n cs):∀ g∈bl v,B<=g/\g<w.heap.size:=fun g hg=>h.blk2 g (by simpa [bl] using hg)
/-! cuts and makes: what the walk's operation gives, in every world -/
theorem ET.elem (E:ET P t e k bytes):P.underlying t=some (.slice (P.elem t))/\P.elem t=e:=by
 have h:=E.ht
 have he:P.elem t=e:=by unfold Program.elem;rw [h]
 exact ⟨by rw [he];exact h,he⟩
theorem ET.sizeOf (E:ET P t e k bytes) (w:World):(Go.sizeOf e).run P w=.ok k w:=by
 obtain ⟨i,z,hi,_,hs,_⟩:=E.hi
 simp [Go.sizeOf,typeInfo,hi,hs]
end
end Go.Proofs.YtbnabodoabimnaaGreat
