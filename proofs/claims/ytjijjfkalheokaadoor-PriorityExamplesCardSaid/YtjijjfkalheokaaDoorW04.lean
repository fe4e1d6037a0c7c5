/- Lemmas. -/
import Derived.Test.YtjijjfkalheokaaDoorZk
import Derived.Test.YtjijjfkalheokaaDoorW01
import Derived.Test.YtjijjfkalheokaaDoorMno
import Derived.Test.YtjijjfkalheokaaDoorG70
import Derived.Test.YtjijjfkalheokaaDoorG53
import Derived.Test.YtjijjfkalheokaaDoorMit
import Derived.Test.YtjijjfkalheokaaDoorDl1
namespace Go.Proofs.YtjijjfkalheokaaDoor
set_option linter.unusedVariables false
set_option linter.unusedSimpArgs false
open Go.RowKit
set_option maxRecDepth 100000
attribute [local go_sem] lga C.pl C.one

section
variable {o : Oper} {st : ST} {K : ST -> Prop}
theorem Fj (L : List Int) (ρ : List Nat) : (Am L).ren ρ = Am L := by simp [Am, Ob.ren, A7]
theorem GL (L : List Int) (f : Nat -> Nat) : (Am L).up f = Am L := by simp [Am, Ob.up, Bw]
theorem CE (L : List Int) : BL (Am L) = true := by
 show (A5 L).all C.pl = true
 rw [List.all_eq_true]
 intro c hc
 obtain ⟨x, _, rfl⟩ := List.mem_map.1 hc
 rfl
theorem Mr {x : Operand} {ts : Array TypeId} {a : Nat} {L : List Int} (hd : Tn o st.n = true) (ho : o.op = .call { callee := .value (.func 69), args := #[x], argTypes := ts }) (hx : st.ev x = .a (.c (.s a L.length))) (ha : st.hp[a]? = some (Am L)) (hL : L.length <= 100000000)
  (hnb : Ej [a] st.tm = st.tm) (h : ∀ L' : List Int, L'.Perm L -> L'.Pairwise (fun a b => a <= b) -> K ({ st with hp := st.hp.set a (Am L') }.put o.dst .u)) : Stp Tryd.prog o st K := by
 have i1 : idx [a] a 0 = some 0 := by simp [idx]
 refine As (ids := []) [a] (Jq L hL) hd ho rfl (by kernel_rfl) rfl (by simp [B2 ha]) ?_ ?_ ?_ ?_
 ·simp [hx, Er, AV.ren, A0.ren, C.ren, i1]
 ·have := Fj L [a]
  simp only [Tx, List.map_cons, List.map_nil, Cl ha, this]; rfl
 ·rintro r outs ⟨rfl, L', _, _, rfl⟩; rfl
 rintro r outs ⟨rfl, L', h1, h2, rfl⟩
 have e : st.back [a] [.r ⟨3, 1, true, A5 L'⟩] = { st with hp := st.hp.set a (Am L') } := by
  unfold ST.back
  rw [hnb]
  have := GL L' (TD [a] st.hp.length)
  simp only [Am] at this
  simp only [List.map_cons, List.map_nil, this, BJ, List.append_nil, Am]
 rw [e]; exact h L' h1 h2
theorem Qt {x : Operand} {ts : Array TypeId} {a : Nat} {L : List Int} (hd : Tn o st.n = true) (ho : o.op = .call { callee := .value (.func 76), args := #[x], argTypes := ts }) (hx : st.ev x = .a (.c (.s a L.length))) (ha : st.hp[a]? = some (Am L)) (hL : L.length <= 100000000)
  (hnb : Ej [a] st.tm = st.tm) (h : K (st.put o.dst (.a (.c (.v (Is L)))))) : Stp Tryd.prog o st K := by
 have i1 : idx [a] a 0 = some 0 := by simp [idx]
 refine As (ids := []) [a] (FC.inS1 (e := 3) (RA L hL)) hd ho rfl (by kernel_rfl) rfl (by simp [B2 ha]) ?_ ?_ ?_ ?_
 ·simp [hx, Er, AV.ren, A0.ren, C.ren, i1]
 ·have := Fj L [a]
  simp only [Tx, List.map_cons, List.map_nil, Cl ha, this]; rfl
 ·rintro r outs ⟨rfl, rfl⟩; rfl
 rintro r outs ⟨rfl, rfl⟩
 have e : st.back [a] [.r ⟨3, 1, true, A5 L⟩] = st := by
  unfold ST.back
  rw [hnb]
  have := GL L (TD [a] st.hp.length)
  simp only [Am] at this
  simp only [List.map_cons, List.map_nil, this, BJ, List.append_nil]
  rw [EH (by exact ha)]
 rw [e]; exact h
end
theorem FX {α β : Type} {f : α -> β} : ∀ {l : List α}, (l.map f).Nodup -> ∀ {a b}, a ∈ l -> b ∈ l -> f a = f b -> a = b
 | [], _, _, _, h, _, _ => by simp at h
 | x :: l, hn, a, b, ha, hb, e => by
  simp only [List.map_cons, List.nodup_cons] at hn
  rcases List.mem_cons.1 ha with h1 | h1
  ·rcases List.mem_cons.1 hb with h2 | h2
   ·rw [h1, h2]
   ·exact absurd (List.mem_map.2 ⟨b, h2, by rw [<- e, h1]⟩) hn.1
  ·rcases List.mem_cons.1 hb with h2 | h2
   ·exact absurd (List.mem_map.2 ⟨a, h1, by rw [e, h2]⟩) hn.1
   ·exact FX hn.2 h1 h2 e
def VV (V : List (Int × Nat × Nat)) (seen : List Nat) : List Int := seen.map fun z => (V.map (·.1)).getD z 0
theorem Om (V : List (Int × Nat × Nat)) (seen : List Nat) (z : Nat) : VV V (seen ++ [z]) = VV V seen ++ [(V.map (·.1)).getD z 0] := by simp [VV]
theorem Qu (V : List (Int × Nat × Nat)) (seen : List Nat) : (VV V seen).length = seen.length := by simp [VV]
theorem On {V : List (Int × Nat × Nat)} {seen : List Nat} (hnd : seen.Nodup) (h1 : ∀ z ∈ seen, z < V.length) (h2 : ∀ z, z < V.length -> z ∈ seen) : (VV V seen).Perm (V.map (·.1)) := by
 have hp : seen.Perm (List.range V.length) := (List.perm_ext_iff_of_nodup hnd List.nodup_range).2 fun z => by rw [List.mem_range]; exact ⟨h1 z, h2 z⟩
 have e : (List.range V.length).map (fun z => (V.map (·.1)).getD z 0) = V.map (·.1) := by
  refine List.ext_getElem (by simp) fun i h1 h2 => ?_
  have hi : i < V.length := by simpa using h2
  simp [gE2, hi]
 have := hp.map (fun z => (V.map (·.1)).getD z 0)
 rw [e] at this
 exact this
def VW (V : List (Int × Nat × Nat)) (e : Int) : Nat := ((V.find? fun p => p.1 == e).map (·.2.2)).getD 0
theorem Ms {V : List (Int × Nat × Nat)} (hnd : (V.map (·.1)).Nodup) {p : Int × Nat × Nat} (hp : p ∈ V) : VW V p.1 = p.2.2 := by
 unfold VW
 cases hf : V.find? (fun q => q.1 == p.1) with
 | none => exact absurd (List.find?_eq_none.1 hf p hp) (by simp)
 | some q =>
  have h1 := List.find?_some hf
  have h2 := List.mem_of_find?_eq_some hf
  have : q = p := FX hnd h2 hp (by simpa using h1)
  rw [this]; rfl
def VX (V : List (Int × Nat × Nat)) (e : Int) : Int × Nat := (e, VW V e)
theorem Mt (x : Int) (t : Nat) (V : List (Int × Nat)) (p : Int × Nat) : EG x t (V ++ [p]) = EG x t V ++ (p.1 :: ((At p.2).length : Int) :: At p.2) := by simp [EG]
theorem Oo (x : Int) (t : Nat) (V : List (Int × Nat)) : (EG x t V).length <= 66 + V.length * 66 := by
 unfold EG
 have h0 := Cb t
 have h1 : (V.flatMap fun p => p.1 :: ((At p.2).length : Int) :: At p.2).length <= V.length * 66 := by
  induction V with
  | nil => simp
  | cons p V ih =>
   have := Cb p.2
   simp only [List.flatMap_cons, List.length_append, List.length_cons] at ih ⊢
   omega
 simp only [List.length_cons, List.length_append]
 omega
set_option maxHeartbeats 4000000 in
theorem Qv (H : List Ob) (yb ta vi n c x m w : Nat) (cls : Int) (tc vc : List C) (V : List (Int × Nat × Nat)) (hyb : H[yb]? = some (.r ⟨121, 2, false, [.s ta n, .s vi n]⟩)) (hta : H[ta]? = some (.r ⟨123, 1, true, tc⟩)) (hvi : H[vi]? = some (.r ⟨126, 1, true, vc⟩)) (htl : tc.length = n) (hvl : vc.length = n) (hn : n <= 1000000)
  (hc : c < n) (gt : tc[c]? = some (.s x 1)) (gx : H[x]? = some (BF w)) (hw : w < 2 ^ 64) (gv : vc[c]? = some (.m m)) (gm : H[m]? = some (.m (VK V))) (hnd : (V.map (·.1)).Nodup) (hV : ∀ p ∈ V, H[p.2.1]? = some (BF p.2.2) /\ p.2.2 < 2 ^ 64) (hVl : V.length <= 2000) (hok : H.all BL = true) :
  FC Tryd.prog 59 [.a (.c (.p yb 0)), .i cls, .i (c : Int)] H (fun r o => (∃ VL : List (Int × Nat), Ur (VL.map (·.1)) /\ (∀ q, q ∈ VL ↔ ∃ p ∈ V, q = (p.1, p.2.2)) /\ r = .a (.c (.v (Is (EG cls w VL))))) /\ Pre H o /\ o.all BL = true) := by
 refine A8 Tryd.func59 rfl (by rw [Tryd.ntmps59]; simp) ?_
 rw [Tryd.ntmps59]
 simp only [Bs]
 have hbl := Cb w
 (refine Ue (an @hyb (an @hta (an @htl @gt))) ?_;(repeat clear hK K);repeat refine kq fun K hK=>?_)
 (refine A9 rfl ?_; intro K1 hK1; refine JI (a := x) (w := w) rfl rfl (by simp only [go_sem]) gx hw (by simp [Ej, AV.nb, A0.nb, C.nb]) ?_; simp only [go_sem]; refine hK1 _ ?_; clear hK1 K1)
 refine B9 (fun G => Pre H G /\ G[H.length]? = some (Am (At w)) /\ G.all BL = true) ?_ ?_
 ·exact ⟨Pre.push _ _, AZ _ _, AR hok (CE _)⟩
 rintro G ⟨hP, gl, hokG⟩
 simp only
 have hll := B2 gl
 obtain ⟨lid, hlid⟩ : ∃ l, H.length = l := ⟨_, rfl⟩
 rw [hlid] at gl hll ⊢
 (refine Ud ?_;(repeat clear hK K);repeat refine kq fun K hK=>?_)
 refine B9 (fun G2 => Pre G G2 /\ G2[G.length]? = some (Am [cls, (At w).length]) /\ G2.all BL = true) ?_ ?_
 ·exact ⟨Pre.push _ _, AZ _ _, AR hokG rfl⟩
 rintro G2 ⟨hP2, gn, hok2⟩
 simp only
 have gl2 := hP2.at gl
 have gn' : G2[G.length]? = some (.r ⟨3, 1, true, A5 [cls, (At w).length]⟩) := gn
 have gl2' : G2[lid]? = some (.r ⟨3, 1, true, A5 (At w)⟩) := gl2
 obtain ⟨nid, hnid⟩ : ∃ l, G.length = l := ⟨_, rfl⟩
 rw [hnid] at gn gn' hll ⊢
 (refine Ue (an @gn' (an @gl2' (an @List.set_cons_zero.{0} (an @List.set_cons_succ.{0} (an @List.take_succ_cons.{0} (an @List.take_zero.{0} (an @List.drop_zero.{0} (an @List.length_take.{0} (an @List.length_drop.{0} (an @List.length_append.{0} (an @A3 (an @AC (an @AO (an @Bz (an @A2 (an @AY (an @Az (an @B5 (an @AB @AN))))))))))))))))))) ?_;(repeat clear hK K);repeat refine kq fun K hK=>?_)
 refine B9 (fun G3 => Pre H G3 /\ G3[G2.length]? = some (Am (cls :: ((At w).length : Int) :: At w)) /\ G3.all BL = true) ?_ ?_
 ·refine ⟨(((hP.trans hP2).set (by omega) _).trans (Pre.push _ _)), ?_, AR (BC hok2 rfl _) (CE _)⟩
  have := AZ (G2.set nid Ob.d) (Am (cls :: ((At w).length : Int) :: List.take (At w).length (At w)))
  rw [List.length_set, List.take_length] at this
  rw [List.take_length]
  exact this
 have hnG2 := B2 gn
 rintro G3 ⟨hP3, gn3, hok3⟩
 simp only
 obtain ⟨id3, hid3⟩ : ∃ l, G2.length = l := ⟨_, rfl⟩
 rw [hid3] at gn3 hnG2 ⊢
 have hid3l := B2 gn3
 (refine Ue (an (hP3.at hyb) (an (hP3.at hvi) (an @hvl @gv))) ?_;(repeat clear hK K);repeat refine kq fun K hK=>?_)
 (refine A9 rfl ?_; intro K1 hK1; refine Hi (mid := m) (kv := VK V) Tryd.underlying126 rfl rfl (by simp only [go_sem]) (hP3.at gm) (JJ V) ?_; simp only [go_sem, BU]; refine hK1 _ ?_; clear hK1 K1)
 (refine Ud ?_;(repeat clear hK K);repeat refine kq fun K hK=>?_)
 refine B1 (CK 9 3 1 ?_) ?_
 ·simp only [go_sem]
 simp only [List.length_append, List.length_cons, List.length_nil, Nat.zero_add]
 refine FW (fun G => Pre H G /\ G[id3]? = some (Am (cls :: ((At w).length : Int) :: At w)) /\ G[G3.length]? = some (.m (Fk (some m) V.length [] V.length)) /\ G[G3.length + 1]? = some (Am []) /\ G.all BL = true) ?_ ?_
 ·refine ⟨(hP3.trans (Pre.push _ _)).trans (Pre.push _ _), (Pre.push _ _).at ((Pre.push _ _).at gn3), (Pre.push _ _).at (AZ _ _), ?_, AR (AR hok3 rfl) rfl⟩
  have := AZ (G3 ++ [Ob.m (Fk (some m) V.length [] V.length)]) (Am [])
  rwa [List.length_append] at this
 obtain ⟨itd, hitd⟩ : ∃ l, G3.length = l := ⟨_, rfl⟩
 rw [hitd] at hid3l ⊢
 rintro G ⟨hPG, g1, g2, g3, hokG⟩
 simp only
 refine Ac (fun x : List Nat × List Ob × Nat => { tm := [(0, .a (.c (.p yb 0))), (2, .i c), (8, .a (.c (.s id3 (2 + (At w).length)))), (9, .a (.c (.s x.2.2 (VV V x.1).length))), (34, .a (.c (.p itd 0)))], hp := x.2.1, n := 72, pin := lid }) (fun x => Pre H x.2.1 /\ x.2.1[id3]? = some (Am (cls :: ((At w).length : Int) :: At w)) /\ x.2.1[itd]? = some (.m (Fk (some m) V.length x.1 V.length)) /\ x.2.1[x.2.2]? = some (Am (VV V x.1)) /\ id3 < x.2.2 /\ (x.1.Nodup /\ ∀ z ∈ x.1, z < V.length) /\ x.2.1.all BL = true) (fun x => V.length - x.1.length) ([], G, itd + 1) ?_ ?_ ?_
 ·exact ⟨hPG, g1, g2, g3, by simp only; omega, ⟨by simp, by simp⟩, hokG⟩
 ·simp only [VV, List.map_nil, List.length_nil]
  exact Un
 clear hPG g1 g2 g3 hokG G
 rintro ⟨seen, G, eid⟩ ⟨hPG, g1, g2, g3, hide, ⟨hsn, hsb⟩, hokG⟩ K hK
 simp only at hPG g1 g2 g3 hide hsn hsb hokG
 simp only
 refine Au ?_
 intro K hK
 refine Aa ?_
 have hne : itd ≠ eid := by rintro rfl; rw [g2] at g3; cases g3
 (refine A9 rfl ?_; intro K1 hK1; refine IR (id := itd) (mid := m) (kv := VK V) (since := V.length) (last := V.length) (seen := seen) rfl rfl (by simp only [go_sem]) g2 (hPG.at gm) (JJ V) (Fh V) (by rw [BU]; exact Nat.le_refl _) (Nat.le_refl _) ?_ ?_)
 rotate_left
 ·intro z pz hz hzn
  obtain ⟨hzl, hzp⟩ := List.getElem?_eq_some_iff.1 hz
  rw [BU] at hzl
  have hgz := gE1 hzl
  have hpz := Mh hgz
  rw [hz] at hpz
  cases hpz
  have hev := Om V seen z
  have hzg : (V.map (·.1)).getD z 0 = V[z].1 := by rw [gE2, List.getElem?_map, hgz]; rfl
  rw [hzg] at hev
  generalize V[z] = p at *
  obtain ⟨e, pk, pw⟩ := p
  simp only at hev hgz hzp
  have hlen : (seen ++ [z]).length <= V.length := by
   have h := Cu (l := seen ++ [z]) (m := List.range V.length) (by rw [List.nodup_append]; exact ⟨hsn, by simp, fun a ha b hb => by simp only [List.mem_singleton] at hb; rw [hb]; rintro rfl; exact hzn ha⟩) (fun y hy => by
    rcases List.mem_append.1 hy with h | h
    ·simpa using hsb y h
    ·simp only [List.mem_singleton] at h; subst h; simpa using hzl)
   rwa [List.length_range] at h
  rw [List.length_append, List.length_cons, List.length_nil] at hlen
  have hevl := Qu V seen
  have hlit : lid <= itd := by omega
  (simp only [go_sem, BU]; refine hK1 _ ?_; clear hK1 K1)
  refine B9 (fun G4 => Pre H G4 /\ G4[id3]? = some (Am (cls :: ((At w).length : Int) :: At w)) /\ G4[itd]? = some (.m (Fk (some m) V.length (seen ++ [z]) V.length)) /\ G4[eid]? = some (.r ⟨3, 1, true, A5 (VV V seen)⟩) /\ G4.all BL = true) ?_ ?_
  ·exact ⟨hPG.set (by omega) _, by rw [gE5 (by omega)]; exact g1, gEc (B2 g2), by rw [gE5 hne]; exact g3, BC hokG rfl _⟩
  clear hPG g1 g2 g3 hokG
  rintro G4 ⟨hPG, g1, g2, g3, hokG⟩
  simp only
  (refine Ud ?_;(repeat clear hK K);repeat refine kq fun K hK=>?_)
  refine Uk ?_
  (refine Ud ?_;(repeat clear hK K);repeat refine kq fun K hK=>?_)
  (refine A9 rfl ?_; intro K1 hK1; refine Hj (id := itd) (mid := m) (kv := VK V) (since := V.length) (seen := seen) (i := z) rfl rfl (by simp only [go_sem]) (by rw [BU]; exact g2) (hPG.at gm) (JJ V) (Fh V) hz ?_; simp only [go_sem]; refine hK1 _ ?_; clear hK1 K1)
  (refine Ud ?_;(repeat clear hK K);repeat refine kq fun K hK=>?_)
  refine B9 (fun G5 => Pre G4 G5 /\ G5[G4.length]? = some (.r ⟨3, 1, true, A5 [e]⟩) /\ G5.all BL = true) ?_ ?_
  ·exact ⟨Pre.push _ _, AZ _ _, AR hokG rfl⟩
  have hel := B2 g3
  rintro G5 ⟨hP5, g5, hok5⟩
  simp only
  obtain ⟨l4, hl4⟩ : ∃ l, G4.length = l := ⟨_, rfl⟩
  rw [hl4] at g5 hel ⊢
  have g5e := hP5.at g3
  have hl45 := B2 g5
  (refine Ue (an @g5 (an @g5e (an @List.set_cons_zero.{0} (an @List.set_cons_succ.{0} (an @List.take_succ_cons.{0} (an @List.take_zero.{0} (an @List.drop_zero.{0} (an @List.length_take.{0} (an @List.length_drop.{0} (an @List.length_append.{0} (an @A3 (an @AC (an @AO (an @Bz (an @A2 (an @AY (an @Az (an @B5 (an @AB @AN))))))))))))))))))) ?_;(repeat clear hK K);repeat refine kq fun K hK=>?_)
  have hevl2 : (VV V seen).length + 1 = (VV V (seen ++ [z])).length := by rw [hev]; simp
  refine B9 (fun G6 => Pre H G6 /\ G6[id3]? = some (Am (cls :: ((At w).length : Int) :: At w)) /\ G6[itd]? = some (.m (Fk (some m) V.length (seen ++ [z]) V.length)) /\ G6[G5.length]? = some (Am (VV V (seen ++ [z]))) /\ G6.all BL = true) ?_ ?_
  ·have hq1 := hPG.1
   refine ⟨((hPG.trans hP5).set (by omega) _).trans (Pre.push _ _), (Pre.push _ _).at ?_, (Pre.push _ _).at ?_, ?_, AR (BC hok5 rfl _) (CE _)⟩
   ·rw [gE5 (by omega)]; exact hP5.at g1
   ·rw [gE5 (Ne.symm hne)]; exact hP5.at g2
   ·have := AZ (G5.set eid Ob.d) (Am (VV V (seen ++ [z])))
    rw [List.length_set] at this
    rw [hev] at this ⊢
    rw [List.take_length]
    simp [Am]
  rintro G6 ⟨hP6, h6a, h6b, h6c, hok6⟩
  simp only
  rw [hevl2]
  have hi5 : id3 < G5.length := by omega
  generalize G5.length = eid2 at *
  refine Um ?_
  refine hK _ (seen ++ [z], G6, eid2) ⟨hP6, h6a, h6b, h6c, hi5, ⟨?_, ?_⟩, hok6⟩ ?_ ?_
  rotate_left 2
  ·simp only [List.length_append, List.length_cons, List.length_nil]; omega
  ·exact Un
  ·rw [List.nodup_append]; exact ⟨hsn, by simp, fun a ha b hb => by simp only [List.mem_singleton] at hb; rw [hb]; rintro rfl; exact hzn ha⟩
  intro y hy
  rcases List.mem_append.1 hy with h | h
  ·exact hsb y h
  simp only [List.mem_singleton] at h; subst h; exact hzl
 intro hall
 rw [BU] at hall
 have hperm := On hsn hsb hall
 have hel : (VV V seen).length <= 100000000 := by rw [hperm.length_eq, List.length_map]; omega
 (simp only [go_sem]; refine hK1 _ ?_; clear hK1 K1)
 (refine Ud ?_;(repeat clear hK K);repeat refine kq fun K hK=>?_)
 refine Ul ?_
 (refine Uh ?_;repeat clear hK K)
 (refine Ud ?_;(repeat clear hK K);repeat refine kq fun K hK=>?_)
 (refine A9 rfl ?_; intro K1 hK1; refine Mr (a := eid) (L := VV V seen) rfl rfl (by simp only [go_sem]) g3 hel (by simp [Ej, AV.nb, A0.nb, C.nb]) ?_; intro ES hES1 hES2; simp only [go_sem]; refine hK1 _ ?_; clear hK1 K1)
 have hperm2 := hES1.trans hperm
 have hESl : ES.length = V.length := by rw [hperm2.length_eq, List.length_map]
 have hESn : ES.Nodup := hperm2.nodup_iff.2 hnd
 have hESa : Ur ES := by
  unfold Ur
  refine (hES2.and hESn).imp fun {a b} h => ?_
  obtain ⟨h1, h2⟩ := h
  omega
 have hESm : ∀ e, e ∈ ES ↔ ∃ p ∈ V, p.1 = e := fun e => by rw [hperm2.mem_iff, List.mem_map]
 refine B9 (fun G4 => Pre H G4 /\ G4[id3]? = some (Am (cls :: ((At w).length : Int) :: At w)) /\ G4[eid]? = some (Am ES) /\ G4.all BL = true) ?_ ?_
 ·have := hPG.1
  exact ⟨hPG.set (by omega) _, by rw [gE5 (by omega)]; exact g1, gEc (B2 g3), BC hokG (CE _) _⟩
 have hlide : lid <= eid := by have := hPG.1; omega
 clear hPG g1 g2 g3 hokG
 rintro G ⟨hPG, g1, g3, hokG⟩
 simp only
 have hevl : (VV V seen).length = ES.length := hES1.length_eq.symm
 rw [hevl]
 (refine Ud ?_;(repeat clear hK K);repeat refine kq fun K hK=>?_)
 have e0 : 2 + (At w).length = (EG cls w ((ES.take 0).map (VX V))).length := by simp [EG]; omega
 refine Ac (fun x : Nat × List Ob × Nat => { tm := [(0, .a (.c (.p yb 0))), (2, .i c), (8, .a (.c (.s x.2.2 (EG cls w ((ES.take x.1).map (VX V))).length))), (45, .a (.c (.s eid ES.length))), (46, .i ES.length), (47, .i x.1)], hp := x.2.1, n := 72, pin := lid }) (fun x => x.1 <= ES.length /\ Pre H x.2.1 /\ x.2.1[x.2.2]? = some (Am (EG cls w ((ES.take x.1).map (VX V)))) /\ x.2.1[eid]? = some (Am ES) /\ x.2.2 ≠ eid /\ lid <= x.2.2 /\ x.2.1.all BL = true) (fun x => ES.length - x.1) (0, G, id3) ?_ ?_ ?_
 ·exact ⟨by simp, hPG, by simpa [EG] using g1, g3, by simp only; omega, by simp only; omega, hokG⟩
 ·rw [<- e0]
  exact Un
 clear hPG g1 g3 hokG e0
 rintro ⟨j, G, nid⟩ ⟨hj, hPG, g1, g3, hne2, hlin, hokG⟩ K hK
 simp only at hj hPG g1 g3 hne2 hlin hokG
 simp only
 have hkl := Oo cls w ((ES.take j).map (VX V))
 rw [List.length_map, List.length_take] at hkl
 by_cases hlj : j < ES.length
 rotate_left
 ·have d1 : decide ((j : Int) < (ES.length : Int)) = false := by simpa using hlj
  have hje : ES.take j = ES := gE7 (by omega)
  rw [hje] at g1 hkl ⊢
  (refine Ue @d1 ?_;(repeat clear hK K);repeat refine kq fun K hK=>?_)
  refine Ul ?_
  (refine Uh ?_;repeat clear hK K)
  (refine Ud ?_;(repeat clear hK K);repeat refine kq fun K hK=>?_)
  (refine A9 rfl ?_; intro K1 hK1; refine Qt (a := nid) (L := EG cls w (ES.map (VX V))) rfl rfl (by simp only [go_sem]) g1 (by omega) (by simp [Ej, AV.nb, A0.nb, C.nb]) ?_; simp only [go_sem]; refine hK1 _ ?_; clear hK1 K1)
  (refine Ud ?_;(repeat clear hK K);repeat refine kq fun K hK=>?_)
  subst hlid
  refine Uq Tryd.results59 ?_
  refine ⟨⟨ES.map (VX V), ?_, fun q => ?_, rfl⟩, hPG, hokG⟩
  ·rw [List.map_map]
   have : (Prod.fst ∘ VX V) = id := rfl
   simpa [Function.comp_def, VX] using hESa
  rw [List.mem_map]
  constructor
  rotate_left
  ·rintro ⟨p, hp, rfl⟩
   exact ⟨p.1, (hESm _).2 ⟨p, hp, rfl⟩, by unfold VX; rw [Ms hnd hp]⟩
  rintro ⟨e, he, rfl⟩
  obtain ⟨p, hp, rfl⟩ := (hESm e).1 he
  exact ⟨p, hp, by unfold VX; rw [Ms hnd hp]⟩
 have d1 : decide ((j : Int) < (ES.length : Int)) = true := by simpa using hlj
 obtain ⟨p, hp, hpe⟩ := (hESm _).1 (gE6 hlj)
 have gE := Ap (gE1 hlj)
 have gE2 := Ak (gE1 hlj)
 have hwd := Ms hnd hp
 have htk : (ES.take (j + 1)).map (VX V) = (ES.take j).map (VX V) ++ [(p.1, p.2.2)] := by
  rw [gE8 hlj, List.map_append, <- hpe, List.map_cons, List.map_nil]
  unfold VX
  rw [hwd]
 obtain ⟨hp1, hp2⟩ := hV p hp
 obtain ⟨jj, hf⟩ := EI hnd hp rfl 0
 rw [<- hpe] at gE gE2
 have hks := Mt cls w ((ES.take j).map (VX V)) (p.1, p.2.2)
 rw [<- htk] at hks
 simp only at hks
 obtain ⟨e, pk, pw⟩ := p
 simp only at hp1 hp2 gE gE2 hf hks
 have hbl2 := Cb pw
 generalize EG cls w ((ES.take j).map (VX V)) = L0 at *
 have g3' : G[eid]? = some (.r ⟨3, 1, true, A5 ES⟩) := g3
 (refine Ue @d1 ?_;(repeat clear hK K);repeat refine kq fun K hK=>?_)
 refine Uk ?_
 (refine Ue (an @g3' (an @gE2 (an @A2 (an (hPG.at hyb) (an (hPG.at hvi) (an @hvl @gv)))))) ?_;(repeat clear hK K);repeat refine kq fun K hK=>?_)
 (refine A9 rfl ?_; intro K1 hK1; refine BO (id := m) (kv := VK V) (zv := .slice none 0 0) Tryd.underlying126 (DY Tryd.underlying3) rfl rfl rfl (by simp only [go_sem]) (hPG.at gm) (Fh V) (by simp only [go_sem, DX]) (Kv e) hf ?_; simp only [go_sem, VE]; refine hK1 _ ?_; clear hK1 K1)
 (refine Ud ?_;(repeat clear hK K);repeat refine kq fun K hK=>?_)
 (refine A9 rfl ?_; intro K1 hK1; refine JI (a := pk) (w := pw) rfl rfl (by simp only [go_sem]) (hPG.at hp1) hp2 (by simp [Ej, AV.nb, A0.nb, C.nb]) ?_; simp only [go_sem]; refine hK1 _ ?_; clear hK1 K1)
 refine B9 (fun G4 => Pre G G4 /\ G4[G.length]? = some (Am (At pw)) /\ G4.all BL = true) ?_ ?_
 ·exact ⟨Pre.push _ _, AZ _ _, AR hokG (CE _)⟩
 have hnl := B2 g1
 have hel := B2 g3
 rintro G4 ⟨hP4, gb, hok4⟩
 simp only
 obtain ⟨lb, hlb⟩ : ∃ l, G.length = l := ⟨_, rfl⟩
 rw [hlb] at gb hnl hel ⊢
 (refine Ud ?_;(repeat clear hK K);repeat refine kq fun K hK=>?_)
 refine B9 (fun G5 => Pre G4 G5 /\ G5[G4.length]? = some (Am [e, (At pw).length]) /\ G5.all BL = true) ?_ ?_
 ·exact ⟨Pre.push _ _, AZ _ _, AR hok4 rfl⟩
 have hll4 := B2 gb
 rintro G5 ⟨hP5, gc5, hok5⟩
 simp only
 obtain ⟨l2, hl2⟩ : ∃ l, G4.length = l := ⟨_, rfl⟩
 rw [hl2] at gc5 hll4 ⊢
 have g1a : G5[nid]? = some (.r ⟨3, 1, true, A5 L0⟩) := hP5.at (hP4.at g1)
 have gca : G5[l2]? = some (.r ⟨3, 1, true, A5 [e, (At pw).length]⟩) := gc5
 have hl25 := B2 gca
 (refine Ue (an @g1a (an @gca (an @List.set_cons_zero.{0} (an @List.set_cons_succ.{0} (an @List.take_succ_cons.{0} (an @List.take_zero.{0} (an @List.drop_zero.{0} (an @List.length_take.{0} (an @List.length_drop.{0} (an @List.length_append.{0} (an @A3 (an @AC (an @AO (an @Bz (an @A2 (an @AY (an @Az (an @B5 (an @AB @AN))))))))))))))))))) ?_;(repeat clear hK K);repeat refine kq fun K hK=>?_)
 refine B9 (fun G6 => Pre H G6 /\ G6[G5.length]? = some (.r ⟨3, 1, true, A5 (L0 ++ [e, ((At pw).length : Int)])⟩) /\ G6[lb]? = some (.r ⟨3, 1, true, A5 (At pw)⟩) /\ G6[eid]? = some (Am ES) /\ G6.all BL = true) ?_ ?_
 ·have hPH := ((hPG.trans hP4).trans hP5)
  refine ⟨(hPH.set (by omega) _).trans (Pre.push _ _), ?_, ?_, ?_, AR (BC hok5 rfl _) ?_⟩
  ·have := AZ (G5.set nid Ob.d) (.r ⟨3, 1, true, A5 (L0 ++ [e, ((At pw).length : Int)])⟩)
   rw [List.length_set] at this
   simpa only [List.take_length] using this
  ·refine (Pre.push _ _).at ?_
   rw [gE5 (by omega)]; exact hP5.at gb
  ·refine (Pre.push _ _).at ?_
   rw [gE5 hne2]; exact hP5.at (hP4.at g3)
  ·exact CE _
 rintro G6 ⟨hP6, g6a, g6b, g6c, hok6⟩
 simp only
 obtain ⟨l3, hl3⟩ : ∃ l, G5.length = l := ⟨_, rfl⟩
 rw [hl3] at g6a hl25 ⊢
 have hl36 := B2 g6a
 (refine Ue (an @g6a (an @g6b (an @List.set_cons_zero.{0} (an @List.set_cons_succ.{0} (an @List.take_succ_cons.{0} (an @List.take_zero.{0} (an @List.drop_zero.{0} (an @List.length_take.{0} (an @List.length_drop.{0} (an @List.length_append.{0} (an @A3 (an @AC (an @AO (an @Bz (an @A2 (an @AY (an @Az (an @B5 (an @AB @AN))))))))))))))))))) ?_;(repeat clear hK K);repeat refine kq fun K hK=>?_)
 have hkl3 : L0.length + 2 + (At pw).length = (EG cls w ((ES.take (j + 1)).map (VX V))).length := by rw [hks]; simp; omega
 refine B9 (fun G7 => Pre H G7 /\ G7[G6.length]? = some (Am (EG cls w ((ES.take (j + 1)).map (VX V)))) /\ G7[eid]? = some (Am ES) /\ G7.all BL = true) ?_ ?_
 ·refine ⟨(hP6.set (by omega) _).trans (Pre.push _ _), ?_, ?_, AR (BC hok6 rfl _) (CE _)⟩
  ·have := AZ (G6.set l3 Ob.d) (Am (EG cls w ((ES.take (j + 1)).map (VX V))))
   rw [List.length_set] at this
   rw [hks] at this ⊢
   have hL2 : List.take (L0.length + 2) (L0 ++ [e, ((At pw).length : Int)]) = L0 ++ [e, ((At pw).length : Int)] := gE7 (by simp)
   rw [hL2, List.take_length]
   simp [Am]
  ·refine (Pre.push _ _).at ?_
   rw [gE5 (by omega)]; exact g6c
 rintro G7 ⟨hP7, g7a, g7b, hok7⟩
 simp only
 have hG6l : lid <= G6.length /\ G6.length ≠ eid := by
  have h1 := hP6.1
  have h2 := B2 g6c
  constructor
  ·omega
  omega
 rw [hkl3]
 generalize G6.length = nid2 at *
 refine Um ?_
 refine hK _ (j + 1, G7, nid2) ⟨by simp only; omega, hP7, g7a, g7b, hG6l.2, hG6l.1, hok7⟩ (by simp only; omega) ?_
 exact Un
def MR (n : Nat) (L : List Int) : List Int := L ++ List.replicate (n - L.length) 0
theorem Oq {n : Nat} {L : List Int} (h : L.length <= n) : (MR n L).length = n := by simp [MR]; omega
theorem Ot {n : Nat} {L : List Int} (h : L.length < n) (x : Int) : (MR n L).set L.length x = MR n (L ++ [x]) := by
 unfold MR
 obtain ⟨d, hd⟩ : ∃ d, n - L.length = d + 1 := ⟨n - L.length - 1, by omega⟩
 rw [hd, List.set_append_right _ _ (Nat.le_refl _), Nat.sub_self, List.replicate_succ, List.set_cons_zero, List.length_append, List.length_cons, List.length_nil, show n - (L.length + (0 + 1)) = d from by omega]
 simp
theorem Mu (n : Nat) : List.replicate n (C.v (.int .i64 0)) = A5 (MR n []) := by simp [MR, A5]
theorem Mw {n : Nat} {L : List Int} (h : L.length = n) : MR n L = L := by simp [MR, h]
section
variable {α : Type} [DecidableEq α]
set_option maxHeartbeats 2000000 in
theorem Qw (ky : List Value) (g : Nat -> α) (h : QS ky g) (hn : ky.length <= 1000000) : FC Tryd.prog 57 [.a (.c (.s 0 ky.length))] [.r ⟨9, 1, true, VH ky⟩] (fun r o => r = .tup [.c (.s 1 ky.length), .c (.v (.int .i64 (UW g ky.length).2))] /\ o = [.r ⟨9, 1, true, VH ky⟩, Am (UW g ky.length).1]) := by
 refine A8 Tryd.func57 rfl (by rw [Tryd.ntmps57]; simp) ?_
 rw [Tryd.ntmps57]
 simp only [Bs]
 (refine Ue @Mu ?_;(repeat clear hK K);repeat refine kq fun K hK=>?_)
 refine Ac (fun k : Nat => { tm := [(4, .a (.c (.m 1))), (5, .a (.c (.s 2 ky.length))), (14, .a (.c (.s 0 ky.length))), (15, .i ky.length), (16, .i k)], hp := [.r ⟨9, 1, true, VH ky⟩, .m (VG ky g k), .r ⟨3, 1, true, A5 (MR ky.length (UW g k).1)⟩], n := 42, pin := 1 }) (fun k => k <= ky.length) (fun k => ky.length - k) 0 ?_ ?_ ?_
 ·omega
 ·exact Un
 rintro k hk K hK
 by_cases hlt : k < ky.length
 rotate_left
 ·have d1 : decide ((k : Int) < (ky.length : Int)) = false := by simpa using hlt
  have hke : k = ky.length := by omega
  have hkl := Ma ky g k
  have hnl := (Ch g k).len
  have hitk : N6 (VG ky g k) = false := by obtain ⟨M, hM⟩ := GC ky g k; rw [hM]; exact OZ M
  rw [<- hke]
  rw [<- hke] at d1
  rw [Mw hnl]
  (refine Ue @d1 ?_;(repeat clear hK K);repeat refine kq fun K hK=>?_)
  refine Ul ?_
  (refine Uh ?_;repeat clear hK K)
  (refine Ud ?_;(repeat clear hK K);repeat refine kq fun K hK=>?_)
  (refine A9 rfl ?_; intro K1 hK1; refine JD (id := 1) (kv := VG ky g k) Tryd.underlying116 rfl rfl rfl rfl rfl (by simp only [go_sem]) rfl hitk ?_; simp only [go_sem, hkl]; refine hK1 _ ?_; clear hK1 K1)
  (refine Ud ?_;(repeat clear hK K);repeat refine kq fun K hK=>?_)
  ((try refine AU ?_); (try simp only [Ai, AX]); refine BQ (Ad [0, 2] rfl rfl) ?_; (try simp only [List.set_nil, List.take_nil, List.take_zero, List.map_append, go_sem]); ((try refine AU ?_); (try refine Ab ?_); (try simp only [Ai, AX]); refine C6 (by first | exact .inl rfl | exact .inr rfl) rfl ?_; simp only [TC, GQ, FD, Hb, Tryd.results57, go_sem, true_and, and_true, A7, Ee, Am]))
  rw [hke]; exact ⟨rfl, rfl⟩
 have d1 : decide ((k : Int) < (ky.length : Int)) = true := by simpa using hlt
 have gk := Q9 hlt
 have hft := Q8 h hlt
 have hcl := (Ch g k).cnt
 have hpl := RB ky g k
 have hkl := Ma ky g k
 have hnl := (Ch g k).len
 have hfd := O0 h hlt k hk
 have hfl := Oq (n := ky.length) (L := (UW g k).1) (by omega)
 have hfs := Ot (n := ky.length) (L := (UW g k).1) (by omega)
 rw [hnl] at hfs
 (refine Ue (an @Fg @d1) ?_;(repeat clear hK K);repeat refine kq fun K hK=>?_)
 refine Uk ?_
 cases hf : (List.range k).find? (fun t => decide (g t = g k)) with
 | some t0 =>
  have h2 := List.find?_range_eq_some.1 hf
  have h3 : t0 < k := by simpa using h2.2.1
  have h4 : g t0 = g k := by simpa using h2.1
  have hkv : VG ky g (k + 1) = VG ky g k := DR hf
  have hng := DN hf
  obtain ⟨t, a1, a2, j, a3⟩ : ∃ t, t < k /\ g t = g k /\ ∃ j, Bf .ks (ky.getD k (.int .i64 0)) (VG ky g k) 0 = some (some (j, .v (.int .i64 ((UW g k).1.getD t 0)))) := by
   rcases hfd with h | ⟨a1, _⟩
   ·exact h
   exact absurd h4 (a1 t0 h3)
  have he : (UW g k).1.getD t 0 = (UW g k).1.getD t0 0 := ((Ch g k).eq t t0 a1 h3).2 (a2.trans h4.symm)
  rw [he] at a3
  have cs := hfs ((UW g k).1.getD t0 0)
  obtain ⟨M, hM⟩ := GC ky g k
  generalize VG ky g k = kv at *
  subst hM
  generalize UW g k = p at *
  generalize ky.getD k (.int .i64 0) = kk at *
  (refine Ue (an @Fg @gk) ?_;(repeat clear hK K);repeat refine kq fun K hK=>?_)
  (refine A9 rfl ?_; intro K1 hK1; refine BO (id := 1) (kv := M.map fun p => (p.1, C.v p.2)) (zv := .int .i64 0) Tryd.underlying116 (I4 Tryd.underlying9) rfl rfl rfl (by simp only [go_sem]) rfl hpl (by simp only [go_sem, DX]) hft a3 ?_; simp only [go_sem, VE]; refine hK1 _ ?_; clear hK1 K1)
  (refine Ue @Bool.not_true ?_;(repeat clear hK K);repeat refine kq fun K hK=>?_)
  refine Ul ?_
  (refine CY (an @A2 (an @hfl (an @AL @cs))) ?_;(repeat clear hK K);repeat refine kq fun K hK=>?_)
  refine Um ?_
  refine hK _ (k + 1) (by omega) (by omega) ?_
  rw [hkv, hng]
  exact Un
 | none =>
  have hno := List.find?_range_eq_none.1 hf
  have hkv := DS (ky := ky) hf
  have hng := DO hf
  have a2 : Bf .ks (ky.getD k (.int .i64 0)) (VG ky g k) 0 = some none := by
   rcases hfd with ⟨t, a1, a2, _⟩ | ⟨_, a2⟩
   ·exact absurd a2 (by simpa using hno t a1)
   exact a2
  have cs := hfs (UW g k).2
  obtain ⟨M, hM⟩ := GC ky g k
  generalize VG ky g k = kv at *
  subst hM
  generalize UW g k = p at *
  generalize ky.getD k (.int .i64 0) = kk at *
  (refine Ue (an @Fg @gk) ?_;(repeat clear hK K);repeat refine kq fun K hK=>?_)
  (refine A9 rfl ?_; intro K1 hK1; refine BO (id := 1) (kv := M.map fun p => (p.1, C.v p.2)) (zv := .int .i64 0) Tryd.underlying116 (I4 Tryd.underlying9) rfl rfl rfl (by simp only [go_sem]) rfl hpl (by simp only [go_sem, DX]) hft a2 ?_; simp only [go_sem, VE]; refine hK1 _ ?_; clear hK1 K1)
  (refine Ue @Bool.not_false ?_;(repeat clear hK K);repeat refine kq fun K hK=>?_)
  refine Uk ?_
  (refine Ud ?_;(repeat clear hK K);repeat refine kq fun K hK=>?_)
  (refine A9 rfl ?_; intro K1 hK1; refine JD (id := 1) (kv := M.map fun p => (p.1, C.v p.2)) Tryd.underlying116 rfl rfl rfl rfl rfl (by simp only [go_sem]) rfl (OZ _) ?_; simp only [go_sem, hkl]; refine hK1 _ ?_; clear hK1 K1)
  (refine Ud ?_;(repeat clear hK K);repeat refine kq fun K hK=>?_)
  (refine A9 rfl ?_; intro K1 hK1; refine FU (id := 1) (kv := M.map fun p => (p.1, C.v p.2)) (c := .v (.int .i64 p.2)) Tryd.underlying116 (I4 Tryd.underlying9) rfl rfl (by simp only [go_sem]) rfl hpl (by simp only [go_sem, DX]) hft (by simp only [go_sem]) rfl a2 ?_; simp only [go_sem]; refine hK1 _ ?_; clear hK1 K1)
  (refine CY (an @A2 (an @hfl (an @AL @cs))) ?_;(repeat clear hK K);repeat refine kq fun K hK=>?_)
  refine Um ?_
  refine hK _ (k + 1) (by omega) (by omega) ?_
  rw [hkv, hng]
  exact Un
end
def VY : Value := .string { data := #[100, 105, 118, 101, 114, 103, 101, 110, 116] }
def VZ : Value := .string { data := #[] }
theorem RM (ky : List Value) (f : Nat -> Nat) : (VH ky).map (C.up f) = VH ky := by simp [VH, C.up, Function.comp_def]
theorem Qx {a b c : ST} (h : Le a b) (k : Le b c) : Le a c := h.trans k
end Go.Proofs.YtjijjfkalheokaaDoor
