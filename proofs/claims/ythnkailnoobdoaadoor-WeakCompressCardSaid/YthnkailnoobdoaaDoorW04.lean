/- Lemmas. -/
import Derived.Test.YthnkailnoobdoaaDoorZk
import Derived.Test.YthnkailnoobdoaaDoorW01
import Derived.Test.YthnkailnoobdoaaDoorMno
import Derived.Test.YthnkailnoobdoaaDoorMG
import Derived.Test.YthnkailnoobdoaaDoorG53
import Derived.Test.YthnkailnoobdoaaDoorMit
import Derived.Test.YthnkailnoobdoaaDoorG70
namespace Go.Proofs.YthnkailnoobdoaaDoor
set_option linter.unusedVariables false
set_option linter.unusedSimpArgs false
open Go.RowKit
set_option maxRecDepth 100000
attribute [local go_sem] lga C.pl C.one

section
variable {o : Oper} {st : ST} {K : ST -> Prop}
theorem G1 (L : List Int) (ρ : List Nat) : (Al L).ren ρ = Al L := by simp [Al, Ob.ren, Ak]
theorem Ho (L : List Int) (f : Nat -> Nat) : (Al L).up f = Al L := by simp [Al, Ob.up, Cx]
theorem D5 (L : List Int) : C3 (Al L) = true := by
 show (A7 L).all C.pl = true
 rw [List.all_eq_true]
 intro c hc
 obtain ⟨x, _, rfl⟩ := List.mem_map.1 hc
 rfl
theorem MT {x : Operand} {ts : Array TypeId} {a : Nat} {L : List Int} (hd : Ue o st.n = true) (ho : o.op = .call { callee := .value (.func 66), args := #[x], argTypes := ts }) (hx : st.ev x = .a (.c (.s a L.length))) (ha : st.hp[a]? = some (Al L)) (hL : L.length <= 100000000)
  (hnb : EQ [a] st.tm = st.tm) (h : ∀ L' : List Int, L'.Perm L -> L'.Pairwise (fun a b => a <= b) -> K ({ st with hp := st.hp.set a (Al L') }.put o.dst .u)) : Stp Tryd.prog o st K := by
 have i1 : idx [a] a 0 = some 0 := by simp [idx]
 refine Av (ids := []) [a] (Oe L hL) hd ho rfl (by kernel_rfl) rfl (by simp [Ba ha]) ?_ ?_ ?_ ?_
 ·simp [hx, E7, AV.ren, A0.ren, C.ren, i1]
 ·have := G1 L [a]
  simp only [Um, List.map_cons, List.map_nil, CG ha, this]; rfl
 ·rintro r outs ⟨rfl, L', _, _, rfl⟩; rfl
 rintro r outs ⟨rfl, L', h1, h2, rfl⟩
 have e : st.back [a] [.r ⟨3, 1, true, A7 L'⟩] = { st with hp := st.hp.set a (Al L') } := by
  unfold ST.back
  rw [hnb]
  have := Ho L' (Up [a] st.hp.length)
  simp only [Al] at this
  simp only [List.map_cons, List.map_nil, this, C0, List.append_nil, Al]
 rw [e]; exact h L' h1 h2
theorem Rj {x : Operand} {ts : Array TypeId} {a : Nat} {L : List Int} (hd : Ue o st.n = true) (ho : o.op = .call { callee := .value (.func 67), args := #[x], argTypes := ts }) (hx : st.ev x = .a (.c (.s a L.length))) (ha : st.hp[a]? = some (Al L)) (hL : L.length <= 100000000)
  (hnb : EQ [a] st.tm = st.tm) (h : K (st.put o.dst (.a (.c (.v (J5 L)))))) : Stp Tryd.prog o st K := by
 have i1 : idx [a] a 0 = some 0 := by simp [idx]
 refine Av (ids := []) [a] (FC.inS1 (e := 3) (St L hL)) hd ho rfl (by kernel_rfl) rfl (by simp [Ba ha]) ?_ ?_ ?_ ?_
 ·simp [hx, E7, AV.ren, A0.ren, C.ren, i1]
 ·have := G1 L [a]
  simp only [Um, List.map_cons, List.map_nil, CG ha, this]; rfl
 ·rintro r outs ⟨rfl, rfl⟩; rfl
 rintro r outs ⟨rfl, rfl⟩
 have e : st.back [a] [.r ⟨3, 1, true, A7 L⟩] = st := by
  unfold ST.back
  rw [hnb]
  have := Ho L (Up [a] st.hp.length)
  simp only [Al] at this
  simp only [List.map_cons, List.map_nil, this, C0, List.append_nil]
  rw [Fi (by exact ha)]
 rw [e]; exact h
end
theorem GF {α β : Type} {f : α -> β} : ∀ {l : List α}, (l.map f).Nodup -> ∀ {a b}, a ∈ l -> b ∈ l -> f a = f b -> a = b
 | [], _, _, _, h, _, _ => by simp at h
 | x :: l, hn, a, b, ha, hb, e => by
  simp only [List.map_cons, List.nodup_cons] at hn
  rcases List.mem_cons.1 ha with h1 | h1
  ·rcases List.mem_cons.1 hb with h2 | h2
   ·rw [h1, h2]
   ·exact absurd (List.mem_map.2 ⟨b, h2, by rw [<- e, h1]⟩) hn.1
  ·rcases List.mem_cons.1 hb with h2 | h2
   ·exact absurd (List.mem_map.2 ⟨a, h1, by rw [e, h2]⟩) hn.1
   ·exact GF hn.2 h1 h2 e
def WB (V : List (Int × Nat × Nat)) (seen : List Nat) : List Int := seen.map fun z => (V.map (·.1)).getD z 0
theorem OX (V : List (Int × Nat × Nat)) (seen : List Nat) (z : Nat) : WB V (seen ++ [z]) = WB V seen ++ [(V.map (·.1)).getD z 0] := by simp [WB]
theorem Rk (V : List (Int × Nat × Nat)) (seen : List Nat) : (WB V seen).length = seen.length := by simp [WB]
theorem OY {V : List (Int × Nat × Nat)} {seen : List Nat} (hnd : seen.Nodup) (h1 : ∀ z ∈ seen, z < V.length) (h2 : ∀ z, z < V.length -> z ∈ seen) : (WB V seen).Perm (V.map (·.1)) := by
 have hp : seen.Perm (List.range V.length) := (List.perm_ext_iff_of_nodup hnd List.nodup_range).2 fun z => by rw [List.mem_range]; exact ⟨h1 z, h2 z⟩
 have e : (List.range V.length).map (fun z => (V.map (·.1)).getD z 0) = V.map (·.1) := by
  refine List.ext_getElem (by simp) fun i h1 h2 => ?_
  have hi : i < V.length := by simpa using h2
  simp [gE2, hi]
 have := hp.map (fun z => (V.map (·.1)).getD z 0)
 rw [e] at this
 exact this
def WC (V : List (Int × Nat × Nat)) (e : Int) : Nat := ((V.find? fun p => p.1 == e).map (·.2.2)).getD 0
theorem MU {V : List (Int × Nat × Nat)} (hnd : (V.map (·.1)).Nodup) {p : Int × Nat × Nat} (hp : p ∈ V) : WC V p.1 = p.2.2 := by
 unfold WC
 cases hf : V.find? (fun q => q.1 == p.1) with
 | none => exact absurd (List.find?_eq_none.1 hf p hp) (by simp)
 | some q =>
  have h1 := List.find?_some hf
  have h2 := List.mem_of_find?_eq_some hf
  have : q = p := GF hnd h2 hp (by simpa using h1)
  rw [this]; rfl
def WD (V : List (Int × Nat × Nat)) (e : Int) : Int × Nat := (e, WC V e)
theorem MV (x : Int) (t : Nat) (V : List (Int × Nat)) (p : Int × Nat) : Fh x t (V ++ [p]) = Fh x t V ++ (p.1 :: ((At p.2).length : Int) :: At p.2) := by simp [Fh]
theorem OZ (x : Int) (t : Nat) (V : List (Int × Nat)) : (Fh x t V).length <= 66 + V.length * 66 := by
 unfold Fh
 have h0 := Cr t
 have h1 : (V.flatMap fun p => p.1 :: ((At p.2).length : Int) :: At p.2).length <= V.length * 66 := by
  induction V with
  | nil => simp
  | cons p V ih =>
   have := Cr p.2
   simp only [List.flatMap_cons, List.length_append, List.length_cons] at ih ⊢
   omega
 simp only [List.length_cons, List.length_append]
 omega
set_option maxHeartbeats 4000000 in
theorem Rl (H : List Ob) (yb ta vi n c x m w : Nat) (cls : Int) (tc vc : List C) (V : List (Int × Nat × Nat)) (hyb : H[yb]? = some (.r ⟨108, 2, false, [.s ta n, .s vi n]⟩)) (hta : H[ta]? = some (.r ⟨110, 1, true, tc⟩)) (hvi : H[vi]? = some (.r ⟨113, 1, true, vc⟩)) (htl : tc.length = n) (hvl : vc.length = n) (hn : n <= 1000000)
  (hc : c < n) (gt : tc[c]? = some (.s x 1)) (gx : H[x]? = some (BT w)) (hw : w < 2 ^ 64) (gv : vc[c]? = some (.m m)) (gm : H[m]? = some (.m (Wq V))) (hnd : (V.map (·.1)).Nodup) (hV : ∀ p ∈ V, H[p.2.1]? = some (BT p.2.2) /\ p.2.2 < 2 ^ 64) (hVl : V.length <= 2000) (hok : H.all C3 = true) :
  FC Tryd.prog 43 [.a (.c (.p yb 0)), .i cls, .i (c : Int)] H (fun r o => (∃ VL : List (Int × Nat), Vb (VL.map (·.1)) /\ (∀ q, q ∈ VL ↔ ∃ p ∈ V, q = (p.1, p.2.2)) /\ r = .a (.c (.v (J5 (Fh cls w VL))))) /\ Pre H o /\ o.all C3 = true) := by
 refine Af Tryd.func43 rfl (by rw [Tryd.ntmps43]; simp) ?_
 rw [Tryd.ntmps43]
 simp only [C2]
 have hbl := Cr w
 (refine UX (an @hyb (an @hta (an @htl @gt))) ?_;(repeat clear hK K);repeat refine kq fun K hK=>?_)
 (refine Aa rfl ?_; intro K1 hK1; refine Ke (a := x) (w := w) rfl rfl (by simp only [go_sem]) gx hw (by simp [EQ, AV.nb, A0.nb, C.nb]) ?_; simp only [go_sem]; refine hK1 _ ?_; clear hK1 K1)
 refine Bg (fun G => Pre H G /\ G[H.length]? = some (Al (At w)) /\ G.all C3 = true) ?_ ?_
 ·exact ⟨Pre.push _ _, B9 _ _, B7 hok (D5 _)⟩
 rintro G ⟨hP, gl, hokG⟩
 simp only
 have hll := Ba gl
 obtain ⟨lid, hlid⟩ : ∃ l, H.length = l := ⟨_, rfl⟩
 rw [hlid] at gl hll ⊢
 (refine UW ?_;(repeat clear hK K);repeat refine kq fun K hK=>?_)
 refine Bg (fun G2 => Pre G G2 /\ G2[G.length]? = some (Al [cls, (At w).length]) /\ G2.all C3 = true) ?_ ?_
 ·exact ⟨Pre.push _ _, B9 _ _, B7 hokG rfl⟩
 rintro G2 ⟨hP2, gn, hok2⟩
 simp only
 have gl2 := hP2.at gl
 have gn' : G2[G.length]? = some (.r ⟨3, 1, true, A7 [cls, (At w).length]⟩) := gn
 have gl2' : G2[lid]? = some (.r ⟨3, 1, true, A7 (At w)⟩) := gl2
 obtain ⟨nid, hnid⟩ : ∃ l, G.length = l := ⟨_, rfl⟩
 rw [hnid] at gn gn' hll ⊢
 (refine UX (an @gn' (an @gl2' (an @List.set_cons_zero.{0} (an @List.set_cons_succ.{0} (an @List.take_succ_cons.{0} (an @List.take_zero.{0} (an @List.drop_zero.{0} (an @List.length_take.{0} (an @List.length_drop.{0} (an @List.length_append.{0} (an @A2 (an @AJ (an @B4 (an @BL (an @A4 (an @B8 (an @AH (an @Bb (an @AN @B3))))))))))))))))))) ?_;(repeat clear hK K);repeat refine kq fun K hK=>?_)
 refine Bg (fun G3 => Pre H G3 /\ G3[G2.length]? = some (Al (cls :: ((At w).length : Int) :: At w)) /\ G3.all C3 = true) ?_ ?_
 ·refine ⟨(((hP.trans hP2).set (by omega) _).trans (Pre.push _ _)), ?_, B7 (BN hok2 rfl _) (D5 _)⟩
  have := B9 (G2.set nid Ob.d) (Al (cls :: ((At w).length : Int) :: List.take (At w).length (At w)))
  rw [List.length_set, List.take_length] at this
  rw [List.take_length]
  exact this
 have hnG2 := Ba gn
 rintro G3 ⟨hP3, gn3, hok3⟩
 simp only
 obtain ⟨id3, hid3⟩ : ∃ l, G2.length = l := ⟨_, rfl⟩
 rw [hid3] at gn3 hnG2 ⊢
 have hid3l := Ba gn3
 (refine UX (an (hP3.at hyb) (an (hP3.at hvi) (an @hvl @gv))) ?_;(repeat clear hK K);repeat refine kq fun K hK=>?_)
 (refine Aa rfl ?_; intro K1 hK1; refine HQ (mid := m) (kv := Wq V) Tryd.underlying113 rfl rfl (by simp only [go_sem]) (hP3.at gm) (Kf V) ?_; simp only [go_sem, Cd]; refine hK1 _ ?_; clear hK1 K1)
 (refine UW ?_;(repeat clear hK K);repeat refine kq fun K hK=>?_)
 refine AO (Fv 9 3 1 ?_) ?_
 ·simp only [go_sem]
 simp only [List.length_append, List.length_cons, List.length_nil, Nat.zero_add]
 refine GE (fun G => Pre H G /\ G[id3]? = some (Al (cls :: ((At w).length : Int) :: At w)) /\ G[G3.length]? = some (.m (Gd (some m) V.length [] V.length)) /\ G[G3.length + 1]? = some (Al []) /\ G.all C3 = true) ?_ ?_
 ·refine ⟨(hP3.trans (Pre.push _ _)).trans (Pre.push _ _), (Pre.push _ _).at ((Pre.push _ _).at gn3), (Pre.push _ _).at (B9 _ _), ?_, B7 (B7 hok3 rfl) rfl⟩
  have := B9 (G3 ++ [Ob.m (Gd (some m) V.length [] V.length)]) (Al [])
  rwa [List.length_append] at this
 obtain ⟨itd, hitd⟩ : ∃ l, G3.length = l := ⟨_, rfl⟩
 rw [hitd] at hid3l ⊢
 rintro G ⟨hPG, g1, g2, g3, hokG⟩
 simp only
 refine Ab (fun x : List Nat × List Ob × Nat => { tm := [(0, .a (.c (.p yb 0))), (2, .i c), (8, .a (.c (.s id3 (2 + (At w).length)))), (9, .a (.c (.s x.2.2 (WB V x.1).length))), (34, .a (.c (.p itd 0)))], hp := x.2.1, n := 72, pin := lid }) (fun x => Pre H x.2.1 /\ x.2.1[id3]? = some (Al (cls :: ((At w).length : Int) :: At w)) /\ x.2.1[itd]? = some (.m (Gd (some m) V.length x.1 V.length)) /\ x.2.1[x.2.2]? = some (Al (WB V x.1)) /\ id3 < x.2.2 /\ (x.1.Nodup /\ ∀ z ∈ x.1, z < V.length) /\ x.2.1.all C3 = true) (fun x => V.length - x.1.length) ([], G, itd + 1) ?_ ?_ ?_
 ·exact ⟨hPG, g1, g2, g3, by simp only; omega, ⟨by simp, by simp⟩, hokG⟩
 ·simp only [WB, List.map_nil, List.length_nil]
  exact V7
 clear hPG g1 g2 g3 hokG G
 rintro ⟨seen, G, eid⟩ ⟨hPG, g1, g2, g3, hide, ⟨hsn, hsb⟩, hokG⟩ K hK
 simp only at hPG g1 g2 g3 hide hsn hsb hokG
 simp only
 refine Ah ?_
 intro K hK
 refine A5 ?_
 have hne : itd ≠ eid := by rintro rfl; rw [g2] at g3; cases g3
 (refine Aa rfl ?_; intro K1 hK1; refine Ju (id := itd) (mid := m) (kv := Wq V) (since := V.length) (last := V.length) (seen := seen) rfl rfl (by simp only [go_sem]) g2 (hPG.at gm) (Kf V) (FZ V) (by rw [Cd]; exact Nat.le_refl _) (Nat.le_refl _) ?_ ?_)
 rotate_left
 ·intro z pz hz hzn
  obtain ⟨hzl, hzp⟩ := List.getElem?_eq_some_iff.1 hz
  rw [Cd] at hzl
  have hgz := gE1 hzl
  have hpz := MI hgz
  rw [hz] at hpz
  cases hpz
  have hev := OX V seen z
  have hzg : (V.map (·.1)).getD z 0 = V[z].1 := by rw [gE2, List.getElem?_map, hgz]; rfl
  rw [hzg] at hev
  generalize V[z] = p at *
  obtain ⟨e, pk, pw⟩ := p
  simp only at hev hgz hzp
  have hlen : (seen ++ [z]).length <= V.length := by
   have h := CP (l := seen ++ [z]) (m := List.range V.length) (by rw [List.nodup_append]; exact ⟨hsn, by simp, fun a ha b hb => by simp only [List.mem_singleton] at hb; rw [hb]; rintro rfl; exact hzn ha⟩) (fun y hy => by
    rcases List.mem_append.1 hy with h | h
    ·simpa using hsb y h
    ·simp only [List.mem_singleton] at h; subst h; simpa using hzl)
   rwa [List.length_range] at h
  rw [List.length_append, List.length_cons, List.length_nil] at hlen
  have hevl := Rk V seen
  have hlit : lid <= itd := by omega
  (simp only [go_sem, Cd]; refine hK1 _ ?_; clear hK1 K1)
  refine Bg (fun G4 => Pre H G4 /\ G4[id3]? = some (Al (cls :: ((At w).length : Int) :: At w)) /\ G4[itd]? = some (.m (Gd (some m) V.length (seen ++ [z]) V.length)) /\ G4[eid]? = some (.r ⟨3, 1, true, A7 (WB V seen)⟩) /\ G4.all C3 = true) ?_ ?_
  ·exact ⟨hPG.set (by omega) _, by rw [gE5 (by omega)]; exact g1, gEc (Ba g2), by rw [gE5 hne]; exact g3, BN hokG rfl _⟩
  clear hPG g1 g2 g3 hokG
  rintro G4 ⟨hPG, g1, g2, g3, hokG⟩
  simp only
  (refine UW ?_;(repeat clear hK K);repeat refine kq fun K hK=>?_)
  refine V4 ?_
  (refine UW ?_;(repeat clear hK K);repeat refine kq fun K hK=>?_)
  (refine Aa rfl ?_; intro K1 hK1; refine HT (id := itd) (mid := m) (kv := Wq V) (since := V.length) (seen := seen) (i := z) rfl rfl (by simp only [go_sem]) (by rw [Cd]; exact g2) (hPG.at gm) (Kf V) (FZ V) hz ?_; simp only [go_sem]; refine hK1 _ ?_; clear hK1 K1)
  (refine UW ?_;(repeat clear hK K);repeat refine kq fun K hK=>?_)
  refine Bg (fun G5 => Pre G4 G5 /\ G5[G4.length]? = some (.r ⟨3, 1, true, A7 [e]⟩) /\ G5.all C3 = true) ?_ ?_
  ·exact ⟨Pre.push _ _, B9 _ _, B7 hokG rfl⟩
  have hel := Ba g3
  rintro G5 ⟨hP5, g5, hok5⟩
  simp only
  obtain ⟨l4, hl4⟩ : ∃ l, G4.length = l := ⟨_, rfl⟩
  rw [hl4] at g5 hel ⊢
  have g5e := hP5.at g3
  have hl45 := Ba g5
  (refine UX (an @g5 (an @g5e (an @List.set_cons_zero.{0} (an @List.set_cons_succ.{0} (an @List.take_succ_cons.{0} (an @List.take_zero.{0} (an @List.drop_zero.{0} (an @List.length_take.{0} (an @List.length_drop.{0} (an @List.length_append.{0} (an @A2 (an @AJ (an @B4 (an @BL (an @A4 (an @B8 (an @AH (an @Bb (an @AN @B3))))))))))))))))))) ?_;(repeat clear hK K);repeat refine kq fun K hK=>?_)
  have hevl2 : (WB V seen).length + 1 = (WB V (seen ++ [z])).length := by rw [hev]; simp
  refine Bg (fun G6 => Pre H G6 /\ G6[id3]? = some (Al (cls :: ((At w).length : Int) :: At w)) /\ G6[itd]? = some (.m (Gd (some m) V.length (seen ++ [z]) V.length)) /\ G6[G5.length]? = some (Al (WB V (seen ++ [z]))) /\ G6.all C3 = true) ?_ ?_
  ·have hq1 := hPG.1
   refine ⟨((hPG.trans hP5).set (by omega) _).trans (Pre.push _ _), (Pre.push _ _).at ?_, (Pre.push _ _).at ?_, ?_, B7 (BN hok5 rfl _) (D5 _)⟩
   ·rw [gE5 (by omega)]; exact hP5.at g1
   ·rw [gE5 (Ne.symm hne)]; exact hP5.at g2
   ·have := B9 (G5.set eid Ob.d) (Al (WB V (seen ++ [z])))
    rw [List.length_set] at this
    rw [hev] at this ⊢
    rw [List.take_length]
    simp [Al]
  rintro G6 ⟨hP6, h6a, h6b, h6c, hok6⟩
  simp only
  rw [hevl2]
  have hi5 : id3 < G5.length := by omega
  generalize G5.length = eid2 at *
  refine V6 ?_
  refine hK _ (seen ++ [z], G6, eid2) ⟨hP6, h6a, h6b, h6c, hi5, ⟨?_, ?_⟩, hok6⟩ ?_ ?_
  rotate_left 2
  ·simp only [List.length_append, List.length_cons, List.length_nil]; omega
  ·exact V7
  ·rw [List.nodup_append]; exact ⟨hsn, by simp, fun a ha b hb => by simp only [List.mem_singleton] at hb; rw [hb]; rintro rfl; exact hzn ha⟩
  intro y hy
  rcases List.mem_append.1 hy with h | h
  ·exact hsb y h
  simp only [List.mem_singleton] at h; subst h; exact hzl
 intro hall
 rw [Cd] at hall
 have hperm := OY hsn hsb hall
 have hel : (WB V seen).length <= 100000000 := by rw [hperm.length_eq, List.length_map]; omega
 (simp only [go_sem]; refine hK1 _ ?_; clear hK1 K1)
 (refine UW ?_;(repeat clear hK K);repeat refine kq fun K hK=>?_)
 refine V5 ?_
 (refine V0 ?_;repeat clear hK K)
 (refine UW ?_;(repeat clear hK K);repeat refine kq fun K hK=>?_)
 (refine Aa rfl ?_; intro K1 hK1; refine MT (a := eid) (L := WB V seen) rfl rfl (by simp only [go_sem]) g3 hel (by simp [EQ, AV.nb, A0.nb, C.nb]) ?_; intro ES hES1 hES2; simp only [go_sem]; refine hK1 _ ?_; clear hK1 K1)
 have hperm2 := hES1.trans hperm
 have hESl : ES.length = V.length := by rw [hperm2.length_eq, List.length_map]
 have hESn : ES.Nodup := hperm2.nodup_iff.2 hnd
 have hESa : Vb ES := by
  unfold Vb
  refine (hES2.and hESn).imp fun {a b} h => ?_
  obtain ⟨h1, h2⟩ := h
  omega
 have hESm : ∀ e, e ∈ ES ↔ ∃ p ∈ V, p.1 = e := fun e => by rw [hperm2.mem_iff, List.mem_map]
 refine Bg (fun G4 => Pre H G4 /\ G4[id3]? = some (Al (cls :: ((At w).length : Int) :: At w)) /\ G4[eid]? = some (Al ES) /\ G4.all C3 = true) ?_ ?_
 ·have := hPG.1
  exact ⟨hPG.set (by omega) _, by rw [gE5 (by omega)]; exact g1, gEc (Ba g3), BN hokG (D5 _) _⟩
 have hlide : lid <= eid := by have := hPG.1; omega
 clear hPG g1 g2 g3 hokG
 rintro G ⟨hPG, g1, g3, hokG⟩
 simp only
 have hevl : (WB V seen).length = ES.length := hES1.length_eq.symm
 rw [hevl]
 (refine UW ?_;(repeat clear hK K);repeat refine kq fun K hK=>?_)
 have e0 : 2 + (At w).length = (Fh cls w ((ES.take 0).map (WD V))).length := by simp [Fh]; omega
 refine Ab (fun x : Nat × List Ob × Nat => { tm := [(0, .a (.c (.p yb 0))), (2, .i c), (8, .a (.c (.s x.2.2 (Fh cls w ((ES.take x.1).map (WD V))).length))), (45, .a (.c (.s eid ES.length))), (46, .i ES.length), (47, .i x.1)], hp := x.2.1, n := 72, pin := lid }) (fun x => x.1 <= ES.length /\ Pre H x.2.1 /\ x.2.1[x.2.2]? = some (Al (Fh cls w ((ES.take x.1).map (WD V)))) /\ x.2.1[eid]? = some (Al ES) /\ x.2.2 ≠ eid /\ lid <= x.2.2 /\ x.2.1.all C3 = true) (fun x => ES.length - x.1) (0, G, id3) ?_ ?_ ?_
 ·exact ⟨by simp, hPG, by simpa [Fh] using g1, g3, by simp only; omega, by simp only; omega, hokG⟩
 ·rw [<- e0]
  exact V7
 clear hPG g1 g3 hokG e0
 rintro ⟨j, G, nid⟩ ⟨hj, hPG, g1, g3, hne2, hlin, hokG⟩ K hK
 simp only at hj hPG g1 g3 hne2 hlin hokG
 simp only
 have hkl := OZ cls w ((ES.take j).map (WD V))
 rw [List.length_map, List.length_take] at hkl
 by_cases hlj : j < ES.length
 rotate_left
 ·have d1 : decide ((j : Int) < (ES.length : Int)) = false := by simpa using hlj
  have hje : ES.take j = ES := gE7 (by omega)
  rw [hje] at g1 hkl ⊢
  (refine UX @d1 ?_;(repeat clear hK K);repeat refine kq fun K hK=>?_)
  refine V5 ?_
  (refine V0 ?_;repeat clear hK K)
  (refine UW ?_;(repeat clear hK K);repeat refine kq fun K hK=>?_)
  (refine Aa rfl ?_; intro K1 hK1; refine Rj (a := nid) (L := Fh cls w (ES.map (WD V))) rfl rfl (by simp only [go_sem]) g1 (by omega) (by simp [EQ, AV.nb, A0.nb, C.nb]) ?_; simp only [go_sem]; refine hK1 _ ?_; clear hK1 K1)
  (refine UW ?_;(repeat clear hK K);repeat refine kq fun K hK=>?_)
  subst hlid
  refine Va Tryd.results43 ?_
  refine ⟨⟨ES.map (WD V), ?_, fun q => ?_, rfl⟩, hPG, hokG⟩
  ·rw [List.map_map]
   have : (Prod.fst ∘ WD V) = id := rfl
   simpa [Function.comp_def, WD] using hESa
  rw [List.mem_map]
  constructor
  rotate_left
  ·rintro ⟨p, hp, rfl⟩
   exact ⟨p.1, (hESm _).2 ⟨p, hp, rfl⟩, by unfold WD; rw [MU hnd hp]⟩
  rintro ⟨e, he, rfl⟩
  obtain ⟨p, hp, rfl⟩ := (hESm e).1 he
  exact ⟨p, hp, by unfold WD; rw [MU hnd hp]⟩
 have d1 : decide ((j : Int) < (ES.length : Int)) = true := by simpa using hlj
 obtain ⟨p, hp, hpe⟩ := (hESm _).1 (gE6 hlj)
 have gE := Ai (gE1 hlj)
 have gE2 := Aq (gE1 hlj)
 have hwd := MU hnd hp
 have htk : (ES.take (j + 1)).map (WD V) = (ES.take j).map (WD V) ++ [(p.1, p.2.2)] := by
  rw [gE8 hlj, List.map_append, <- hpe, List.map_cons, List.map_nil]
  unfold WD
  rw [hwd]
 obtain ⟨hp1, hp2⟩ := hV p hp
 obtain ⟨jj, hf⟩ := Fj hnd hp rfl 0
 rw [<- hpe] at gE gE2
 have hks := MV cls w ((ES.take j).map (WD V)) (p.1, p.2.2)
 rw [<- htk] at hks
 simp only at hks
 obtain ⟨e, pk, pw⟩ := p
 simp only at hp1 hp2 gE gE2 hf hks
 have hbl2 := Cr pw
 generalize Fh cls w ((ES.take j).map (WD V)) = L0 at *
 have g3' : G[eid]? = some (.r ⟨3, 1, true, A7 ES⟩) := g3
 (refine UX @d1 ?_;(repeat clear hK K);repeat refine kq fun K hK=>?_)
 refine V4 ?_
 (refine UX (an @g3' (an @gE2 (an @A4 (an (hPG.at hyb) (an (hPG.at hvi) (an @hvl @gv)))))) ?_;(repeat clear hK K);repeat refine kq fun K hK=>?_)
 (refine Aa rfl ?_; intro K1 hK1; refine C6 (id := m) (kv := Wq V) (zv := .slice none 0 0) Tryd.underlying113 (Ew Tryd.underlying3) rfl rfl rfl (by simp only [go_sem]) (hPG.at gm) (FZ V) (by simp only [go_sem, Eu]) (L3 e) hf ?_; simp only [go_sem, Wl]; refine hK1 _ ?_; clear hK1 K1)
 (refine UW ?_;(repeat clear hK K);repeat refine kq fun K hK=>?_)
 (refine Aa rfl ?_; intro K1 hK1; refine Ke (a := pk) (w := pw) rfl rfl (by simp only [go_sem]) (hPG.at hp1) hp2 (by simp [EQ, AV.nb, A0.nb, C.nb]) ?_; simp only [go_sem]; refine hK1 _ ?_; clear hK1 K1)
 refine Bg (fun G4 => Pre G G4 /\ G4[G.length]? = some (Al (At pw)) /\ G4.all C3 = true) ?_ ?_
 ·exact ⟨Pre.push _ _, B9 _ _, B7 hokG (D5 _)⟩
 have hnl := Ba g1
 have hel := Ba g3
 rintro G4 ⟨hP4, gb, hok4⟩
 simp only
 obtain ⟨lb, hlb⟩ : ∃ l, G.length = l := ⟨_, rfl⟩
 rw [hlb] at gb hnl hel ⊢
 (refine UW ?_;(repeat clear hK K);repeat refine kq fun K hK=>?_)
 refine Bg (fun G5 => Pre G4 G5 /\ G5[G4.length]? = some (Al [e, (At pw).length]) /\ G5.all C3 = true) ?_ ?_
 ·exact ⟨Pre.push _ _, B9 _ _, B7 hok4 rfl⟩
 have hll4 := Ba gb
 rintro G5 ⟨hP5, gc5, hok5⟩
 simp only
 obtain ⟨l2, hl2⟩ : ∃ l, G4.length = l := ⟨_, rfl⟩
 rw [hl2] at gc5 hll4 ⊢
 have g1a : G5[nid]? = some (.r ⟨3, 1, true, A7 L0⟩) := hP5.at (hP4.at g1)
 have gca : G5[l2]? = some (.r ⟨3, 1, true, A7 [e, (At pw).length]⟩) := gc5
 have hl25 := Ba gca
 (refine UX (an @g1a (an @gca (an @List.set_cons_zero.{0} (an @List.set_cons_succ.{0} (an @List.take_succ_cons.{0} (an @List.take_zero.{0} (an @List.drop_zero.{0} (an @List.length_take.{0} (an @List.length_drop.{0} (an @List.length_append.{0} (an @A2 (an @AJ (an @B4 (an @BL (an @A4 (an @B8 (an @AH (an @Bb (an @AN @B3))))))))))))))))))) ?_;(repeat clear hK K);repeat refine kq fun K hK=>?_)
 refine Bg (fun G6 => Pre H G6 /\ G6[G5.length]? = some (.r ⟨3, 1, true, A7 (L0 ++ [e, ((At pw).length : Int)])⟩) /\ G6[lb]? = some (.r ⟨3, 1, true, A7 (At pw)⟩) /\ G6[eid]? = some (Al ES) /\ G6.all C3 = true) ?_ ?_
 ·have hPH := ((hPG.trans hP4).trans hP5)
  refine ⟨(hPH.set (by omega) _).trans (Pre.push _ _), ?_, ?_, ?_, B7 (BN hok5 rfl _) ?_⟩
  ·have := B9 (G5.set nid Ob.d) (.r ⟨3, 1, true, A7 (L0 ++ [e, ((At pw).length : Int)])⟩)
   rw [List.length_set] at this
   simpa only [List.take_length] using this
  ·refine (Pre.push _ _).at ?_
   rw [gE5 (by omega)]; exact hP5.at gb
  ·refine (Pre.push _ _).at ?_
   rw [gE5 hne2]; exact hP5.at (hP4.at g3)
  ·exact D5 _
 rintro G6 ⟨hP6, g6a, g6b, g6c, hok6⟩
 simp only
 obtain ⟨l3, hl3⟩ : ∃ l, G5.length = l := ⟨_, rfl⟩
 rw [hl3] at g6a hl25 ⊢
 have hl36 := Ba g6a
 (refine UX (an @g6a (an @g6b (an @List.set_cons_zero.{0} (an @List.set_cons_succ.{0} (an @List.take_succ_cons.{0} (an @List.take_zero.{0} (an @List.drop_zero.{0} (an @List.length_take.{0} (an @List.length_drop.{0} (an @List.length_append.{0} (an @A2 (an @AJ (an @B4 (an @BL (an @A4 (an @B8 (an @AH (an @Bb (an @AN @B3))))))))))))))))))) ?_;(repeat clear hK K);repeat refine kq fun K hK=>?_)
 have hkl3 : L0.length + 2 + (At pw).length = (Fh cls w ((ES.take (j + 1)).map (WD V))).length := by rw [hks]; simp; omega
 refine Bg (fun G7 => Pre H G7 /\ G7[G6.length]? = some (Al (Fh cls w ((ES.take (j + 1)).map (WD V)))) /\ G7[eid]? = some (Al ES) /\ G7.all C3 = true) ?_ ?_
 ·refine ⟨(hP6.set (by omega) _).trans (Pre.push _ _), ?_, ?_, B7 (BN hok6 rfl _) (D5 _)⟩
  ·have := B9 (G6.set l3 Ob.d) (Al (Fh cls w ((ES.take (j + 1)).map (WD V))))
   rw [List.length_set] at this
   rw [hks] at this ⊢
   have hL2 : List.take (L0.length + 2) (L0 ++ [e, ((At pw).length : Int)]) = L0 ++ [e, ((At pw).length : Int)] := gE7 (by simp)
   rw [hL2, List.take_length]
   simp [Al]
  ·refine (Pre.push _ _).at ?_
   rw [gE5 (by omega)]; exact g6c
 rintro G7 ⟨hP7, g7a, g7b, hok7⟩
 simp only
 have hG6l : lid <= G6.length /\ G6.length ≠ eid := by
  have h1 := hP6.1
  have h2 := Ba g6c
  constructor
  ·omega
  omega
 rw [hkl3]
 generalize G6.length = nid2 at *
 refine V6 ?_
 refine hK _ (j + 1, G7, nid2) ⟨by simp only; omega, hP7, g7a, g7b, hG6l.2, hG6l.1, hok7⟩ (by simp only; omega) ?_
 exact V7
def Nl (n : Nat) (L : List Int) : List Int := L ++ List.replicate (n - L.length) 0
theorem P0 {n : Nat} {L : List Int} (h : L.length <= n) : (Nl n L).length = n := by simp [Nl]; omega
theorem P2 {n : Nat} {L : List Int} (h : L.length < n) (x : Int) : (Nl n L).set L.length x = Nl n (L ++ [x]) := by
 unfold Nl
 obtain ⟨d, hd⟩ : ∃ d, n - L.length = d + 1 := ⟨n - L.length - 1, by omega⟩
 rw [hd, List.set_append_right _ _ (Nat.le_refl _), Nat.sub_self, List.replicate_succ, List.set_cons_zero, List.length_append, List.length_cons, List.length_nil, show n - (L.length + (0 + 1)) = d from by omega]
 simp
theorem MW (n : Nat) : List.replicate n (C.v (.int .i64 0)) = A7 (Nl n []) := by simp [Nl, A7]
theorem MX {n : Nat} {L : List Int} (h : L.length = n) : Nl n L = L := by simp [Nl, h]
section
variable {α : Type} [DecidableEq α]
set_option maxHeartbeats 2000000 in
theorem Rm (ky : List Value) (g : Nat -> α) (h : RL ky g) (hn : ky.length <= 1000000) : FC Tryd.prog 41 [.a (.c (.s 0 ky.length))] [.r ⟨9, 1, true, Wo ky⟩] (fun r o => r = .tup [.c (.s 1 ky.length), .c (.v (.int .i64 (Vf g ky.length).2))] /\ o = [.r ⟨9, 1, true, Wo ky⟩, Al (Vf g ky.length).1]) := by
 refine Af Tryd.func41 rfl (by rw [Tryd.ntmps41]; simp) ?_
 rw [Tryd.ntmps41]
 simp only [C2]
 (refine UX @MW ?_;(repeat clear hK K);repeat refine kq fun K hK=>?_)
 refine Ab (fun k : Nat => { tm := [(4, .a (.c (.m 1))), (5, .a (.c (.s 2 ky.length))), (14, .a (.c (.s 0 ky.length))), (15, .i ky.length), (16, .i k)], hp := [.r ⟨9, 1, true, Wo ky⟩, .m (Wn ky g k), .r ⟨3, 1, true, A7 (Nl ky.length (Vf g k).1)⟩], n := 42, pin := 1 }) (fun k => k <= ky.length) (fun k => ky.length - k) 0 ?_ ?_ ?_
 ·omega
 ·exact V7
 rintro k hk K hK
 by_cases hlt : k < ky.length
 rotate_left
 ·have d1 : decide ((k : Int) < (ky.length : Int)) = false := by simpa using hlt
  have hke : k = ky.length := by omega
  have hkl := MC ky g k
  have hnl := (BX g k).len
  have hitk : NC (Wn ky g k) = false := by obtain ⟨M, hM⟩ := Hf ky g k; rw [hM]; exact PL M
  rw [<- hke]
  rw [<- hke] at d1
  rw [MX hnl]
  (refine UX @d1 ?_;(repeat clear hK K);repeat refine kq fun K hK=>?_)
  refine V5 ?_
  (refine V0 ?_;repeat clear hK K)
  (refine UW ?_;(repeat clear hK K);repeat refine kq fun K hK=>?_)
  (refine Aa rfl ?_; intro K1 hK1; refine K9 (id := 1) (kv := Wn ky g k) Tryd.underlying103 rfl rfl rfl rfl rfl (by simp only [go_sem]) rfl hitk ?_; simp only [go_sem, hkl]; refine hK1 _ ?_; clear hK1 K1)
  (refine UW ?_;(repeat clear hK K);repeat refine kq fun K hK=>?_)
  ((try refine AM ?_); (try simp only [Ag, B6]); refine BG (Ae [0, 2] rfl rfl) ?_; (try simp only [List.set_nil, List.take_nil, List.take_zero, List.map_append, go_sem]); ((try refine AM ?_); (try refine A6 ?_); (try simp only [Ag, B6]); refine BP (by first | exact .inl rfl | exact .inr rfl) rfl ?_; simp only [Uo, Fy, F0, Ge, Tryd.results41, go_sem, true_and, and_true, Ak, EL, Al]))
  rw [hke]; exact ⟨rfl, rfl⟩
 have d1 : decide ((k : Int) < (ky.length : Int)) = true := by simpa using hlt
 have gk := QW hlt
 have hft := QV h hlt
 have hcl := (BX g k).cnt
 have hpl := Su ky g k
 have hkl := MC ky g k
 have hnl := (BX g k).len
 have hfd := OG h hlt k hk
 have hfl := P0 (n := ky.length) (L := (Vf g k).1) (by omega)
 have hfs := P2 (n := ky.length) (L := (Vf g k).1) (by omega)
 rw [hnl] at hfs
 (refine UX (an @FY @d1) ?_;(repeat clear hK K);repeat refine kq fun K hK=>?_)
 refine V4 ?_
 cases hf : (List.range k).find? (fun t => decide (g t = g k)) with
 | some t0 =>
  have h2 := List.find?_range_eq_some.1 hf
  have h3 : t0 < k := by simpa using h2.2.1
  have h4 : g t0 = g k := by simpa using h2.1
  have hkv : Wn ky g (k + 1) = Wn ky g k := Eo hf
  have hng := Eh hf
  obtain ⟨t, a1, a2, j, a3⟩ : ∃ t, t < k /\ g t = g k /\ ∃ j, Bu .ks (ky.getD k (.int .i64 0)) (Wn ky g k) 0 = some (some (j, .v (.int .i64 ((Vf g k).1.getD t 0)))) := by
   rcases hfd with h | ⟨a1, _⟩
   ·exact h
   exact absurd h4 (a1 t0 h3)
  have he : (Vf g k).1.getD t 0 = (Vf g k).1.getD t0 0 := ((BX g k).eq t t0 a1 h3).2 (a2.trans h4.symm)
  rw [he] at a3
  have cs := hfs ((Vf g k).1.getD t0 0)
  obtain ⟨M, hM⟩ := Hf ky g k
  generalize Wn ky g k = kv at *
  subst hM
  generalize Vf g k = p at *
  generalize ky.getD k (.int .i64 0) = kk at *
  (refine UX (an @FY @gk) ?_;(repeat clear hK K);repeat refine kq fun K hK=>?_)
  (refine Aa rfl ?_; intro K1 hK1; refine C6 (id := 1) (kv := M.map fun p => (p.1, C.v p.2)) (zv := .int .i64 0) Tryd.underlying103 (IH Tryd.underlying9) rfl rfl rfl (by simp only [go_sem]) rfl hpl (by simp only [go_sem, Eu]) hft a3 ?_; simp only [go_sem, Wl]; refine hK1 _ ?_; clear hK1 K1)
  (refine UX @Bool.not_true ?_;(repeat clear hK K);repeat refine kq fun K hK=>?_)
  refine V5 ?_
  (refine D1 (an @A4 (an @hfl (an @Bc @cs))) ?_;(repeat clear hK K);repeat refine kq fun K hK=>?_)
  refine V6 ?_
  refine hK _ (k + 1) (by omega) (by omega) ?_
  rw [hkv, hng]
  exact V7
 | none =>
  have hno := List.find?_range_eq_none.1 hf
  have hkv := Ep (ky := ky) hf
  have hng := Ei hf
  have a2 : Bu .ks (ky.getD k (.int .i64 0)) (Wn ky g k) 0 = some none := by
   rcases hfd with ⟨t, a1, a2, _⟩ | ⟨_, a2⟩
   ·exact absurd a2 (by simpa using hno t a1)
   exact a2
  have cs := hfs (Vf g k).2
  obtain ⟨M, hM⟩ := Hf ky g k
  generalize Wn ky g k = kv at *
  subst hM
  generalize Vf g k = p at *
  generalize ky.getD k (.int .i64 0) = kk at *
  (refine UX (an @FY @gk) ?_;(repeat clear hK K);repeat refine kq fun K hK=>?_)
  (refine Aa rfl ?_; intro K1 hK1; refine C6 (id := 1) (kv := M.map fun p => (p.1, C.v p.2)) (zv := .int .i64 0) Tryd.underlying103 (IH Tryd.underlying9) rfl rfl rfl (by simp only [go_sem]) rfl hpl (by simp only [go_sem, Eu]) hft a2 ?_; simp only [go_sem, Wl]; refine hK1 _ ?_; clear hK1 K1)
  (refine UX @Bool.not_false ?_;(repeat clear hK K);repeat refine kq fun K hK=>?_)
  refine V4 ?_
  (refine UW ?_;(repeat clear hK K);repeat refine kq fun K hK=>?_)
  (refine Aa rfl ?_; intro K1 hK1; refine K9 (id := 1) (kv := M.map fun p => (p.1, C.v p.2)) Tryd.underlying103 rfl rfl rfl rfl rfl (by simp only [go_sem]) rfl (PL _) ?_; simp only [go_sem, hkl]; refine hK1 _ ?_; clear hK1 K1)
  (refine UW ?_;(repeat clear hK K);repeat refine kq fun K hK=>?_)
  (refine Aa rfl ?_; intro K1 hK1; refine GC (id := 1) (kv := M.map fun p => (p.1, C.v p.2)) (c := .v (.int .i64 p.2)) Tryd.underlying103 (IH Tryd.underlying9) rfl rfl (by simp only [go_sem]) rfl hpl (by simp only [go_sem, Eu]) hft (by simp only [go_sem]) rfl a2 ?_; simp only [go_sem]; refine hK1 _ ?_; clear hK1 K1)
  (refine D1 (an @A4 (an @hfl (an @Bc @cs))) ?_;(repeat clear hK K);repeat refine kq fun K hK=>?_)
  refine V6 ?_
  refine hK _ (k + 1) (by omega) (by omega) ?_
  rw [hkv, hng]
  exact V7
end
def WE : Value := .string { data := #[100, 105, 118, 101, 114, 103, 101, 110, 116] }
def WF : Value := .string { data := #[] }
theorem SF (ky : List Value) (f : Nat -> Nat) : (Wo ky).map (C.up f) = Wo ky := by simp [Wo, C.up, Function.comp_def]
theorem Rn {a b c : ST} (h : Le a b) (k : Le b c) : Le a c := h.trans k
end Go.Proofs.YthnkailnoobdoaaDoor
