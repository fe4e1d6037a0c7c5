/- Lemmas. -/
import Derived.Test.YthnkailnoobdoaaGreatDoorZk
import Derived.Test.YthnkailnoobdoaaGreatDoorW01
import Derived.Test.YthnkailnoobdoaaGreatDoorW06
import Derived.Test.YthnkailnoobdoaaGreatDoorMG
import Derived.Test.YthnkailnoobdoaaGreatDoorG53
import Derived.Test.YthnkailnoobdoaaGreatDoorMit
import Derived.Test.YthnkailnoobdoaaGreatDoorOd1
namespace Go.Proofs.YthnkailnoobdoaaGreatDoor
set_option linter.unusedVariables false
set_option linter.unusedSimpArgs false
open Go.RowKit
set_option maxRecDepth 100000
attribute [local go_sem] lga C.pl C.one

section
variable {o : Oper} {st : ST} {K : ST -> Prop}
theorem Gy (L : List Int) (ρ : List Nat) : (Aw L).ren ρ = Aw L := by simp [Aw, Ob.ren, Ak]
theorem HN (L : List Int) (f : Nat -> Nat) : (Aw L).up f = Aw L := by simp [Aw, Ob.up, CT]
theorem Do (L : List Int) : Cf (Aw L) = true := by
 show (A7 L).all C.pl = true
 rw [List.all_eq_true]
 intro c hc
 obtain ⟨x, _, rfl⟩ := List.mem_map.1 hc
 rfl
theorem NW {x : Operand} {ts : Array TypeId} {a : Nat} {L : List Int} (hd : Vu o st.n = true) (ho : o.op = .call { callee := .value (.func 70), args := #[x], argTypes := ts }) (hx : st.ev x = .a (.c (.s a L.length))) (ha : st.hp[a]? = some (Aw L)) (hL : L.length <= 100000000)
  (hnb : EV [a] st.tm = st.tm) (h : ∀ L' : List Int, L'.Perm L -> L'.Pairwise (fun a b => a <= b) -> K ({ st with hp := st.hp.set a (Aw L') }.put o.dst .u)) : Stp Tryz.prog o st K := by
 have i1 : idx [a] a 0 = some 0 := by simp [idx]
 refine AX (ids := []) [a] (Pi L hL) hd ho rfl (by kernel_rfl) rfl (by simp [Bj ha]) ?_ ?_ ?_ ?_
 ·simp [hx, E3, AV.ren, A0.ren, C.ren, i1]
 ·have := Gy L [a]
  simp only [VC, List.map_cons, List.map_nil, D0 ha, this]; rfl
 ·rintro r outs ⟨rfl, L', _, _, rfl⟩; rfl
 rintro r outs ⟨rfl, L', h1, h2, rfl⟩
 have e : st.back [a] [.r ⟨3, 1, true, A7 L'⟩] = { st with hp := st.hp.set a (Aw L') } := by
  unfold ST.back
  rw [hnb]
  have := HN L' (VF [a] st.hp.length)
  simp only [Aw] at this
  simp only [List.map_cons, List.map_nil, this, Cd, List.append_nil, Aw]
 rw [e]; exact h L' h1 h2
theorem Sk {x : Operand} {ts : Array TypeId} {a : Nat} {L : List Int} (hd : Vu o st.n = true) (ho : o.op = .call { callee := .value (.func 57), args := #[x], argTypes := ts }) (hx : st.ev x = .a (.c (.s a L.length))) (ha : st.hp[a]? = some (Aw L)) (hL : L.length <= 100000000)
  (hnb : EV [a] st.tm = st.tm) (h : K (st.put o.dst (.a (.c (.v (Jy L)))))) : Stp Tryz.prog o st K := by
 have i1 : idx [a] a 0 = some 0 := by simp [idx]
 refine AX (ids := []) [a] (FC.inS1 (e := 3) (TT L hL)) hd ho rfl (by kernel_rfl) rfl (by simp [Bj ha]) ?_ ?_ ?_ ?_
 ·simp [hx, E3, AV.ren, A0.ren, C.ren, i1]
 ·have := Gy L [a]
  simp only [VC, List.map_cons, List.map_nil, D0 ha, this]; rfl
 ·rintro r outs ⟨rfl, rfl⟩; rfl
 rintro r outs ⟨rfl, rfl⟩
 have e : st.back [a] [.r ⟨3, 1, true, A7 L⟩] = st := by
  unfold ST.back
  rw [hnb]
  have := HN L (VF [a] st.hp.length)
  simp only [Aw] at this
  simp only [List.map_cons, List.map_nil, this, Cd, List.append_nil]
  rw [FM (by exact ha)]
 rw [e]; exact h
end
theorem H9 {α β : Type} {f : α -> β} : ∀ {l : List α}, (l.map f).Nodup -> ∀ {a b}, a ∈ l -> b ∈ l -> f a = f b -> a = b
 | [], _, _, _, h, _, _ => by simp at h
 | x :: l, hn, a, b, ha, hb, e => by
  simp only [List.map_cons, List.nodup_cons] at hn
  rcases List.mem_cons.1 ha with h1 | h1
  ·rcases List.mem_cons.1 hb with h2 | h2
   ·rw [h1, h2]
   ·exact absurd (List.mem_map.2 ⟨b, h2, by rw [<- e, h1]⟩) hn.1
  ·rcases List.mem_cons.1 hb with h2 | h2
   ·exact absurd (List.mem_map.2 ⟨a, h1, by rw [e, h2]⟩) hn.1
   ·exact H9 hn.2 h1 h2 e
def XU (V : List (Int × Nat × Nat)) (seen : List Nat) : List Int := seen.map fun z => (V.map (·.1)).getD z 0
theorem YX (V : List (Int × Nat × Nat)) (seen : List Nat) (z : Nat) : XU V (seen ++ [z]) = XU V seen ++ [(V.map (·.1)).getD z 0] := by simp [XU]
theorem Sm (V : List (Int × Nat × Nat)) (seen : List Nat) : (XU V seen).length = seen.length := by simp [XU]
theorem Q2 {V : List (Int × Nat × Nat)} {seen : List Nat} (hnd : seen.Nodup) (h1 : ∀ z ∈ seen, z < V.length) (h2 : ∀ z, z < V.length -> z ∈ seen) : (XU V seen).Perm (V.map (·.1)) := by
 have hp : seen.Perm (List.range V.length) := (List.perm_ext_iff_of_nodup hnd List.nodup_range).2 fun z => by rw [List.mem_range]; exact ⟨h1 z, h2 z⟩
 have e : (List.range V.length).map (fun z => (V.map (·.1)).getD z 0) = V.map (·.1) := by
  refine List.ext_getElem (by simp) fun i h1 h2 => ?_
  have hi : i < V.length := by simpa using h2
  simp [gE2, hi]
 have := hp.map (fun z => (V.map (·.1)).getD z 0)
 rw [e] at this
 exact this
def XV (V : List (Int × Nat × Nat)) (e : Int) : Nat := ((V.find? fun p => p.1 == e).map (·.2.2)).getD 0
theorem NX {V : List (Int × Nat × Nat)} (hnd : (V.map (·.1)).Nodup) {p : Int × Nat × Nat} (hp : p ∈ V) : XV V p.1 = p.2.2 := by
 unfold XV
 cases hf : V.find? (fun q => q.1 == p.1) with
 | none => exact absurd (List.find?_eq_none.1 hf p hp) (by simp)
 | some q =>
  have h1 := List.find?_some hf
  have h2 := List.mem_of_find?_eq_some hf
  have : q = p := H9 hnd h2 hp (by simpa using h1)
  rw [this]; rfl
def XW (V : List (Int × Nat × Nat)) (e : Int) : Int × Nat := (e, XV V e)
theorem NY (x : Int) (t : Nat) (V : List (Int × Nat)) (p : Int × Nat) : FL x t (V ++ [p]) = FL x t V ++ (p.1 :: ((AK p.2).length : Int) :: AK p.2) := by simp [FL]
theorem Q3 (x : Int) (t : Nat) (V : List (Int × Nat)) : (FL x t V).length <= 66 + V.length * 66 := by
 unfold FL
 have h0 := CJ t
 have h1 : (V.flatMap fun p => p.1 :: ((AK p.2).length : Int) :: AK p.2).length <= V.length * 66 := by
  induction V with
  | nil => simp
  | cons p V ih =>
   have := CJ p.2
   simp only [List.flatMap_cons, List.length_append, List.length_cons] at ih ⊢
   omega
 simp only [List.length_cons, List.length_append]
 omega
set_option maxHeartbeats 4000000 in
theorem Sn (H : List Ob) (yb ta vi n c x m w : Nat) (cls : Int) (tc vc : List C) (V : List (Int × Nat × Nat)) (hyb : H[yb]? = some (.r ⟨101, 2, false, [.s ta n, .s vi n]⟩)) (hta : H[ta]? = some (.r ⟨103, 1, true, tc⟩)) (hvi : H[vi]? = some (.r ⟨106, 1, true, vc⟩)) (htl : tc.length = n) (hvl : vc.length = n) (hn : n <= 1000000)
  (hc : c < n) (gt : tc[c]? = some (.s x 1)) (gx : H[x]? = some (C6 w)) (hw : w < 2 ^ 64) (gv : vc[c]? = some (.m m)) (gm : H[m]? = some (.m (XK V))) (hnd : (V.map (·.1)).Nodup) (hV : ∀ p ∈ V, H[p.2.1]? = some (C6 p.2.2) /\ p.2.2 < 2 ^ 64) (hVl : V.length <= 2000) (hok : H.all Cf = true) :
  FC Tryz.prog 48 [.a (.c (.p yb 0)), .i cls, .i (c : Int)] H (fun r o => (∃ VL : List (Int × Nat), Ws (VL.map (·.1)) /\ (∀ q, q ∈ VL ↔ ∃ p ∈ V, q = (p.1, p.2.2)) /\ r = .a (.c (.v (Jy (FL cls w VL))))) /\ Pre H o /\ o.all Cf = true) := by
 refine A9 Tryz.func48 rfl (by rw [Tryz.ntmps48]; simp) ?_
 rw [Tryz.ntmps48]
 simp only [Bz]
 have hbl := CJ w
 (refine Wf (an @hyb (an @hta (an @htl @gt))) ?_;(repeat clear hK K);repeat refine kq fun K hK=>?_)
 (refine Ad rfl ?_; intro K1 hK1; refine KZ (a := x) (w := w) rfl rfl (by simp only [go_sem]) gx hw (by simp [EV, AV.nb, A0.nb, C.nb]) ?_; simp only [go_sem]; refine hK1 _ ?_; clear hK1 K1)
 refine Bx (fun G => Pre H G /\ G[H.length]? = some (Aw (AK w)) /\ G.all Cf = true) ?_ ?_
 ·exact ⟨Pre.push _ _, Bi _ _, Bf hok (Do _)⟩
 rintro G ⟨hP, gl, hokG⟩
 simp only
 have hll := Bj gl
 obtain ⟨lid, hlid⟩ : ∃ l, H.length = l := ⟨_, rfl⟩
 rw [hlid] at gl hll ⊢
 (refine We ?_;(repeat clear hK K);repeat refine kq fun K hK=>?_)
 refine Bx (fun G2 => Pre G G2 /\ G2[G.length]? = some (Aw [cls, (AK w).length]) /\ G2.all Cf = true) ?_ ?_
 ·exact ⟨Pre.push _ _, Bi _ _, Bf hokG rfl⟩
 rintro G2 ⟨hP2, gn, hok2⟩
 simp only
 have gl2 := hP2.at gl
 have gn' : G2[G.length]? = some (.r ⟨3, 1, true, A7 [cls, (AK w).length]⟩) := gn
 have gl2' : G2[lid]? = some (.r ⟨3, 1, true, A7 (AK w)⟩) := gl2
 obtain ⟨nid, hnid⟩ : ∃ l, G.length = l := ⟨_, rfl⟩
 rw [hnid] at gn gn' hll ⊢
 (refine Wf (an @gn' (an @gl2' (an @List.set_cons_zero.{0} (an @List.set_cons_succ.{0} (an @List.take_succ_cons.{0} (an @List.take_zero.{0} (an @List.drop_zero.{0} (an @List.length_take.{0} (an @List.length_drop.{0} (an @List.length_append.{0} (an @Yi (an @Az (an @AZ (an @BC (an @A5 (an @B6 (an @AH (an @Bd (an @AM @AY))))))))))))))))))) ?_;(repeat clear hK K);repeat refine kq fun K hK=>?_)
 refine Bx (fun G3 => Pre H G3 /\ G3[G2.length]? = some (Aw (cls :: ((AK w).length : Int) :: AK w)) /\ G3.all Cf = true) ?_ ?_
 ·refine ⟨(((hP.trans hP2).set (by omega) _).trans (Pre.push _ _)), ?_, Bf (C3 hok2 rfl _) (Do _)⟩
  have := Bi (G2.set nid Ob.d) (Aw (cls :: ((AK w).length : Int) :: List.take (AK w).length (AK w)))
  rw [List.length_set, List.take_length] at this
  rw [List.take_length]
  exact this
 have hnG2 := Bj gn
 rintro G3 ⟨hP3, gn3, hok3⟩
 simp only
 obtain ⟨id3, hid3⟩ : ∃ l, G2.length = l := ⟨_, rfl⟩
 rw [hid3] at gn3 hnG2 ⊢
 have hid3l := Bj gn3
 (refine Wf (an (hP3.at hyb) (an (hP3.at hvi) (an @hvl @gv))) ?_;(repeat clear hK K);repeat refine kq fun K hK=>?_)
 (refine Ad rfl ?_; intro K1 hK1; refine Ig (mid := m) (kv := XK V) Tryz.underlying106 rfl rfl (by simp only [go_sem]) (hP3.at gm) (Yo V) ?_; simp only [go_sem, Cp]; refine hK1 _ ?_; clear hK1 K1)
 (refine We ?_;(repeat clear hK K);repeat refine kq fun K hK=>?_)
 refine Av (Dt 9 3 1 ?_) ?_
 ·simp only [go_sem]
 simp only [List.length_append, List.length_cons, List.length_nil, Nat.zero_add]
 refine H8 (fun G => Pre H G /\ G[id3]? = some (Aw (cls :: ((AK w).length : Int) :: AK w)) /\ G[G3.length]? = some (.m (GE (some m) V.length [] V.length)) /\ G[G3.length + 1]? = some (Aw []) /\ G.all Cf = true) ?_ ?_
 ·refine ⟨(hP3.trans (Pre.push _ _)).trans (Pre.push _ _), (Pre.push _ _).at ((Pre.push _ _).at gn3), (Pre.push _ _).at (Bi _ _), ?_, Bf (Bf hok3 rfl) rfl⟩
  have := Bi (G3 ++ [Ob.m (GE (some m) V.length [] V.length)]) (Aw [])
  rwa [List.length_append] at this
 obtain ⟨itd, hitd⟩ : ∃ l, G3.length = l := ⟨_, rfl⟩
 rw [hitd] at hid3l ⊢
 rintro G ⟨hPG, g1, g2, g3, hokG⟩
 simp only
 refine A6 (fun x : List Nat × List Ob × Nat => { tm := [(0, .a (.c (.p yb 0))), (2, .i c), (8, .a (.c (.s id3 (2 + (AK w).length)))), (9, .a (.c (.s x.2.2 (XU V x.1).length))), (34, .a (.c (.p itd 0)))], hp := x.2.1, n := 72, pin := lid }) (fun x => Pre H x.2.1 /\ x.2.1[id3]? = some (Aw (cls :: ((AK w).length : Int) :: AK w)) /\ x.2.1[itd]? = some (.m (GE (some m) V.length x.1 V.length)) /\ x.2.1[x.2.2]? = some (Aw (XU V x.1)) /\ id3 < x.2.2 /\ (x.1.Nodup /\ ∀ z ∈ x.1, z < V.length) /\ x.2.1.all Cf = true) (fun x => V.length - x.1.length) ([], G, itd + 1) ?_ ?_ ?_
 ·exact ⟨hPG, g1, g2, g3, by simp only; omega, ⟨by simp, by simp⟩, hokG⟩
 ·simp only [XU, List.map_nil, List.length_nil]
  exact Wo
 clear hPG g1 g2 g3 hokG G
 rintro ⟨seen, G, eid⟩ ⟨hPG, g1, g2, g3, hide, ⟨hsn, hsb⟩, hokG⟩ K hK
 simp only at hPG g1 g2 g3 hide hsn hsb hokG
 simp only
 refine AG ?_
 intro K hK
 refine Ag ?_
 have hne : itd ≠ eid := by rintro rfl; rw [g2] at g3; cases g3
 (refine Ad rfl ?_; intro K1 hK1; refine JZ (id := itd) (mid := m) (kv := XK V) (since := V.length) (last := V.length) (seen := seen) rfl rfl (by simp only [go_sem]) g2 (hPG.at gm) (Yo V) (Gw V) (by rw [Cp]; exact Nat.le_refl _) (Nat.le_refl _) ?_ ?_)
 rotate_left
 ·intro z pz hz hzn
  obtain ⟨hzl, hzp⟩ := List.getElem?_eq_some_iff.1 hz
  rw [Cp] at hzl
  have hgz := gE1 hzl
  have hpz := NN hgz
  rw [hz] at hpz
  cases hpz
  have hev := YX V seen z
  have hzg : (V.map (·.1)).getD z 0 = V[z].1 := by rw [gE2, List.getElem?_map, hgz]; rfl
  rw [hzg] at hev
  generalize V[z] = p at *
  obtain ⟨e, pk, pw⟩ := p
  simp only at hev hgz hzp
  have hlen : (seen ++ [z]).length <= V.length := by
   have h := D8 (l := seen ++ [z]) (m := List.range V.length) (by rw [List.nodup_append]; exact ⟨hsn, by simp, fun a ha b hb => by simp only [List.mem_singleton] at hb; rw [hb]; rintro rfl; exact hzn ha⟩) (fun y hy => by
    rcases List.mem_append.1 hy with h | h
    ·simpa using hsb y h
    ·simp only [List.mem_singleton] at h; subst h; simpa using hzl)
   rwa [List.length_range] at h
  rw [List.length_append, List.length_cons, List.length_nil] at hlen
  have hevl := Sm V seen
  have hlit : lid <= itd := by omega
  (simp only [go_sem, Cp]; refine hK1 _ ?_; clear hK1 K1)
  refine Bx (fun G4 => Pre H G4 /\ G4[id3]? = some (Aw (cls :: ((AK w).length : Int) :: AK w)) /\ G4[itd]? = some (.m (GE (some m) V.length (seen ++ [z]) V.length)) /\ G4[eid]? = some (.r ⟨3, 1, true, A7 (XU V seen)⟩) /\ G4.all Cf = true) ?_ ?_
  ·exact ⟨hPG.set (by omega) _, by rw [gE5 (by omega)]; exact g1, gEc (Bj g2), by rw [gE5 hne]; exact g3, C3 hokG rfl _⟩
  clear hPG g1 g2 g3 hokG
  rintro G4 ⟨hPG, g1, g2, g3, hokG⟩
  simp only
  (refine We ?_;(repeat clear hK K);repeat refine kq fun K hK=>?_)
  refine Wl ?_
  (refine We ?_;(repeat clear hK K);repeat refine kq fun K hK=>?_)
  (refine Ad rfl ?_; intro K1 hK1; refine Ih (id := itd) (mid := m) (kv := XK V) (since := V.length) (seen := seen) (i := z) rfl rfl (by simp only [go_sem]) (by rw [Cp]; exact g2) (hPG.at gm) (Yo V) (Gw V) hz ?_; simp only [go_sem]; refine hK1 _ ?_; clear hK1 K1)
  (refine We ?_;(repeat clear hK K);repeat refine kq fun K hK=>?_)
  refine Bx (fun G5 => Pre G4 G5 /\ G5[G4.length]? = some (.r ⟨3, 1, true, A7 [e]⟩) /\ G5.all Cf = true) ?_ ?_
  ·exact ⟨Pre.push _ _, Bi _ _, Bf hokG rfl⟩
  have hel := Bj g3
  rintro G5 ⟨hP5, g5, hok5⟩
  simp only
  obtain ⟨l4, hl4⟩ : ∃ l, G4.length = l := ⟨_, rfl⟩
  rw [hl4] at g5 hel ⊢
  have g5e := hP5.at g3
  have hl45 := Bj g5
  (refine Wf (an @g5 (an @g5e (an @List.set_cons_zero.{0} (an @List.set_cons_succ.{0} (an @List.take_succ_cons.{0} (an @List.take_zero.{0} (an @List.drop_zero.{0} (an @List.length_take.{0} (an @List.length_drop.{0} (an @List.length_append.{0} (an @Yi (an @Az (an @AZ (an @BC (an @A5 (an @B6 (an @AH (an @Bd (an @AM @AY))))))))))))))))))) ?_;(repeat clear hK K);repeat refine kq fun K hK=>?_)
  have hevl2 : (XU V seen).length + 1 = (XU V (seen ++ [z])).length := by rw [hev]; simp
  refine Bx (fun G6 => Pre H G6 /\ G6[id3]? = some (Aw (cls :: ((AK w).length : Int) :: AK w)) /\ G6[itd]? = some (.m (GE (some m) V.length (seen ++ [z]) V.length)) /\ G6[G5.length]? = some (Aw (XU V (seen ++ [z]))) /\ G6.all Cf = true) ?_ ?_
  ·have hq1 := hPG.1
   refine ⟨((hPG.trans hP5).set (by omega) _).trans (Pre.push _ _), (Pre.push _ _).at ?_, (Pre.push _ _).at ?_, ?_, Bf (C3 hok5 rfl _) (Do _)⟩
   ·rw [gE5 (by omega)]; exact hP5.at g1
   ·rw [gE5 (Ne.symm hne)]; exact hP5.at g2
   ·have := Bi (G5.set eid Ob.d) (Aw (XU V (seen ++ [z])))
    rw [List.length_set] at this
    rw [hev] at this ⊢
    rw [List.take_length]
    simp [Aw]
  rintro G6 ⟨hP6, h6a, h6b, h6c, hok6⟩
  simp only
  rw [hevl2]
  have hi5 : id3 < G5.length := by omega
  generalize G5.length = eid2 at *
  refine Wn ?_
  refine hK _ (seen ++ [z], G6, eid2) ⟨hP6, h6a, h6b, h6c, hi5, ⟨?_, ?_⟩, hok6⟩ ?_ ?_
  rotate_left 2
  ·simp only [List.length_append, List.length_cons, List.length_nil]; omega
  ·exact Wo
  ·rw [List.nodup_append]; exact ⟨hsn, by simp, fun a ha b hb => by simp only [List.mem_singleton] at hb; rw [hb]; rintro rfl; exact hzn ha⟩
  intro y hy
  rcases List.mem_append.1 hy with h | h
  ·exact hsb y h
  simp only [List.mem_singleton] at h; subst h; exact hzl
 intro hall
 rw [Cp] at hall
 have hperm := Q2 hsn hsb hall
 have hel : (XU V seen).length <= 100000000 := by rw [hperm.length_eq, List.length_map]; omega
 (simp only [go_sem]; refine hK1 _ ?_; clear hK1 K1)
 (refine We ?_;(repeat clear hK K);repeat refine kq fun K hK=>?_)
 refine Wm ?_
 (refine Wi ?_;repeat clear hK K)
 (refine We ?_;(repeat clear hK K);repeat refine kq fun K hK=>?_)
 (refine Ad rfl ?_; intro K1 hK1; refine NW (a := eid) (L := XU V seen) rfl rfl (by simp only [go_sem]) g3 hel (by simp [EV, AV.nb, A0.nb, C.nb]) ?_; intro ES hES1 hES2; simp only [go_sem]; refine hK1 _ ?_; clear hK1 K1)
 have hperm2 := hES1.trans hperm
 have hESl : ES.length = V.length := by rw [hperm2.length_eq, List.length_map]
 have hESn : ES.Nodup := hperm2.nodup_iff.2 hnd
 have hESa : Ws ES := by
  unfold Ws
  refine (hES2.and hESn).imp fun {a b} h => ?_
  obtain ⟨h1, h2⟩ := h
  omega
 have hESm : ∀ e, e ∈ ES ↔ ∃ p ∈ V, p.1 = e := fun e => by rw [hperm2.mem_iff, List.mem_map]
 refine Bx (fun G4 => Pre H G4 /\ G4[id3]? = some (Aw (cls :: ((AK w).length : Int) :: AK w)) /\ G4[eid]? = some (Aw ES) /\ G4.all Cf = true) ?_ ?_
 ·have := hPG.1
  exact ⟨hPG.set (by omega) _, by rw [gE5 (by omega)]; exact g1, gEc (Bj g3), C3 hokG (Do _) _⟩
 have hlide : lid <= eid := by have := hPG.1; omega
 clear hPG g1 g2 g3 hokG
 rintro G ⟨hPG, g1, g3, hokG⟩
 simp only
 have hevl : (XU V seen).length = ES.length := hES1.length_eq.symm
 rw [hevl]
 (refine We ?_;(repeat clear hK K);repeat refine kq fun K hK=>?_)
 have e0 : 2 + (AK w).length = (FL cls w ((ES.take 0).map (XW V))).length := by simp [FL]; omega
 refine A6 (fun x : Nat × List Ob × Nat => { tm := [(0, .a (.c (.p yb 0))), (2, .i c), (8, .a (.c (.s x.2.2 (FL cls w ((ES.take x.1).map (XW V))).length))), (45, .a (.c (.s eid ES.length))), (46, .i ES.length), (47, .i x.1)], hp := x.2.1, n := 72, pin := lid }) (fun x => x.1 <= ES.length /\ Pre H x.2.1 /\ x.2.1[x.2.2]? = some (Aw (FL cls w ((ES.take x.1).map (XW V)))) /\ x.2.1[eid]? = some (Aw ES) /\ x.2.2 ≠ eid /\ lid <= x.2.2 /\ x.2.1.all Cf = true) (fun x => ES.length - x.1) (0, G, id3) ?_ ?_ ?_
 ·exact ⟨by simp, hPG, by simpa [FL] using g1, g3, by simp only; omega, by simp only; omega, hokG⟩
 ·rw [<- e0]
  exact Wo
 clear hPG g1 g3 hokG e0
 rintro ⟨j, G, nid⟩ ⟨hj, hPG, g1, g3, hne2, hlin, hokG⟩ K hK
 simp only at hj hPG g1 g3 hne2 hlin hokG
 simp only
 have hkl := Q3 cls w ((ES.take j).map (XW V))
 rw [List.length_map, List.length_take] at hkl
 by_cases hlj : j < ES.length
 rotate_left
 ·have d1 : decide ((j : Int) < (ES.length : Int)) = false := by simpa using hlj
  have hje : ES.take j = ES := gE7 (by omega)
  rw [hje] at g1 hkl ⊢
  (refine Wf @d1 ?_;(repeat clear hK K);repeat refine kq fun K hK=>?_)
  refine Wm ?_
  (refine Wi ?_;repeat clear hK K)
  (refine We ?_;(repeat clear hK K);repeat refine kq fun K hK=>?_)
  (refine Ad rfl ?_; intro K1 hK1; refine Sk (a := nid) (L := FL cls w (ES.map (XW V))) rfl rfl (by simp only [go_sem]) g1 (by omega) (by simp [EV, AV.nb, A0.nb, C.nb]) ?_; simp only [go_sem]; refine hK1 _ ?_; clear hK1 K1)
  (refine We ?_;(repeat clear hK K);repeat refine kq fun K hK=>?_)
  subst hlid
  refine Wr Tryz.results48 ?_
  refine ⟨⟨ES.map (XW V), ?_, fun q => ?_, rfl⟩, hPG, hokG⟩
  ·rw [List.map_map]
   have : (Prod.fst ∘ XW V) = id := rfl
   simpa [Function.comp_def, XW] using hESa
  rw [List.mem_map]
  constructor
  rotate_left
  ·rintro ⟨p, hp, rfl⟩
   exact ⟨p.1, (hESm _).2 ⟨p, hp, rfl⟩, by unfold XW; rw [NX hnd hp]⟩
  rintro ⟨e, he, rfl⟩
  obtain ⟨p, hp, rfl⟩ := (hESm e).1 he
  exact ⟨p, hp, by unfold XW; rw [NX hnd hp]⟩
 have d1 : decide ((j : Int) < (ES.length : Int)) = true := by simpa using hlj
 obtain ⟨p, hp, hpe⟩ := (hESm _).1 (gE6 hlj)
 have gE := Aj (gE1 hlj)
 have gE2 := Ax (gE1 hlj)
 have hwd := NX hnd hp
 have htk : (ES.take (j + 1)).map (XW V) = (ES.take j).map (XW V) ++ [(p.1, p.2.2)] := by
  rw [gE8 hlj, List.map_append, <- hpe, List.map_cons, List.map_nil]
  unfold XW
  rw [hwd]
 obtain ⟨hp1, hp2⟩ := hV p hp
 obtain ⟨jj, hf⟩ := FN hnd hp rfl 0
 rw [<- hpe] at gE gE2
 have hks := NY cls w ((ES.take j).map (XW V)) (p.1, p.2.2)
 rw [<- htk] at hks
 simp only at hks
 obtain ⟨e, pk, pw⟩ := p
 simp only at hp1 hp2 gE gE2 hf hks
 have hbl2 := CJ pw
 generalize FL cls w ((ES.take j).map (XW V)) = L0 at *
 have g3' : G[eid]? = some (.r ⟨3, 1, true, A7 ES⟩) := g3
 (refine Wf @d1 ?_;(repeat clear hK K);repeat refine kq fun K hK=>?_)
 refine Wl ?_
 (refine Wf (an @g3' (an @gE2 (an @A5 (an (hPG.at hyb) (an (hPG.at hvi) (an @hvl @gv)))))) ?_;(repeat clear hK K);repeat refine kq fun K hK=>?_)
 (refine Ad rfl ?_; intro K1 hK1; refine Cj (id := m) (kv := XK V) (zv := .slice none 0 0) Tryz.underlying106 (EX Tryz.underlying3) rfl rfl rfl (by simp only [go_sem]) (hPG.at gm) (Gw V) (by simp only [go_sem, EW]) (LT e) hf ?_; simp only [go_sem, XF]; refine hK1 _ ?_; clear hK1 K1)
 (refine We ?_;(repeat clear hK K);repeat refine kq fun K hK=>?_)
 (refine Ad rfl ?_; intro K1 hK1; refine KZ (a := pk) (w := pw) rfl rfl (by simp only [go_sem]) (hPG.at hp1) hp2 (by simp [EV, AV.nb, A0.nb, C.nb]) ?_; simp only [go_sem]; refine hK1 _ ?_; clear hK1 K1)
 refine Bx (fun G4 => Pre G G4 /\ G4[G.length]? = some (Aw (AK pw)) /\ G4.all Cf = true) ?_ ?_
 ·exact ⟨Pre.push _ _, Bi _ _, Bf hokG (Do _)⟩
 have hnl := Bj g1
 have hel := Bj g3
 rintro G4 ⟨hP4, gb, hok4⟩
 simp only
 obtain ⟨lb, hlb⟩ : ∃ l, G.length = l := ⟨_, rfl⟩
 rw [hlb] at gb hnl hel ⊢
 (refine We ?_;(repeat clear hK K);repeat refine kq fun K hK=>?_)
 refine Bx (fun G5 => Pre G4 G5 /\ G5[G4.length]? = some (Aw [e, (AK pw).length]) /\ G5.all Cf = true) ?_ ?_
 ·exact ⟨Pre.push _ _, Bi _ _, Bf hok4 rfl⟩
 have hll4 := Bj gb
 rintro G5 ⟨hP5, gc5, hok5⟩
 simp only
 obtain ⟨l2, hl2⟩ : ∃ l, G4.length = l := ⟨_, rfl⟩
 rw [hl2] at gc5 hll4 ⊢
 have g1a : G5[nid]? = some (.r ⟨3, 1, true, A7 L0⟩) := hP5.at (hP4.at g1)
 have gca : G5[l2]? = some (.r ⟨3, 1, true, A7 [e, (AK pw).length]⟩) := gc5
 have hl25 := Bj gca
 (refine Wf (an @g1a (an @gca (an @List.set_cons_zero.{0} (an @List.set_cons_succ.{0} (an @List.take_succ_cons.{0} (an @List.take_zero.{0} (an @List.drop_zero.{0} (an @List.length_take.{0} (an @List.length_drop.{0} (an @List.length_append.{0} (an @Yi (an @Az (an @AZ (an @BC (an @A5 (an @B6 (an @AH (an @Bd (an @AM @AY))))))))))))))))))) ?_;(repeat clear hK K);repeat refine kq fun K hK=>?_)
 refine Bx (fun G6 => Pre H G6 /\ G6[G5.length]? = some (.r ⟨3, 1, true, A7 (L0 ++ [e, ((AK pw).length : Int)])⟩) /\ G6[lb]? = some (.r ⟨3, 1, true, A7 (AK pw)⟩) /\ G6[eid]? = some (Aw ES) /\ G6.all Cf = true) ?_ ?_
 ·have hPH := ((hPG.trans hP4).trans hP5)
  refine ⟨(hPH.set (by omega) _).trans (Pre.push _ _), ?_, ?_, ?_, Bf (C3 hok5 rfl _) ?_⟩
  ·have := Bi (G5.set nid Ob.d) (.r ⟨3, 1, true, A7 (L0 ++ [e, ((AK pw).length : Int)])⟩)
   rw [List.length_set] at this
   simpa only [List.take_length] using this
  ·refine (Pre.push _ _).at ?_
   rw [gE5 (by omega)]; exact hP5.at gb
  ·refine (Pre.push _ _).at ?_
   rw [gE5 hne2]; exact hP5.at (hP4.at g3)
  ·exact Do _
 rintro G6 ⟨hP6, g6a, g6b, g6c, hok6⟩
 simp only
 obtain ⟨l3, hl3⟩ : ∃ l, G5.length = l := ⟨_, rfl⟩
 rw [hl3] at g6a hl25 ⊢
 have hl36 := Bj g6a
 (refine Wf (an @g6a (an @g6b (an @List.set_cons_zero.{0} (an @List.set_cons_succ.{0} (an @List.take_succ_cons.{0} (an @List.take_zero.{0} (an @List.drop_zero.{0} (an @List.length_take.{0} (an @List.length_drop.{0} (an @List.length_append.{0} (an @Yi (an @Az (an @AZ (an @BC (an @A5 (an @B6 (an @AH (an @Bd (an @AM @AY))))))))))))))))))) ?_;(repeat clear hK K);repeat refine kq fun K hK=>?_)
 have hkl3 : L0.length + 2 + (AK pw).length = (FL cls w ((ES.take (j + 1)).map (XW V))).length := by rw [hks]; simp; omega
 refine Bx (fun G7 => Pre H G7 /\ G7[G6.length]? = some (Aw (FL cls w ((ES.take (j + 1)).map (XW V)))) /\ G7[eid]? = some (Aw ES) /\ G7.all Cf = true) ?_ ?_
 ·refine ⟨(hP6.set (by omega) _).trans (Pre.push _ _), ?_, ?_, Bf (C3 hok6 rfl _) (Do _)⟩
  ·have := Bi (G6.set l3 Ob.d) (Aw (FL cls w ((ES.take (j + 1)).map (XW V))))
   rw [List.length_set] at this
   rw [hks] at this ⊢
   have hL2 : List.take (L0.length + 2) (L0 ++ [e, ((AK pw).length : Int)]) = L0 ++ [e, ((AK pw).length : Int)] := gE7 (by simp)
   rw [hL2, List.take_length]
   simp [Aw]
  ·refine (Pre.push _ _).at ?_
   rw [gE5 (by omega)]; exact g6c
 rintro G7 ⟨hP7, g7a, g7b, hok7⟩
 simp only
 have hG6l : lid <= G6.length /\ G6.length ≠ eid := by
  have h1 := hP6.1
  have h2 := Bj g6c
  constructor
  ·omega
  omega
 rw [hkl3]
 generalize G6.length = nid2 at *
 refine Wn ?_
 refine hK _ (j + 1, G7, nid2) ⟨by simp only; omega, hP7, g7a, g7b, hG6l.2, hG6l.1, hok7⟩ (by simp only; omega) ?_
 exact Wo
def Oz (n : Nat) (L : List Int) : List Int := L ++ List.replicate (n - L.length) 0
theorem Q4 {n : Nat} {L : List Int} (h : L.length <= n) : (Oz n L).length = n := by simp [Oz]; omega
theorem Q5 {n : Nat} {L : List Int} (h : L.length < n) (x : Int) : (Oz n L).set L.length x = Oz n (L ++ [x]) := by
 unfold Oz
 obtain ⟨d, hd⟩ : ∃ d, n - L.length = d + 1 := ⟨n - L.length - 1, by omega⟩
 rw [hd, List.set_append_right _ _ (Nat.le_refl _), Nat.sub_self, List.replicate_succ, List.set_cons_zero, List.length_append, List.length_cons, List.length_nil, show n - (L.length + (0 + 1)) = d from by omega]
 simp
theorem NZ (n : Nat) : List.replicate n (C.v (.int .i64 0)) = A7 (Oz n []) := by simp [Oz, A7]
theorem O0 {n : Nat} {L : List Int} (h : L.length = n) : Oz n L = L := by simp [Oz, h]
section
variable {α : Type} [DecidableEq α]
set_option maxHeartbeats 2000000 in
theorem So (ky : List Value) (g : Nat -> α) (h : T6 ky g) (hn : ky.length <= 1000000) : FC Tryz.prog 46 [.a (.c (.s 0 ky.length))] [.r ⟨9, 1, true, XI ky⟩] (fun r o => r = .tup [.c (.s 1 ky.length), .c (.v (.int .i64 (Ww g ky.length).2))] /\ o = [.r ⟨9, 1, true, XI ky⟩, Aw (Ww g ky.length).1]) := by
 refine A9 Tryz.func46 rfl (by rw [Tryz.ntmps46]; simp) ?_
 rw [Tryz.ntmps46]
 simp only [Bz]
 (refine Wf @NZ ?_;(repeat clear hK K);repeat refine kq fun K hK=>?_)
 refine A6 (fun k : Nat => { tm := [(4, .a (.c (.m 1))), (5, .a (.c (.s 2 ky.length))), (14, .a (.c (.s 0 ky.length))), (15, .i ky.length), (16, .i k)], hp := [.r ⟨9, 1, true, XI ky⟩, .m (XH ky g k), .r ⟨3, 1, true, A7 (Oz ky.length (Ww g k).1)⟩], n := 42, pin := 1 }) (fun k => k <= ky.length) (fun k => ky.length - k) 0 ?_ ?_ ?_
 ·omega
 ·exact Wo
 rintro k hk K hK
 by_cases hlt : k < ky.length
 rotate_left
 ·have d1 : decide ((k : Int) < (ky.length : Int)) = false := by simpa using hlt
  have hke : k = ky.length := by omega
  have hkl := NG ky g k
  have hnl := (Ca g k).len
  have hitk : OR (XH ky g k) = false := by obtain ⟨M, hM⟩ := HE ky g k; rw [hM]; exact QJ M
  rw [<- hke]
  rw [<- hke] at d1
  rw [O0 hnl]
  (refine Wf @d1 ?_;(repeat clear hK K);repeat refine kq fun K hK=>?_)
  refine Wm ?_
  (refine Wi ?_;repeat clear hK K)
  (refine We ?_;(repeat clear hK K);repeat refine kq fun K hK=>?_)
  (refine Ad rfl ?_; intro K1 hK1; refine KU (id := 1) (kv := XH ky g k) Tryz.underlying96 rfl rfl rfl rfl rfl (by simp only [go_sem]) rfl hitk ?_; simp only [go_sem, hkl]; refine hK1 _ ?_; clear hK1 K1)
  (refine We ?_;(repeat clear hK K);repeat refine kq fun K hK=>?_)
  ((try refine AF ?_); (try simp only [Ae, AJ]); refine Bm (A8 [0, 2] rfl rfl) ?_; (try simp only [List.set_nil, List.take_nil, List.take_zero, List.map_append, go_sem]); ((try refine AF ?_); (try refine Ab ?_); (try simp only [Ae, AJ]); refine BE (by first | exact .inl rfl | exact .inr rfl) rfl ?_; simp only [VE, EO, Em, EU, Tryz.results46, go_sem, true_and, and_true, Ak, Fi, Aw]))
  rw [hke]; exact ⟨rfl, rfl⟩
 have d1 : decide ((k : Int) < (ky.length : Int)) = true := by simpa using hlt
 have gk := RY hlt
 have hft := RX h hlt
 have hcl := (Ca g k).cnt
 have hpl := TU ky g k
 have hkl := NG ky g k
 have hnl := (Ca g k).len
 have hfd := PL h hlt k hk
 have hfl := Q4 (n := ky.length) (L := (Ww g k).1) (by omega)
 have hfs := Q5 (n := ky.length) (L := (Ww g k).1) (by omega)
 rw [hnl] at hfs
 (refine Wf (an @Gu @d1) ?_;(repeat clear hK K);repeat refine kq fun K hK=>?_)
 refine Wl ?_
 cases hf : (List.range k).find? (fun t => decide (g t = g k)) with
 | some t0 =>
  have h2 := List.find?_range_eq_some.1 hf
  have h3 : t0 < k := by simpa using h2.2.1
  have h4 : g t0 = g k := by simpa using h2.1
  have hkv : XH ky g (k + 1) = XH ky g k := EL hf
  have hng := Dm hf
  obtain ⟨t, a1, a2, j, a3⟩ : ∃ t, t < k /\ g t = g k /\ ∃ j, BO .ks (ky.getD k (.int .i64 0)) (XH ky g k) 0 = some (some (j, .v (.int .i64 ((Ww g k).1.getD t 0)))) := by
   rcases hfd with h | ⟨a1, _⟩
   ·exact h
   exact absurd h4 (a1 t0 h3)
  have he : (Ww g k).1.getD t 0 = (Ww g k).1.getD t0 0 := ((Ca g k).eq t t0 a1 h3).2 (a2.trans h4.symm)
  rw [he] at a3
  have cs := hfs ((Ww g k).1.getD t0 0)
  obtain ⟨M, hM⟩ := HE ky g k
  generalize XH ky g k = kv at *
  subst hM
  generalize Ww g k = p at *
  generalize ky.getD k (.int .i64 0) = kk at *
  (refine Wf (an @Gu @gk) ?_;(repeat clear hK K);repeat refine kq fun K hK=>?_)
  (refine Ad rfl ?_; intro K1 hK1; refine Cj (id := 1) (kv := M.map fun p => (p.1, C.v p.2)) (zv := .int .i64 0) Tryz.underlying96 (Jf Tryz.underlying9) rfl rfl rfl (by simp only [go_sem]) rfl hpl (by simp only [go_sem, EW]) hft a3 ?_; simp only [go_sem, XF]; refine hK1 _ ?_; clear hK1 K1)
  (refine Wf @Bool.not_true ?_;(repeat clear hK K);repeat refine kq fun K hK=>?_)
  refine Wm ?_
  (refine Cr (an @A5 (an @hfl (an @B3 @cs))) ?_;(repeat clear hK K);repeat refine kq fun K hK=>?_)
  refine Wn ?_
  refine hK _ (k + 1) (by omega) (by omega) ?_
  rw [hkv, hng]
  exact Wo
 | none =>
  have hno := List.find?_range_eq_none.1 hf
  have hkv := EM (ky := ky) hf
  have hng := Dn hf
  have a2 : BO .ks (ky.getD k (.int .i64 0)) (XH ky g k) 0 = some none := by
   rcases hfd with ⟨t, a1, a2, _⟩ | ⟨_, a2⟩
   ·exact absurd a2 (by simpa using hno t a1)
   exact a2
  have cs := hfs (Ww g k).2
  obtain ⟨M, hM⟩ := HE ky g k
  generalize XH ky g k = kv at *
  subst hM
  generalize Ww g k = p at *
  generalize ky.getD k (.int .i64 0) = kk at *
  (refine Wf (an @Gu @gk) ?_;(repeat clear hK K);repeat refine kq fun K hK=>?_)
  (refine Ad rfl ?_; intro K1 hK1; refine Cj (id := 1) (kv := M.map fun p => (p.1, C.v p.2)) (zv := .int .i64 0) Tryz.underlying96 (Jf Tryz.underlying9) rfl rfl rfl (by simp only [go_sem]) rfl hpl (by simp only [go_sem, EW]) hft a2 ?_; simp only [go_sem, XF]; refine hK1 _ ?_; clear hK1 K1)
  (refine Wf @Bool.not_false ?_;(repeat clear hK K);repeat refine kq fun K hK=>?_)
  refine Wl ?_
  (refine We ?_;(repeat clear hK K);repeat refine kq fun K hK=>?_)
  (refine Ad rfl ?_; intro K1 hK1; refine KU (id := 1) (kv := M.map fun p => (p.1, C.v p.2)) Tryz.underlying96 rfl rfl rfl rfl rfl (by simp only [go_sem]) rfl (QJ _) ?_; simp only [go_sem, hkl]; refine hK1 _ ?_; clear hK1 K1)
  (refine We ?_;(repeat clear hK K);repeat refine kq fun K hK=>?_)
  (refine Ad rfl ?_; intro K1 hK1; refine H6 (id := 1) (kv := M.map fun p => (p.1, C.v p.2)) (c := .v (.int .i64 p.2)) Tryz.underlying96 (Jf Tryz.underlying9) rfl rfl (by simp only [go_sem]) rfl hpl (by simp only [go_sem, EW]) hft (by simp only [go_sem]) rfl a2 ?_; simp only [go_sem]; refine hK1 _ ?_; clear hK1 K1)
  (refine Cr (an @A5 (an @hfl (an @B3 @cs))) ?_;(repeat clear hK K);repeat refine kq fun K hK=>?_)
  refine Wn ?_
  refine hK _ (k + 1) (by omega) (by omega) ?_
  rw [hkv, hng]
  exact Wo
end
end Go.Proofs.YthnkailnoobdoaaGreatDoor
