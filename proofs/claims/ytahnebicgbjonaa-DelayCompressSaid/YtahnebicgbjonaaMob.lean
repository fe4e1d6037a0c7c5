/- A call whose arguments are slices that a row's cells own. side.add. The compares of flow and delay. slices.SortFunc and slices.Compact at delay arrows. A slice that a row's cell owns becomes an object of its own again. -/
import Derived.Test.YtahnebicgbjonaaMD
import Derived.Test.YtahnebicgbjonaaG67
import Derived.Test.YtahnebicgbjonaaZk
import Derived.Test.YtahnebicgbjonaaOd1
import Derived.Test.YtahnebicgbjonaaG11
import Derived.Test.YtahnebicgbjonaaMG
import Derived.Test.YtahnebicgbjonaaShlfD
namespace Go.Proofs.Ytahnebicgbjonaa
set_option linter.unusedVariables false
set_option linter.unusedSimpArgs false
open Go.RowKit

def Gh.inB (g : Gh) (r0 : Row) : Gh := ⟨g.γ, g.κ, Ow [.r { r0 with cells := r0.cells.map otC }] g⟩
theorem inB_ncl {g : Gh} {r0 : Row} (i j : Nat) : ¬ Lv [.r { r0 with cells := r0.cells.map otC }] g (.cl i j) := by
 rintro ⟨r2, k, cs, e1, e2, _⟩
 cases i with
 | succ i => simp at e1
 | zero =>
  simp at e1
  subst e1
  simp only [List.getElem?_map, Option.map_eq_some_iff] at e2
  obtain ⟨c, _, hc⟩ := e2
  exact otC_no hc
theorem inB_sub {g : Gh} {r0 : Row} (ℓ : Loc) (hl : Lv [.r { r0 with cells := r0.cells.map otC }] g ℓ) : Lv [.r r0] g ℓ := by
 cases ℓ with
 | cl i j => exact absurd hl (inB_ncl i j)
 | ob q =>
  cases q with
  | succ q => rcases hl with ⟨r2, e1, _⟩ | ⟨kv, e1⟩ <;> simp at e1
  | zero =>
   rcases hl with ⟨r2, e1, e2⟩ | ⟨kv, e1⟩
   ·exact .inl ⟨r0, rfl, e2⟩
   ·simp at e1
theorem inB_rd {g : Gh} {r0 : Row} {w : World} (hr : HR g [.r r0] w) {j n : Nat} {k : Nat × Nat} {cs : List Tr} {y : Value} (hj : r0.cells[j]? = some (.o k cs)) (hy : CR g [.r r0] w (.b 0 j n) y) : CR (g.inB r0) [] w (.t k.1 cs) y := by
 obtain ⟨_, h2⟩ := hy
 obtain ⟨h3, h4, _, _⟩ := h2 r0 k cs rfl hj
 rcases hr.row 0 r0 rfl with ⟨k1, k2⟩ | ⟨k1, k2, arr, k3, k4, k5, k6, k7⟩
 ·rw [k2] at hj; simp at hj
 obtain ⟨u, u1, u2⟩ := k7 j _ hj
 have huy : u = y := by
  rw [cell_of_row w _ j arr _ (0, 0) k3, u1] at h4
  exact Option.some.inj h4
 subst huy
 have h := rd_of_cell (st := { tm := [], hp := [.r r0], n := 0, pin := 0 }) (t := .l k.1 cs) (hp' := [.r { r0 with cells := r0.cells.map otC }]) (fun b _ ho => ho.imp (fun h => h) (fun ⟨ℓ, hl, e⟩ => ⟨ℓ, inB_sub ℓ hl, e⟩)) hr rfl (inB_ncl 0) inB_sub hj (.inl rfl) u2
 refine h.mono fun b hb ho => ?_
 rcases ho with ho | ⟨ℓ, hl, _⟩
 ·exact ho
 ·cases ℓ with
  | ob id => rcases hl with ⟨r, h, _⟩ | ⟨kv, h⟩ <;> simp at h
  | cl id j => obtain ⟨r, k, cs, h, _⟩ := hl; simp at h
theorem FC.inB {P : Program} {f : FuncId} {A A' : List AV} {r0 : Row} {e : TypeId} {Q : List Int → Prop} (hFC : FC P f A [] (fun r o => ∃ L, Q L ∧ r = .a (.c (.s 0 L.length)) ∧ o = [.r ⟨e, 1, true, cInts L⟩]))
  (hA : ∀ (g : Gh) (w : World) (vals : List Value), HR g [.r r0] w → argsR g [.r r0] w A' vals → argsR (g.inB r0) [] w A vals) :
  FC P f A' [.r r0] (fun r o => ∃ L, Q L ∧ r = .a (.c (.s 1 L.length)) ∧ o = [.r r0, .r ⟨e, 1, true, cInts L⟩]) := by
 intro g w vals hr hargs
 have noL : ∀ (g : Gh) (ℓ : Loc), ¬ Lv [] g ℓ := by
  intro g ℓ hl
  cases ℓ with
  | ob id => rcases hl with ⟨r, h, _⟩ | ⟨kv, h⟩ <;> simp at h
  | cl id j => obtain ⟨r, k, cs, h, _⟩ := hl; simp at h
 have how : ∀ b, Ow [] (g.inB r0) b → Ow [.r r0] g b := fun b ho => by
  rcases ho with (ho | ⟨ℓ, hl, e⟩) | ⟨ℓ, hl, _⟩
  ·exact .inl ho
  ·exact .inr ⟨ℓ, inB_sub ℓ hl, e⟩
  ·exact absurd hl (noL _ ℓ)
 have hHR : HR (g.inB r0) [] w := by
  refine ⟨fun b hb => ?_, fun ℓ hl => absurd hl (noL _ ℓ), fun ℓ _ hl => absurd hl (noL _ ℓ), fun id r h => by simp at h, fun id r h => by simp at h, hr.gl.keep (Nat.le_refl _) (fun _ _ _ => rfl) (fun k _ h => how k h)⟩
  rcases hb with hb | ⟨ℓ, hl, e⟩
  ·exact hr.ml b hb
  ·rw [← e]; exact hr.lt (inB_sub ℓ hl)
 refine (hFC (g.inB r0) w vals hHR (hA g w vals hr hargs)).mono ?_
 rintro en w' ⟨v, r, outs, g', rfl, ⟨L, hQ, rfl, rfl⟩, h1, h2, h3, h4, h5⟩
 have hnew : ∀ ℓ, Lv [.r ⟨e, 1, true, cInts L⟩] g' ℓ → w.heap.size ≤ g'.γ ℓ := fun ℓ hl => (h3 ℓ hl).elim (fun ⟨ℓ2, hl2, _⟩ => absurd hl2 (noL _ ℓ2)) (fun h => h)
 have hfx : ∀ b, b < w.heap.size → w'.heap[b]? = w.heap[b]? := fun b hb => h5.block b hb (fun ⟨ℓ, hl, _⟩ => noL _ ℓ hl)
 let g2 : Gh := ⟨fun ℓ => match ℓ with
  | .ob 0 => g.γ (.ob 0)
  | .ob (i + 1) => g'.γ (.ob i)
  | .cl 0 j => g.γ (.cl 0 j)
  | .cl (i + 1) j => g'.γ (.cl i j), fun i => match i with
  | 0 => g.κ 0
  | i + 1 => g'.κ i, g.M⟩
 have split : ∀ ℓ, Lv [.r r0, .r ⟨e, 1, true, cInts L⟩] g2 ℓ → (Lv [.r r0] g ℓ ∧ g2.γ ℓ = g.γ ℓ) ∨ ∃ ℓ', Lv [.r ⟨e, 1, true, cInts L⟩] g' ℓ' ∧ g2.γ ℓ = g'.γ ℓ' ∧ ℓ = (match ℓ' with | .ob i => .ob (i + 1) | .cl i j => .cl (i + 1) j) := by
  intro ℓ hl
  cases ℓ with
  | ob q =>
   cases q with
   | zero =>
    rcases hl with ⟨r2, e1, e2⟩ | ⟨kv, e1⟩
    ·exact .inl ⟨.inl ⟨r2, e1, e2⟩, rfl⟩
    ·simp at e1
   | succ q =>
    rcases hl with ⟨r2, e1, e2⟩ | ⟨kv, e1⟩
    ·exact .inr ⟨.ob q, .inl ⟨r2, e1, e2⟩, rfl, rfl⟩
    ·exact .inr ⟨.ob q, .inr ⟨kv, e1⟩, rfl, rfl⟩
  | cl q j =>
   obtain ⟨r2, k, cs, e1, e2, e3⟩ := hl
   cases q with
   | zero => exact .inl ⟨⟨r2, k, cs, e1, e2, e3⟩, rfl⟩
   | succ q => exact .inr ⟨.cl q j, ⟨r2, k, cs, e1, e2, e3⟩, rfl, rfl⟩
 have how2 : ∀ b, b < w.heap.size → Ow [.r r0, .r ⟨e, 1, true, cInts L⟩] g2 b → Ow [.r r0] g b := by
  rintro b hb (ho | ⟨ℓ, hl, e⟩)
  ·exact .inl ho
  ·rcases split ℓ hl with ⟨h6, h7⟩ | ⟨ℓ', h6, h7, _⟩
   ·exact .inr ⟨ℓ, h6, by rw [← e, h7]⟩
   ·have := hnew ℓ' h6
    rw [← e, h7] at hb; omega
 have hmo : Mo g [.r r0] w g2 [.r r0, .r ⟨e, 1, true, cInts L⟩] w' (fun _ => True) := by
  refine ⟨fun q hq => ?_, how2, h5.size, fun b hb _ => hfx b hb, fun q _ hq r2 j k cs e1 e2 => ?_⟩
  ·obtain ⟨o, q1, q2⟩ := hq
   cases q with
   | zero => exact ⟨⟨o, q1, q2⟩, rfl, rfl⟩
   | succ q => simp at q1
  ·obtain ⟨o, q1, q2⟩ := hq
   cases q with
   | zero =>
    simp at e1
    subst e1
    exact ⟨_, rfl, e2, fun hlt => World.cell?_of_block (hfx _ hlt)⟩
   | succ q => simp at q1
 refine ⟨v, .a (.c (.s 1 L.length)), [.r r0, .r ⟨e, 1, true, cInts L⟩], g2, rfl, ⟨L, hQ, rfl, rfl⟩, ?_, ⟨by simp, rfl, fun i hi => ?_⟩, fun ℓ hl => ?_, ?_, ?_⟩
 ·refine ⟨fun b hb => Nat.lt_of_lt_of_le (hr.ml b hb) h5.size, fun ℓ hl hM => ?_, fun ℓ ℓ' a1 a2 a3 => ?_, fun q r2 e1 => ?_, fun q kv e1 => ?_, hmo.gl hr.gl⟩
  ·rcases split ℓ hl with ⟨h6, h7⟩ | ⟨ℓ', h6, h7, _⟩
   ·rw [h7] at hM; exact hr.md ℓ h6 hM
   ·have b1 := hr.ml _ hM
    have b2 := hnew ℓ' h6
    omega
  ·rcases split ℓ a1 with ⟨c1, c2⟩ | ⟨m, c1, c2, c3⟩ <;> rcases split ℓ' a2 with ⟨d1, d2⟩ | ⟨m', d1, d2, d3⟩
   ·exact hr.inj ℓ ℓ' c1 d1 (by rw [← c2, ← d2]; exact a3)
   ·have b1 := hr.lt c1
    have b2 := hnew m' d1
    omega
   ·have b1 := hr.lt d1
    have b2 := hnew m c1
    omega
   ·have := h1.inj m m' c1 d1 (by rw [← c2, ← d2]; exact a3)
    rw [c3, d3, this]
  ·cases q with
   | zero =>
    simp at e1
    subst e1
    exact RowR.mo hmo rfl (hr.row 0 r0 rfl) (fun hk => hfx _ (hr.lt (.inl ⟨r0, rfl, hk⟩))) (fun j k cs hc hne => ⟨rfl, hfx _ (hr.lt (ℓ := .cl 0 j) ⟨r0, k, cs, rfl, hc, hne⟩)⟩)
   | succ q =>
    cases q with
    | succ q => simp at e1
    | zero =>
     simp at e1
     subst e1
     rcases h1.row 0 _ rfl with h6 | ⟨k1, k2, arr, k3, k4, k5, k6, k7⟩
     ·exact .inl h6
     ·refine .inr ⟨k1, k2, arr, k3, k4, k5, k6, fun j c hj => ?_⟩
      obtain ⟨u, u1, u2⟩ := k7 j c hj
      simp only [cInts, List.getElem?_map, Option.map_eq_some_iff] at hj
      obtain ⟨x, _, rfl⟩ := hj
      exact ⟨u, u1, u2⟩
  ·cases q with
   | zero => simp at e1
   | succ q =>
    cases q with
    | succ q => simp at e1
    | zero => simp at e1
 ·have : i = 0 := by simp at hi; exact hi
  subst this
  exact ⟨rfl, rfl⟩
 ·rcases split ℓ hl with ⟨h6, h7⟩ | ⟨ℓ', h6, h7, _⟩
  ·exact .inl ⟨ℓ, h6, h7.symm⟩
  ·exact .inr (by rw [h7]; exact hnew ℓ' h6)
 ·obtain ⟨b1, b2, A0, b3, b4, b5⟩ := h4
  exact ⟨⟨_, rfl, rfl⟩, b2, A0, b3, b4, b5⟩
 ·exact h5.mono fun k _ ⟨ℓ, hl, _⟩ => absurd hl (noL _ ℓ)
theorem loadG_sound {P : Program} {g : Gh} {hp : List Ob} {w : World} {t : TypeId} {ty : Ty} {id off : Nat} {r : Row} {k : Nat × Nat} {cs : List Tr} {p : Value} (hr : HR g hp w) (hty : tyOf P t = some ty) (hag : ty.agg = true) (hsz : ty.size = 1) (hp1 : CR g hp w (.p id off) p) (hrow : hp[id]? = some (.r r)) (hcell : r.cells[off]? = some (.o k cs)) (hk : 0 < k.1) :
  ∃ v, (∀ W, Fp (fun _ => False) w W → (Instr.loadAt t p).run P W = .ok v W) ∧ AVR (CR g hp w) (.a (.g [.b id off (cs.length / k.1)])) v := by
 obtain ⟨b1, b2⟩ := hp1
 rw [b2]
 rcases hr.row id r hrow with ⟨_, h2⟩ | ⟨_, _, arr, ha, hl, hs, hm, hcells⟩
 ·rw [h2] at hcell; simp at hcell
 obtain ⟨u, f1, f2⟩ := hcells _ _ hcell
 have hcu : w.cell? ⟨g.γ (.ob id), off, none⟩ = some u := by rw [cell_of_row _ _ _ _ _ _ ha]; exact f1
 refine ⟨.agg #[u], fun W hW => run_loadVar hty hag _ off [u] (by rw [hsz]; rfl) (fun j v hj => ?_), [u], rfl, rfl, fun i c hi => ?_⟩
 ·cases j with
  | zero =>
   simp at hj
   subst hj
   exact (hW.cell (p := ⟨_, _, none⟩) (Array.getElem?_eq_some_iff.1 ha).1 (fun h => h)).trans hcu
  | succ j => simp at hj
 ·cases i with
  | succ i => simp at hi
  | zero =>
   simp at hi
   subst hi
   refine ⟨u, rfl, b1, fun r' k' cs' e1 e2 => ?_⟩
   rw [hrow] at e1; cases e1
   rw [hcell] at e2; cases e2
   refine ⟨(Array.getElem?_eq_some_iff.1 ha).1, hcu, ?_⟩
   rcases f2 with ⟨h1, A, h2, _⟩ | ⟨_, n, cp, arr', h2, h3, _⟩
   ·rw [h1]; simp; exact ⟨_, _, h2⟩
   ·rw [h3, Nat.mul_div_cancel _ hk]; exact ⟨rfl, _, _, h2⟩
theorem u_lS {P : Program} {ops : Array Oper} {o : Oper} {st : ST} {K : ST → Prop} {stop i : Nat} {past : Bool} {rest : List (Nat × Nat)} {t : TypeId} {y : Operand} {ty : Ty} {id off : Nat} {r : Row} {k : Nat × Nat} {cs : List Tr} (hi : ops[i]? = some o) (hg : o.guard = none) (hd : dok o st.n = true) (ho : o.op = .load t y) (hty : tyOf P t = some ty) (hag : ty.agg = true) (hsz : ty.size = 1) (hy : st.ev y = .a (.c (.p id off))) (hrow : st.hp[id]? = some (.r r)) (hcell : r.cells[off]? = some (.o k cs)) (hk : 0 < k.1)
  (h : LstU P ops stop false past rest (st.put o.dst (.a (.g [.b id off (cs.length / k.1)]))) K) : LstU P ops stop false past ((i, 1) :: rest) st K := by
 intro M0 w0 a w w1 Q he hp hR hN
 obtain ⟨g, hpp, hR⟩ := hR
 have hyv := hR.ev y
 rw [hy] at hyv
 obtain ⟨v, h1, h2⟩ := loadG_sound hR.hr hty hag hsz hyv hrow hcell hk
 have hw := he rfl
 subst hw
 refine ⟨o, v, hi, .inl ⟨by simp [Region.wanted, hg], fun W hW => ?_⟩, h M0 w0 _ w w Q he hp ⟨g, by cases o.dst <;> exact hpp, hR.put (dok_lt hd) h2⟩ hN⟩
 obtain ⟨dst, op, ty, pos, af, gd⟩ := o
 simp only at ho
 subst ho
 simp [execOp, h1 W hW]
set_option maxRecDepth 100000
attribute [local go_sem] List.set_cons_zero List.set_cons_succ List.map_cons List.map_nil List.take_succ_cons List.take_zero List.drop_zero List.drop_succ_cons C.pl C.one List.all_cons List.all_nil Bool.and_true Nat.mul_one Int.toNat_natCast
def sdR (A : List (List Ar)) (cm oq : List Int) (dv : List Bool) : Row := ⟨48, 4, false, [.o (1, 38) (tRows A), .o (1, 3) (tInts cm), .o (1, 3) (tInts oq), .o (1, 4) (tBs dv)]⟩
theorem ordB_fc (R : List (List Ar)) (D oq : List Int) (dv : List Bool) (f rk : Nat → Nat) (hlo : ∀ r ∈ R, ∀ a ∈ r, 0 ≤ a.2 ∧ a.2 < (R.length : Int)) (htot : totA R ≤ 1000000) (hDl : D.length = R.length) (hD : ∀ v, v < R.length → D[v]? = some (f v : Int) ∧ f v < R.length) (hE : ∀ e ∈ edL f R R.length, (e.1 < R.length ∧ f e.1 = e.1) ∧ e.2 < R.length ∧ f e.2 = e.2 ∧ rk e.2 < rk e.1) (hn : R.length ≤ 1000000) (hr : ∀ r ∈ R, r.length ≤ 1000000) {n m : Nat} : FC Try.prog 27 [.a (.g [.b 0 0 n]), .a (.c (.b 0 1 m))] [.r (sdR R D oq dv)] (fun r o => ∃ Q, OrdOk (edL f R R.length) R.length f Q ∧ r = .a (.c (.s 1 Q.length)) ∧ o = [.r (sdR R D oq dv), rInts (Q.map Int.ofNat)]) := by
 have h := ord_fc R D f rk hlo htot hDl hD hE hn hr
 have h2 : FC Try.prog 27 [aLts R, aInts D] [] (fun r o => ∃ L, (∃ Q, OrdOk (edL f R R.length) R.length f Q ∧ L = Q.map Int.ofNat) ∧ r = .a (.c (.s 0 L.length)) ∧ o = [.r ⟨3, 1, true, cInts L⟩]) := h.mono fun r o ⟨Q, h1, h2, h3⟩ => ⟨Q.map Int.ofNat, ⟨Q, h1, rfl⟩, by rw [h2, List.length_map], h3⟩
 refine (FC.inB (A' := [.a (.g [.b 0 0 n]), .a (.c (.b 0 1 m))]) (r0 := sdR R D oq dv) h2 fun g w vals hr ⟨hl, ha⟩ => ⟨hl, fun i x hx => ?_⟩).mono fun r o ⟨L, ⟨Q, h1, e⟩, h2, h3⟩ => ⟨Q, h1, by rw [h2, e, List.length_map], by rw [h3, e]; rfl⟩
 match i, hx with
 | 0, hx =>
  cases hx
  obtain ⟨v, h1, us, h3, h4, h5⟩ := ha 0 _ rfl
  refine ⟨v, h1, us, h3, h4, fun i x hx => ?_⟩
  match i, hx with
  | 0, hx =>
   cases hx
   obtain ⟨u, h6, h7⟩ := h5 0 _ rfl
   exact ⟨u, h6, inB_rd hr rfl h7⟩
  | i + 1, hx => simp at hx
 | 1, hx =>
  cases hx
  obtain ⟨v, h1, h2⟩ := ha 1 _ rfl
  exact ⟨v, h1, (show AVR _ (.a (.c (.t 1 (tInts D)))) v from inB_rd hr (show (sdR R D oq dv).cells[1]? = some (.o (1, 3) (tInts D)) from rfl) h2)⟩
 | i + 2, hx => simp at hx
theorem StpC.f {P : Program} {o : Oper} {st : ST} {K : ST → Prop} (h : StpC P o st K True) : StpF P o st K := fun M0 w0 a w N Q hR hN => h M0 w0 a w N Q hR fun st' a' w' h1 h2 h3 => hN st' a' w' h1 h2 (h3 trivial)
theorem c1_arcD (out : List Ar) (e t : Int) : (cArcs out).take (out.length * 2) ++ [C.v (.int .i64 e), C.v (.int .i64 t)] = cArcs (out ++ [(e, t)]) := by
 rw [List.take_of_length_le (by rw [cArcs_len]; exact Nat.le_refl _), cArcs_snoc]
theorem shA_take {n : Nat} {r : List Ar} {k : Nat} (h : k < r.length) : (shA n r).take (k + 1) = (shA n r).take k ++ [(r[k].1, r[k].2 + (n : Int))] := by
 rw [List.take_succ_eq_append_getElem (by rw [shA_len]; exact h)]
 simp [shA]
theorem shR_take {n : Nat} {R : List (List Ar)} {k : Nat} (h : k < R.length) : (shR n R).take (k + 1) = (shR n R).take k ++ [shA n R[k]] := by
 rw [List.take_succ_eq_append_getElem (by rw [shR_len]; exact h)]
 simp [shR]
set_option maxHeartbeats 4000000 in
theorem add_fc (A R : List (List Ar)) (cm oq : List Int) (dv : List Bool) (hA : A = [] ∨ valB A = true) (hv : valB R = true) (hs1 : A.length + R.length ≤ maxS) (hs2 : totA A + totA R ≤ maxA) (hr : ∀ r ∈ R, r.length ≤ 1000000) (hrA : ∀ r ∈ A, r.length ≤ 1000000) (hC : CpOk A cm) (hB : DvL A dv) : FC Try.prog 15 [.a (.c (.p 0 0)), aLts R] [.r (sdR A cm oq dv)] (fun r o => r = .tup [] ∧ ∃ D Q B, CpOk (bthR A R) D ∧ DvL (bthR A R) B ∧ OrdOk (edL (cpF D) (bthR A R) (bthR A R).length) (bthR A R).length (cpF D) Q ∧ o = [.r (sdR (bthR A R) D (Q.map Int.ofNat) B)]) := by
 refine fc_intro Try.func15 rfl (by rw [Try.ntmps15]; simp) ?_
 rw [Try.ntmps15]
 simp only [enum, aLts, sdR]
 have hlo : looB R = true := decide_eq_true (of_decide_eq_true hv).1
 have hmS : maxS = 16384 := rfl
 have hmA : maxA = 262144 := rfl
 (refine wk1 @tRows_len ?_;(repeat clear hK K);repeat refine kq fun K hK=>?_)
 refine aw_loop (fun s : Nat => { tm := [(0, .a (.c (.p 0 0))), (3, .a (.c (.p 1 0))), (4, .i A.length), (19, .a (.c (.t 1 (tRows R)))), (20, .i R.length), (21, .i s)], hp := [.r (sdR (A ++ (shR A.length R).take s) cm oq dv), .r ⟨27, 1, false, [.t 1 (tRows R)]⟩], n := 97, pin := 1 }) (fun s => s ≤ R.length) (fun s => R.length - s) 0 ?_ ?_ ?_
 ·omega
 ·simp only [List.take_zero, List.append_nil, sdR]
  exact lmz
 ·rintro s hs K hK
  simp only [sdR]
  by_cases hlt : s < R.length
  ·have d1 : decide ((s : Int) < (R.length : Int)) = true := by simpa using hlt
   have hgR := List.getElem?_eq_getElem hlt
   have hrl := hr _ (List.getElem_mem hlt)
   have htk := shR_take (n := A.length) hlt
   have hbr := fun a ha => (of_decide_eq_true hlo).2.2.2 _ (List.getElem_mem hlt) a ha
   have hol : (A ++ (shR A.length R).take s).length ≤ maxS := by rw [List.length_append, List.length_take, shR_len]; omega
   have hnx : A ++ (shR A.length R).take (s + 1) = (A ++ (shR A.length R).take s) ++ [shA A.length R[s]] := by rw [htk, List.append_assoc]
   generalize R[s] = row at *
   generalize hO : A ++ (shR A.length R).take s = O at *
   (refine wk1 (an @tRows_len @d1) ?_;(repeat clear hK K);repeat refine kq fun K hK=>?_)
   refine cxz ?_
   (refine wk1 (an @tRows_len (an (tRows_get hgR) (an @tArcs_len @half2))) ?_;(repeat clear hK K);repeat refine kq fun K hK=>?_)
   refine aw_le (le_nil 7 42 2 ?_) ?_
   ·simp only [go_sem]
   refine aw_loop (fun k : Nat => { tm := [(0, .a (.c (.p 0 0))), (3, .a (.c (.p 1 0))), (4, .i A.length), (7, .a (.c (.s 2 k))), (19, .a (.c (.t 1 (tRows R)))), (20, .i R.length), (21, .i s), (25, .a (.c (.t 2 (tArcs row)))), (26, .i row.length), (27, .i k)], hp := [.r (sdR O cm oq dv), .r ⟨27, 1, false, [.t 1 (tRows R)]⟩, .r ⟨42, 2, true, cArcs ((shA A.length row).take k)⟩], n := 97, pin := 1 }) (fun k => k ≤ row.length) (fun k => row.length - k) 0 ?_ ?_ ?_
   ·omega
   ·simp only [List.take_zero, sdR]
    exact lmz
   ·rintro k hk K hK
    simp only [sdR]
    by_cases hlt2 : k < row.length
    ·have d2 : decide ((k : Int) < (row.length : Int)) = true := by simpa using hlt2
     have hat := tArcs_at hlt2
     have hsl := shA_len A.length row
     have hsk := shA_take (n := A.length) hlt2
     have hb := (of_decide_eq_true hlo).2.2.2
     have hkl : ((shA A.length row).take k).length = k := by rw [List.length_take, hsl]; omega
     have ca := c1_arcD ((shA A.length row).take k) row[k].1 (row[k].2 + (A.length : Int))
     rw [hkl, ← hsk] at ca
     have hbk := hbr _ (List.getElem_mem hlt2)
     generalize row[k] = a at *
     obtain ⟨e, t⟩ := a
     simp only at hat hbk ca
     (refine wk1 @d2 ?_;(repeat clear hK K);repeat refine kq fun K hK=>?_)
     refine cxz ?_
     (refine wks1 (an @hat (an @tArcs_len (an @half2 (an @cArcs_len (an @hkl @ca))))) ?_;(repeat clear hK K);repeat refine kq fun K hK=>?_)
     refine rnz ?_
     refine hK _ (k + 1) (by omega) (by omega) ?_
     refine Le.trans (le_pick [0, 1, 5] rfl rfl) ?_
     (try simp only [List.set_nil, List.take_nil, List.take_zero, List.map_append, go_sem])
     (try simp only [cArcs_ren2])
     simp only [sdR]
     exact lmz
    ·have d2 : decide ((k : Int) < (row.length : Int)) = false := by simpa using hlt2
     have hke : (shA A.length row).take k = shA A.length row := List.take_of_length_le (by rw [shA_len]; omega)
     have hkl : (shA A.length row).length = k := by rw [shA_len]; omega
     rw [hke]
     (refine wk1 @d2 ?_;(repeat clear hK K);repeat refine kq fun K hK=>?_)
     refine cyz ?_
     (refine ekz ?_;repeat clear hK K)
     have hft : (if k * 2 ≤ (tArcs (shA A.length row)).length then C.t 2 ((tArcs (shA A.length row)).take (k * 2)) else C.u) = C.t 2 (tArcs (shA A.length row)) := by
      rw [if_pos (by rw [tArcs_len, hkl]; exact Nat.le_refl _), List.take_of_length_le (by rw [tArcs_len, hkl]; exact Nat.le_refl _)]
     (refine aw_le (le_frz (r := ⟨42, 2, true, cArcs (shA A.length row)⟩) 2 (tArcs (shA A.length row)) rfl (fz_ca _) (show 0 < (2 : Nat) by omega)) ?_; simp only [ST.frz, A0.frz, AV.frz, C.frz, Nat.le_refl, List.set_cons_zero, List.set_cons_succ, go_sem, hft])
     generalize shA A.length row = q at *
     (refine wk1 (an @tRows_len (an @List.set_cons_zero.{0} (an @List.set_cons_succ.{0} (an @List.take_succ_cons.{0} (an @List.take_zero.{0} (an @List.drop_zero.{0} (an @List.length_take.{0} (an @List.length_drop.{0} (an @List.length_append.{0} (an @tInts_len (an @tInts_take (an @tInts_drop (an @tInts_c (an @cInts_len (an @cInts_one (an @cInts_snoc (an @cInts_app (an @cInts_take @cInts_drop)))))))))))))))))) ?_;(repeat clear hK K);repeat refine kq fun K hK=>?_)
     have hcr : (tRows O).map C.ofTr ++ [C.t 2 (tArcs q)] = cRows (O ++ [q]) := by simp [cRows, tRows, C.ofTr, Function.comp_def]
     refine rnz ?_
     refine hK _ (s + 1) (by omega) (by omega) ?_
     rw [hnx]
     simp only [hcr]
     refine Le.trans (le_sink (r := ⟨38, 1, true, cRows (O ++ [q])⟩) (ri := ⟨48, 4, false, [.s 4 (O.length + 1), .o (1, 3) (tInts cm), .o (1, 3) (tInts oq), .o (1, 4) (tBs dv)]⟩) (ts := tRows (O ++ [q])) 0 0 4 (O.length + 1) (by decide) rfl rfl rfl rfl (show 0 < 1 by omega) (by rw [cRows_len]; simp) (fz_cr _)) ?_
     simp only [go_sem]
     refine Le.trans (le_pick [0, 1] rfl rfl) ?_
     (try simp only [List.set_nil, List.take_nil, List.take_zero, List.map_append, go_sem])
     simp only [sdR]
     exact lmz
  ·have d1 : decide ((s : Int) < (R.length : Int)) = false := by simpa using hlt
   have hse : A ++ (shR A.length R).take s = bthR A R := by rw [List.take_of_length_le (by rw [shR_len]; omega)]; rfl
   have hvW := valB_both hA hv hs1 hs2
   have h1 : 1 ≤ R.length := (of_decide_eq_true hlo).1
   rw [hse]
   (refine wk1 @d1 ?_;(repeat clear hK K);repeat refine kq fun K hK=>?_)
   refine cyz ?_
   (refine ekz ?_;repeat clear hK K)
   (refine wk0 ?_;(repeat clear hK K);repeat refine kq fun K hK=>?_)
   (refine ckz (compT_fc R true hv h1 (by omega) hr) ?_; intro K1 hK1)
   rintro _ _ ⟨D, hD, rfl, rfl⟩
   have hAl : ∀ x, x < A.length → ∀ y ∈ Adj true A x, y < A.length := by
    rcases hA with rfl | hA
    ·intro x hx; simp at hx
    ·exact adj_lt true (decide_eq_true (of_decide_eq_true hA).1)
   have hDb := hC.both hAl hlo hD
   have hcl : cm.length = A.length := hC.1
   have hDl := hD.1
   (refine bkz ?_; clear hK1 K1)
   (refine wk1 (an @tInts_len @hDl) ?_;(repeat clear hK K);repeat refine kq fun K hK=>?_)
   refine aw_loop (fun k : Nat => { tm := [(0, .a (.c (.p 0 0))), (3, .a (.c (.p 1 0))), (4, .i A.length), (56, .a (.c (.t 1 (tInts D)))), (57, .i R.length), (58, .i k)], hp := [.r (sdR (bthR A R) (cm ++ (D.map (· + (A.length : Int))).take k) oq dv), .r ⟨27, 1, false, [.t 1 (tRows R)]⟩], n := 97, pin := 1 }) (fun k => k ≤ R.length) (fun k => R.length - k) 0 ?_ ?_ ?_
   ·omega
   ·simp only [List.take_zero, List.append_nil, sdR]
    exact lmz
   ·clear hs hlt d1 hse
    rintro k hk K hK
    simp only [sdR]
    by_cases hlt : k < R.length
    ·have d2 : decide ((k : Int) < (R.length : Int)) = true := by simpa using hlt
     have hkD : k < D.length := by omega
     have gD := tInts_get (List.getElem?_eq_getElem hkD)
     have hsn : cm ++ (D.map (· + (A.length : Int))).take (k + 1) = (cm ++ (D.map (· + (A.length : Int))).take k) ++ [D[k] + (A.length : Int)] := by
      rw [List.take_succ_eq_append_getElem (by rw [List.length_map]; exact hkD), ← List.append_assoc]; simp
     have hbd : 0 ≤ D[k] ∧ D[k] < (R.length : Int) := by
      have := cpF_ok hv hD hlt
      rw [List.getElem?_eq_getElem hkD] at this
      have h3 := Option.some.inj this.1
      omega
     have hol : (cm ++ (D.map (· + (A.length : Int))).take k).length ≤ 1000000 := by rw [List.length_append, List.length_take, List.length_map]; omega
     generalize D[k] = x at *
     generalize cm ++ (D.map (· + (A.length : Int))).take k = O at *
     (refine wk1 @d2 ?_;(repeat clear hK K);repeat refine kq fun K hK=>?_)
     refine cxz ?_
     (refine wk1 (an @gD (an @tInts_len (an @hDl (an @List.set_cons_zero.{0} (an @List.set_cons_succ.{0} (an @List.take_succ_cons.{0} (an @List.take_zero.{0} (an @List.drop_zero.{0} (an @List.length_take.{0} (an @List.length_drop.{0} (an @List.length_append.{0} (an @tInts_len (an @tInts_take (an @tInts_drop (an @tInts_c (an @cInts_len (an @cInts_one (an @cInts_snoc (an @cInts_app (an @cInts_take @cInts_drop)))))))))))))))))))) ?_;(repeat clear hK K);repeat refine kq fun K hK=>?_)
     refine rnz ?_
     refine hK _ (k + 1) (by omega) (by omega) ?_
     rw [hsn]
     refine Le.trans (le_sink (r := ⟨3, 1, true, cInts (O ++ [x + (A.length : Int)])⟩) (ri := ⟨48, 4, false, [.o (1, 38) (tRows (bthR A R)), .s 3 (O.length + 1), .o (1, 3) (tInts oq), .o (1, 4) (tBs dv)]⟩) (ts := tInts (O ++ [x + (A.length : Int)])) 0 1 3 (O.length + 1) (by decide) rfl rfl rfl rfl (show 0 < 1 by omega) (by rw [cInts_len]; simp) (fz_c _)) ?_
     simp only [go_sem]
     refine Le.trans (le_pick [0, 1] rfl rfl) ?_
     (try simp only [List.set_nil, List.take_nil, List.take_zero, List.map_append, go_sem])
     simp only [sdR]
     exact lmz
    ·have d2 : decide ((k : Int) < (R.length : Int)) = false := by simpa using hlt
     have hse : (D.map (· + (A.length : Int))).take k = D.map (· + (A.length : Int)) := List.take_of_length_le (by rw [List.length_map]; omega)
     rw [hse]
     have hDbl := hDb.1
     have hWlo : looB (bthR A R) = true := decide_eq_true (of_decide_eq_true hvW).1
     have hWl := bthR_len A R
     have hWr : ∀ r ∈ bthR A R, r.length ≤ 1000000 := fun r hr2 => by
      rcases List.mem_append.1 hr2 with h | h
      ·exact hrA r h
      ·obtain ⟨q, hq, rfl⟩ := List.mem_map.1 h
       rw [shA_len]; exact hr q hq
     have hWt : totA (bthR A R) ≤ 1000000 := by have := (of_decide_eq_true hWlo).2.2.1; omega
     have hord := fun B n m => ordB_fc (bthR A R) (cm ++ D.map (· + (A.length : Int))) oq B (cpF (cm ++ D.map (· + (A.length : Int)))) (rkF (bthR A R)) (n := n) (m := m) (fun r h a ha => by have := (of_decide_eq_true hWlo).2.2.2 r h a ha; exact ⟨this.2.2.1, this.2.2.2⟩) hWt hDbl (fun v hv => ⟨(cpF_ok hvW hDb hv).1, (cpF_ok hvW hDb hv).2.1⟩) (edL_down hvW hDb) (by omega) hWr
     have hdvl := hB.1
     generalize cm ++ D.map (· + (A.length : Int)) = E at *
     (refine wk1 @d2 ?_;(repeat clear hK K);repeat refine kq fun K hK=>?_)
     refine cyz ?_
     (refine ekz ?_;repeat clear hK K)
     (refine wk0 ?_;(repeat clear hK K);repeat refine kq fun K hK=>?_)
     (refine aw_regionZ [] (.m 0 0 0 (.m 1 0 0 (.m 2 0 0 (.m 3 0 0 (.m 4 1 7 (.m 5 1 6 (.a 6 (.a 7 (.m 8 0 0 (.m 9 0 0 (.a 10 .e))))))))))) (by kernel_rfl) (by kernel_rfl) (by intro c st h; simp [ThenA, InBl, Ret] at h) ?_)
     (refine zk1 @tBs_len ?_; repeat clear hK K)
     (refine z_2 rfl rfl ?_; intro K1 hK1; refine StpC.f (stp_call0 (ids := []) (dvgT_fc R hv (by omega) hr) rfl rfl (by simp only [go_sem]) (by kernel_rfl) (by (simp only [List.append_nil, go_sem]) <;> rfl) ?_))
     rintro _ _ ⟨B, hBR, rfl, rfl⟩
     have hBl := hBR.1
     (refine bkz ?_; clear hK1 K1)
     (refine z_2y rfl rfl rfl ?_; intro K1 hK1; refine stpY_ap rfl rfl rfl rfl (by first | rfl | simp only [rowsB, List.getD_cons_zero, List.getD_cons_succ, hne, List.isEmpty_cons, Bool.not_false, Bool.true_and, Bool.and_true, Bool.and_self]) rfl ?_; simp only [go_sem, tBs_len, List.set_cons_zero, List.set_cons_succ, List.take_succ_cons, List.take_zero, List.drop_zero, List.length_take, List.length_drop, List.length_append, tInts_len, tInts_take, tInts_drop, tInts_c, cInts_len, cInts_one, cInts_snoc, cInts_app, cInts_take, cInts_drop]; (first | refine hK1 _ ?_ | refine andk (hK1 _ ?_)); clear hK1 K1)
     (refine zk1 @tBs_len ?_; repeat clear hK K)
     (refine z_3 rfl rfl rfl rfl ?_; intro K1 hK1; refine stp_ev rfl ?_; simp only [go_sem]; (first | refine hK1 _ ?_ | refine andk (hK1 _ ?_)); clear hK1 K1)
     refine z_nil ⟨by simp, by simp, ?_⟩
     (try simp only [ThenA, InBl])
     refine hK _ ?_
     clear hK K
     have hcb : (tBs dv).map C.ofTr ++ (tBs B).map C.ofTr = cBs (dv ++ B) := by simp [cBs, tBs, C.ofTr, Function.comp_def]
     have hBb := hB.both hAl hlo hBR
     have hcBl : (cBs (dv ++ B)).length = dv.length + B.length := by simp [cBs]
     simp only [hcb]
     generalize dv ++ B = Z at *
     refine aw_le (le_sink (r := ⟨4, 1, true, cBs Z⟩) (ri := ⟨48, 4, false, [.o (1, 38) (tRows (bthR A R)), .o (1, 3) (tInts E), .o (1, 3) (tInts oq), .s 2 (dv.length + B.length)]⟩) (ts := tBs Z) 0 3 2 (dv.length + B.length) (by decide) rfl rfl rfl rfl (show 0 < 1 by omega) (by rw [hcBl, Nat.mul_one]) (fz_bs _)) ?_
     simp only [go_sem]
     refine aw_le (le_pick [0] rfl rfl) ?_
     (try simp only [List.set_nil, List.take_nil, List.take_zero, List.map_append, go_sem])
     (refine aw_regionU 9 [(0, 0), (1, 0), (2, 0), (3, 0), (4, 1), (5, 0), (6, 0), (7, 0), (8, 1), (9, 2), (10, 0), (11, 0), (12, 2)] (by kernel_rfl) (by kernel_rfl) (by intro c st h; simp [ThenA, InBl, Ret] at h) ?_)
     (refine uk0 ?_; repeat clear hK K)
     (refine u_lS (id := 0) (off := 0) (k := (1, 38)) (cs := tRows (bthR A R)) rfl rfl rfl rfl ty27 rfl rfl (by simp only [go_sem]) rfl rfl (show 0 < 1 by omega) ?_; simp only [go_sem, tRows_len])
     (refine uk1 @tInts_len ?_; repeat clear hK K)
     (refine u_w rfl rfl rfl ?_; intro K1 hK1; refine stp_callσ (ids := []) [0] (hord Z (bthR A R).length E.length) rfl rfl (by simp only [go_sem]) (by first | assumption | kernel_rfl) rfl rfl (by (simp only [List.map_append, List.append_nil, go_sem]) <;> rfl) (by (simp only [pkh, sdR, go_sem]) <;> rfl) ?_ ?_)
     ·rintro _ _ ⟨Q, h1, rfl, rfl⟩; rfl
     rintro _ _ ⟨Q, hQ, rfl, rfl⟩
     simp only [sdR, rInts]
     (simp only [aInts, aSets, cInts_up, List.append_nil, List.nil_append, List.length_map, go_sem]; refine hK1 _ ?_; clear hK1 K1)
     (refine uk0 ?_; repeat clear hK K)
     refine u_nil ?_
     (try simp only [ThenA, InBl])
     refine ret_le (le_sink (r := ⟨3, 1, true, cInts (Q.map Int.ofNat)⟩) (ri := ⟨48, 4, false, [.o (1, 38) (tRows (bthR A R)), .o (1, 3) (tInts E), .s 1 Q.length, .o (1, 4) (tBs Z)]⟩) (ts := tInts (Q.map Int.ofNat)) 0 2 1 Q.length (by decide) rfl rfl rfl rfl (show 0 < 1 by omega) (by rw [cInts_len]; simp) (fz_c _)) ?_
     simp only [go_sem]
     refine rp0 [0] Try.results15 ?_
     exact ⟨E, Q, Z, hDb, hBb, hQ, rfl⟩
end Go.Proofs.Ytahnebicgbjonaa
namespace Go.Proofs.Ytahnebicgbjonaa
set_option linter.unusedVariables false
set_option linter.unusedSimpArgs false
open Go.RowKit
set_option maxRecDepth 100000
theorem fcmp_fc (a b : Ar) : FC Try.prog 47 [.a (.g [.v (.int .i64 a.1), .v (.int .i64 a.2)]), .a (.g [.v (.int .i64 b.1), .v (.int .i64 b.2)])] [] (fun r o => o = [] ∧ r = .i (cmpR a b)) := by
 refine fc_intro Try.func47 rfl (by rw [Try.ntmps47]; simp) ?_
 rw [Try.ntmps47]
 simp only [enum]
 (refine wk1 (an @List.set_cons_zero.{0} @List.set_cons_succ.{0}) ?_;(repeat clear hK K);repeat refine kq fun K hK=>?_)
 (refine aw_regionV [] [(0, 0, 0), (2, 0, 0), (5, 0, 0), (7, 0, 0), (1, 1, 4), (3, 1, 4), (6, 1, 9), (8, 1, 9), (4, 2, 0), (9, 2, 0), (10, 2, 0), (11, 2, 0), (12, 2, 0)] (by kernel_rfl) (by kernel_rfl) (by intro c st h; simp [ThenA, InBl, Ret] at h) ?_)
 (refine vk0 ?_; repeat clear hK K)
 (refine v_2 rfl rfl ?_; intro K1 hK1; refine stpX_mono ?_; refine xv [] (cmp_fc a.1 b.1) ?_ ?_)
 ·rintro _ _ ⟨rfl, rfl⟩ i o hi hl; simp at hl
 rintro _ _ ⟨rfl, rfl⟩
 (refine bkz ?_; clear hK1 K1)
 (refine vk0 ?_; repeat clear hK K)
 (refine v_2 rfl rfl ?_; intro K1 hK1; refine stpX_mono ?_; refine xv [] (cmp_fc a.2 b.2) ?_ ?_)
 ·rintro _ _ ⟨rfl, rfl⟩ i o hi hl; simp at hl
 rintro _ _ ⟨rfl, rfl⟩
 (refine bkz ?_; clear hK1 K1)
 (refine vk0 ?_; repeat clear hK K)
 (refine v_3 rfl rfl rfl ?_; intro K1 hK1; refine stp_ev rfl ?_; simp only [go_sem, List.set_cons_zero, List.set_cons_succ]; (first | refine hK1 _ ?_ | refine andk (hK1 _ ?_)); clear hK1 K1)
 (refine v_le (le_frz (r := ⟨3, 1, true, cInts [cmpI a.1 b.1, cmpI a.2 b.2]⟩) 2 (tInts [cmpI a.1 b.1, cmpI a.2 b.2]) rfl (fz_c _) (show 0 < (1 : Nat) by omega)) ?_; simp only [ST.frz, A0.frz, AV.frz, C.frz, Nat.le_refl, List.set_cons_zero, List.set_cons_succ, go_sem, tInts_len, tInts_take, List.length_cons, List.length_nil, List.take_succ_cons, List.take_zero])
 (refine vk0 ?_; repeat clear hK K)
 (refine v_2 rfl rfl ?_; intro K1 hK1; refine stpX_mono ?_; refine stpX_call (ids := []) [] (cmpOr_fc [cmpI a.1 b.1, cmpI a.2 b.2] (by simp)) rfl rfl (by simp only [go_sem]) (by kernel_rfl) rfl rfl rfl (by (simp only [List.map_append, List.append_nil, go_sem]) <;> rfl) (by (simp only [pkh, aInts, go_sem]) <;> rfl) ?_ ?_)
 ·rintro _ _ ⟨rfl, rfl⟩ i o hi hl; simp at hl
 rintro _ _ ⟨rfl, rfl⟩
 (refine bkz ?_; clear hK1 K1)
 (refine v_3 rfl rfl rfl ?_; intro K1 hK1; refine stp_ev rfl ?_; simp only [go_sem]; (first | refine hK1 _ ?_ | refine andk (hK1 _ ?_)); clear hK1 K1)
 (refine vk0 ?_; repeat clear hK K)
 refine rp0 [] Try.results47 ?_
 rw [orL_cmp]
theorem dcmp_fc (a b : Ar) : FC Try.prog 43 [.a (.g [.v (.int .i64 a.1), .v (.int .i64 a.2)]), .a (.g [.v (.int .i64 b.1), .v (.int .i64 b.2)])] [] (fun r o => o = [] ∧ r = .i (cmpR a b)) := by
 refine fc_intro Try.func43 rfl (by rw [Try.ntmps43]; simp) ?_
 rw [Try.ntmps43]
 simp only [enum]
 (refine wk1 (an @List.set_cons_zero.{0} @List.set_cons_succ.{0}) ?_;(repeat clear hK K);repeat refine kq fun K hK=>?_)
 (refine aw_regionV [] [(0, 0, 0), (2, 0, 0), (5, 0, 0), (7, 0, 0), (1, 1, 4), (3, 1, 4), (6, 1, 9), (8, 1, 9), (4, 2, 0), (9, 2, 0), (10, 2, 0), (11, 2, 0), (12, 2, 0)] (by kernel_rfl) (by kernel_rfl) (by intro c st h; simp [ThenA, InBl, Ret] at h) ?_)
 (refine vk0 ?_; repeat clear hK K)
 (refine v_2 rfl rfl ?_; intro K1 hK1; refine stpX_mono ?_; refine xv [] (cmp_fc a.1 b.1) ?_ ?_)
 ·rintro _ _ ⟨rfl, rfl⟩ i o hi hl; simp at hl
 rintro _ _ ⟨rfl, rfl⟩
 (refine bkz ?_; clear hK1 K1)
 (refine vk0 ?_; repeat clear hK K)
 (refine v_2 rfl rfl ?_; intro K1 hK1; refine stpX_mono ?_; refine xv [] (cmp_fc a.2 b.2) ?_ ?_)
 ·rintro _ _ ⟨rfl, rfl⟩ i o hi hl; simp at hl
 rintro _ _ ⟨rfl, rfl⟩
 (refine bkz ?_; clear hK1 K1)
 (refine vk0 ?_; repeat clear hK K)
 (refine v_3 rfl rfl rfl ?_; intro K1 hK1; refine stp_ev rfl ?_; simp only [go_sem, List.set_cons_zero, List.set_cons_succ]; (first | refine hK1 _ ?_ | refine andk (hK1 _ ?_)); clear hK1 K1)
 (refine v_le (le_frz (r := ⟨3, 1, true, cInts [cmpI a.1 b.1, cmpI a.2 b.2]⟩) 2 (tInts [cmpI a.1 b.1, cmpI a.2 b.2]) rfl (fz_c _) (show 0 < (1 : Nat) by omega)) ?_; simp only [ST.frz, A0.frz, AV.frz, C.frz, Nat.le_refl, List.set_cons_zero, List.set_cons_succ, go_sem, tInts_len, tInts_take, List.length_cons, List.length_nil, List.take_succ_cons, List.take_zero])
 (refine vk0 ?_; repeat clear hK K)
 (refine v_2 rfl rfl ?_; intro K1 hK1; refine stpX_mono ?_; refine stpX_call (ids := []) [] (cmpOr_fc [cmpI a.1 b.1, cmpI a.2 b.2] (by simp)) rfl rfl (by simp only [go_sem]) (by kernel_rfl) rfl rfl rfl (by (simp only [List.map_append, List.append_nil, go_sem]) <;> rfl) (by (simp only [pkh, aInts, go_sem]) <;> rfl) ?_ ?_)
 ·rintro _ _ ⟨rfl, rfl⟩ i o hi hl; simp at hl
 rintro _ _ ⟨rfl, rfl⟩
 (refine bkz ?_; clear hK1 K1)
 (refine v_3 rfl rfl rfl ?_; intro K1 hK1; refine stp_ev rfl ?_; simp only [go_sem]; (first | refine hK1 _ ?_ | refine andk (hK1 _ ?_)); clear hK1 K1)
 (refine vk0 ?_; repeat clear hK K)
 refine rp0 [] Try.results43 ?_
 rw [orL_cmp]
open Go.RowKit Go.Shelf Go.Sort
set_option maxHeartbeats 1000000 in
theorem sortD_fc (f : FuncId) (hf : callable Try.prog f = true) (hcmp : ∀ a b : Ar, FC Try.prog f [.a (.g [.v (.int .i64 a.1), .v (.int .i64 a.2)]), .a (.g [.v (.int .i64 b.1), .v (.int .i64 b.2)])] [] (fun r o => o = [] ∧ r = .i (cmpR a b))) (L : List Ar) (hsz : L.length ≤ 100000000) :
  FC Try.prog 42 [.a (.c (.s 0 L.length)), .a (.c (.f f []))] [.r ⟨66, 2, true, cArcs L⟩]
   (fun r o => r = .u ∧ ∃ L' : List Ar, L'.Perm L ∧ L'.Pairwise (fun a b => ltA b a = false) ∧ o = [.r ⟨66, 2, true, cArcs L'⟩]) := by
 intro g w vals hr hargs
 obtain ⟨hlen, hargs⟩ := hargs
 obtain ⟨v1, e1, b1, b2, A, rfl, b4, b5⟩ := hargs 0 _ rfl
 obtain ⟨v2, e2, c1, c2⟩ := hargs 1 _ rfl
 have hv2 : v2 = .func (.func f) #[] #[] := by rw [c2]; simp [clo]
 subst hv2
 have hvals : vals = [.slice A L.length (g.κ 0), .func (.func f) #[] #[]] := by
  match vals, hlen with
  | [a, b], _ => simp at e1 e2; simp [e1, e2]
 subst hvals
 rcases hr.row 0 _ rfl with ⟨h0, hnil⟩ | ⟨h0, hne, arr, ha, hle, hs, hmx, hcells⟩
 ·have hL0 : L = [] := by
   have : (cArcs L).length = 0 := by have h : cArcs L = [] := hnil; rw [h]; rfl
   rw [cArcs_len] at this
   exact List.length_eq_zero_iff.1 (by omega)
  subst hL0
  refine (AnyF.slices_SortFunc_none Try.sortArrows A (g.κ 0) (.func (.func f) #[] #[]) w).mono ?_
  rintro e' w' ⟨rfl, rfl⟩
  exact ⟨.tuple #[], .u, _, g, rfl, ⟨rfl, [], List.Perm.refl _, List.Pairwise.nil, rfl⟩, hr, ⟨Nat.le_refl _, Ext.refl _ _⟩, fun ℓ hl => .inl ⟨ℓ, hl, rfl⟩, trivial, Fp.refl _ _⟩
 ·have hL0 : L ≠ [] := fun e => by subst e; exact hne rfl rfl
  have x0 : 0 < L.length := List.length_pos_iff.2 hL0
  rw [b4 h0] at *
  have hblk : g.γ (.ob 0) < w.heap.size := (Array.getElem?_eq_some_iff.1 ha).1
  have hle' : L.length * 2 ≤ arr.size := by simpa [cArcs_len] using hle
  have hfl := flat_len cpA 2 (fun _ => rfl) L
  have hget : ∀ j, j < L.length * 2 → arr[j]? = (L.flatMap cpA)[j]? := by
   intro j hj
   obtain ⟨v, hv⟩ : ∃ v, (L.flatMap cpA)[j]? = some v := ⟨_, List.getElem?_eq_getElem (by rw [hfl]; exact hj)⟩
   obtain ⟨u, u1, u2⟩ := hcells j (.v v) (by rw [cpA_cells, List.getElem?_map, hv]; rfl)
   have hu : u = v := u2
   rw [u1, hv, hu]
  have hlays : CmpLays Try.prog f #[] cpA 2 cmpR (g.γ (.ob 0)) 0 L.toArray.size w := by
   intro m os dk _ x y
   have hoth : ∀ k, k < w.heap.size → ¬ Ow [.r ⟨66, 2, true, cArcs L⟩] g k → (sortWorldK cpA 2 w (g.γ (.ob 0)) 0 m dk os).heap[k]? = w.heap[k]? := by
    intro k hk hn
    have hn2 : k ≠ g.γ (.ob 0) := fun e => hn (.inr ⟨.ob 0, lvA.2 ⟨rfl, h0⟩, e.symm⟩)
    unfold sortWorldK putRowK putRow mapBlock Sort.grow Sort.ahead
    simp only
    rw [Array.getElem?_append_left (by simpa using hk), Array.getElem?_modify, if_neg (Ne.symm hn2)]
   generalize hW : sortWorldK cpA 2 w (g.γ (.ob 0)) 0 m dk os = W at hoth
   have hsz' : w.heap.size ≤ W.heap.size := by rw [← hW]; simp [sortWorldK, putRowK, putRow, mapBlock, Sort.grow, Sort.ahead]
   have hHR : HR ⟨g.γ, g.κ, fun _ => False⟩ [] W := ⟨fun b hb => hb.elim, fun ℓ hl => absurd hl (noLv _ ℓ), fun ℓ _ hl => absurd hl (noLv _ ℓ), fun id r h => by simp at h, fun id r h => by simp at h, hr.gl.keep hsz' hoth (fun k _ hk => hk.elim (fun h => h.elim) (fun ⟨ℓ, hl, _⟩ => absurd hl (noLv _ ℓ)))⟩
   have hA : argsR ⟨g.γ, g.κ, fun _ => False⟩ [] W [.a (.g [.v (.int .i64 x.1), .v (.int .i64 x.2)]), .a (.g [.v (.int .i64 y.1), .v (.int .i64 y.2)])] [.agg #[.int .i64 x.1, .int .i64 x.2], .agg #[.int .i64 y.1, .int .i64 y.2]] := by
    refine ⟨rfl, fun i a hi => ?_⟩
    have ag : ∀ z : Ar, A0R (CR ⟨g.γ, g.κ, fun _ => False⟩ [] W) (.g [.v (.int .i64 z.1), .v (.int .i64 z.2)]) (.agg #[.int .i64 z.1, .int .i64 z.2]) := fun z => ⟨[.int .i64 z.1, .int .i64 z.2], rfl, rfl, fun q c hq => by
     match q, hq with
     | 0, hq => simp at hq; subst hq; exact ⟨_, rfl, rfl⟩
     | 1, hq => simp at hq; subst hq; exact ⟨_, rfl, rfl⟩
     | q + 2, hq => simp at hq⟩
    match i, hi with
    | 0, hi => cases hi; exact ⟨_, rfl, ag x⟩
    | 1, hi => cases hi; exact ⟨_, rfl, ag y⟩
    | i + 2, hi => simp at hi
   refine Calls.mono (hcmp x y _ _ _ hHR hA) ?_
   rintro e' w' ⟨v, r, outs, g', rfl, ⟨rfl, rfl⟩, _, _, _, hv, hfp⟩
   exact ⟨by rw [show v = _ from hv], grown_of_fpA (hfp.mono fun k _ ⟨ℓ, hl, _⟩ => absurd hl (noLv _ ℓ))⟩
  have hH : HoldsK cpA 2 w (g.γ (.ob 0)) 0 L.toArray := by
   unfold HoldsK Holds
   rw [flatK_A]
   intro j hj
   simp only [List.size_toArray, hfl] at hj
   constructor
   ·rw [Nat.zero_add, cell_of_row w _ j arr _ (0, 0) ha, hget j hj, getElem!_pos _ j (by simpa [hfl] using hj)]
    simp [hfl, hj]
   ·simp [World.frozen?, ha]
  have eg : ∀ args w, (callFunc f args).run Try.prog w = .ok (.enter f args) w := fun args w => run_callFunc_body hf args w
  have hcon := AnyQ.slices_SortFunc_total Try.sortArrows 2 Try.isAgg66 Try.sizeOf66 cpA (fun _ => rfl) (fun x v hv => by simp [cpA] at hv; rcases hv with rfl | rfl <;> rfl) cmpR swoR f #[] (g.γ (.ob 0)) 0 (g.κ 0) L.toArray w eg hlays hH hblk (by simp; omega)
   (fun x y h1 h2 => by
    rw [show ltOf cmpR x y = ltA x y from cmpR_lt x y] at h1
    rw [show ltOf cmpR y x = ltA y x from cmpR_lt y x] at h2
    rcases ltA_tri x y with h | h | h
    ·rw [h] at h1; cases h1
    ·exact h
    ·rw [h] at h2; cases h2)
  change Calls Try.prog 42 _ _ _ at hcon
  have hsz2 : L.toArray.size = L.length := by simp
  rw [hsz2] at hcon
  refine hcon.mono ?_
  rintro e' w' ⟨rfl, m, os, rfl⟩
  have hSl : (sortA L).length = L.length := List.length_mergeSort _
  have hfl' := flat_len cpA 2 (fun _ => rfl) (sortA L)
  have hself : (sortWorldK cpA 2 w (g.γ (.ob 0)) 0 m (sortA L).toArray os).heap[g.γ (.ob 0)]? = some (.cells (putCells id 0 ((sortA L).flatMap cpA).toArray arr) 66 (0, 0)) := by
   unfold sortWorldK putRowK putRow mapBlock Sort.grow Sort.ahead
   rw [flatK_A]
   simp only
   rw [Array.getElem?_append_left (by simpa using hblk), Array.getElem?_modify, if_pos rfl, ha]
   rfl
  have hsize : w.heap.size ≤ (sortWorldK cpA 2 w (g.γ (.ob 0)) 0 m (sortA L).toArray os).heap.size := by simp [sortWorldK, putRowK, putRow, mapBlock, Sort.grow, Sort.ahead]
  have hother : ∀ k, k < w.heap.size → k ≠ g.γ (.ob 0) → (sortWorldK cpA 2 w (g.γ (.ob 0)) 0 m (sortA L).toArray os).heap[k]? = w.heap[k]? := by
   intro k hk hn
   unfold sortWorldK putRowK putRow mapBlock Sort.grow Sort.ahead
   simp only
   rw [Array.getElem?_append_left (by simpa using hk), Array.getElem?_modify, if_neg (Ne.symm hn)]
  have hfp : Fp (LiveB [.r ⟨66, 2, true, cArcs L⟩] g) w (sortWorldK cpA 2 w (g.γ (.ob 0)) 0 m (sortA L).toArray os) :=
   ⟨rfl, rfl, rfl, hsize, fun k hk hm => hother k hk fun e => hm ⟨.ob 0, lvA.2 ⟨rfl, h0⟩, e.symm⟩, by simp [sortWorldK, putRowK, putRow, mapBlock, Sort.grow, Sort.ahead]⟩
  refine ⟨.tuple #[], .u, _, g, rfl, ⟨rfl, sortA L, sortA_perm L, sortA_le L, rfl⟩, ?_, ⟨by simp, Ext.refl _ _⟩, fun ℓ hl => .inl ⟨ℓ, lvA.2 (lvA.1 hl), rfl⟩, trivial, hfp⟩
  refine ⟨fun b hb => Nat.lt_of_lt_of_le (hr.ml b hb) hsize, fun ℓ hl => hr.md ℓ (lvA.2 (lvA.1 hl)), fun ℓ ℓ' hl hl' => hr.inj ℓ ℓ' (lvA.2 (lvA.1 hl)) (lvA.2 (lvA.1 hl')), fun id r hid => ?_, fun id r hid => ?_, hr.gl.keep hsize (fun k hk hn => hother k hk (fun e => hn (.inr ⟨.ob 0, lvA.2 ⟨rfl, h0⟩, e.symm⟩))) (fun k _ hk => hk.imp (fun h => h) (fun ⟨ℓ, hl, e⟩ => ⟨ℓ, lvA.2 (lvA.1 hl), e⟩))⟩
  ·cases id with
   | succ i => simp at hid
   | zero =>
    simp at hid
    subst hid
    refine .inr ⟨h0, fun _ hn => ?_, _, hself, ?_, ?_, hmx, fun j c hj => ?_⟩
    ·have : (cArcs (sortA L)).length = 0 := by simp only at hn; rw [hn]; rfl
     rw [cArcs_len, hSl] at this; omega
    ·simp only [cArcs_len, hSl, putCells, Array.size_mapIdx]; exact hle'
    ·simpa [putCells] using hs
    ·rw [cpA_cells, List.getElem?_map, Option.map_eq_some_iff] at hj
     obtain ⟨v, hv, rfl⟩ := hj
     have hjl : j < L.length * 2 := by have := (List.getElem?_eq_some_iff.1 hv).1; rw [hfl', hSl] at this; exact this
     refine ⟨v, ?_, rfl⟩
     have hj2 : j < ((sortA L).flatMap cpA).length := by rw [hfl', hSl]; exact hjl
     have hjc : j < arr.size := by omega
     simp only [putCells, Array.getElem?_mapIdx, Nat.zero_le, true_and, Nat.zero_add, List.size_toArray, hj2, if_true, Nat.sub_zero]
     rw [Array.getElem?_eq_getElem hjc]
     rw [List.getElem?_eq_getElem hj2] at hv
     have hv2 := Option.some.inj hv
     rw [← hv2]
     simp
     rw [List.getElem?_eq_getElem hj2]; rfl
  ·cases id with
   | zero => simp at hid
   | succ i => simp at hid
theorem darAe : AeOk Try.prog 66 2 := aeOk2 Try.underlying66 (by kernel_rfl) (by kernel_rfl) (by decide) (by decide) rfl rfl (by kernel_rfl) (by kernel_rfl)
theorem darEq_d (x y : Operand) (a b : Ar) : aggEq Try.prog .eql 66 x y [.int .i64 a.1, .int .i64 a.2] [.int .i64 b.1, .int .i64 b.2] (decide (a = b)) = True := by
 rw [← arcEq_b]
 refine eq_true ?_
 have := (darAe x y [.v (.int .i64 a.1), .v (.int .i64 a.2)] [.v (.int .i64 b.1), .v (.int .i64 b.2)] _ _ rfl rfl rfl rfl).1
 simpa [eqI] using this
theorem darNe_d (x y : Operand) (a b : Ar) : aggEq Try.prog .neq 66 x y [.int .i64 a.1, .int .i64 a.2] [.int .i64 b.1, .int .i64 b.2] (!decide (a = b)) = True := by
 rw [← arcEq_b]
 refine eq_true ?_
 have := (darAe x y [.v (.int .i64 a.1), .v (.int .i64 a.2)] [.v (.int .i64 b.1), .v (.int .i64 b.2)] _ _ rfl rfl rfl rfl).2
 simpa [eqI] using this
attribute [local go_sem] List.map_cons List.map_nil List.take_succ_cons List.take_zero List.drop_zero List.drop_succ_cons C.pl C.one List.all_cons List.all_nil Bool.and_true
set_option maxHeartbeats 1000000 in
theorem compact_arrs (L : List Ar) (hn : L.length ≤ 100000000) : FC Try.prog 44 [.a (.c (.s 0 L.length))] [.r ⟨66, 2, true, cArcs L⟩]
  (fun r o => r = .a (.c (.s 0 (cmpA L).length)) ∧ ∃ rest us, Fz rest us ∧ (L = [] → rest = []) ∧ o = [.r ⟨66, 2, true, cArcs (cmpA L) ++ rest⟩]) := by
 refine fc_intro Try.func44 rfl (by rw [Try.ntmps44]; simp) ?_
 rw [Try.ntmps44]
 simp only [enum]
 (refine wk0 ?_;(repeat clear hK K);repeat refine kq fun K hK=>?_)
 (refine aw_cnd ?_; intro X Y hX hY; simp only [go_sem])
 refine ⟨fun h => hX ?_, fun h => hY ?_⟩
 ·clear hX hY X Y
  (refine wk0 ?_;(repeat clear hK K);repeat refine kq fun K hK=>?_)
  refine rq0 Try.results44 ?_
  have hc : cmpA L = L := by
   match L, h with
   | [], _ => rfl
   | [x], _ => rfl
   | _ :: _ :: _, h => simp at h; omega
  rw [hc]
  exact ⟨rfl, [], [], trivial, fun _ => rfl, by simp⟩
 ·clear hX hY X Y
  have h2 : 2 ≤ L.length := by simp at h; omega
  clear h
  (refine wk0 ?_;(repeat clear hK K);repeat refine kq fun K hK=>?_)
  refine aw_loop (fun k : Nat => { tm := [(0, .a (.c (.s 0 L.length))), (3, .i (k + 1 : Nat))], hp := [.r ⟨66, 2, true, cArcs L⟩], n := 61, pin := 1 }) (fun k => k + 1 ≤ L.length ∧ cmpA L = L.take (k + 1) ++ cmpGo (L.getD k (0, 0)) (L.drop (k + 1))) (fun k => L.length - k) 0 ?_ ?_ ?_
  ·refine ⟨by omega, ?_⟩
   match L, h2 with
   | x :: r, _ => simp [cmpA]
  ·exact lmz
  ·rintro k ⟨hk, he⟩ K hK
   (refine wk0 ?_;(repeat clear hK K);repeat refine kq fun K hK=>?_)
   (refine aw_cnd ?_; intro X Y hX hY; simp only [go_sem])
   refine ⟨fun h => hX ?_, fun h => hY ?_⟩
   ·have hlt : k + 1 < L.length := by simp at h; omega
    have hlt0 : k < L.length := by omega
    clear hX hY X Y h
    have e1 : ((k + 1 : Nat) : Int) - 1 = (k : Int) := by omega
    have g0 : L.getD k (0, 0) = L[k] := by simp [List.getD, hlt0]
    rw [g0] at he
    have hst := cmpGo_step he (Nat.le_refl _) (List.getElem?_eq_getElem hlt)
    (refine wk0 ?_;(repeat clear hK K);repeat refine kq fun K hK=>?_)
    (refine aw_regionU 9 [(0, 0), (1, 0), (2, 0), (3, 1), (4, 0), (5, 0), (6, 0), (7, 0), (8, 1), (9, 2)] (by kernel_rfl) (by kernel_rfl) (by intro c st h; simp [ThenA, InBl, Ret] at h) ?_)
    (refine uk1 (an @e1 (an (cArcs_at hlt) (an (cArcs_at hlt0) (an @cArcs_len (an @darEq_d (an @arcEq_b @true_and)))))) ?_; repeat clear hK K)
    (refine aw_cnd ?_; intro X Y hX hY; simp only [go_sem])
    refine ⟨fun h => hX ?_, fun h => hY ?_⟩
    ·clear hX hY X Y
     have heq : L[k + 1] = L[k] := by simpa using h
     clear h
     have hI := hst.1 heq
     clear hst he
     (refine wk0 ?_;(repeat clear hK K);repeat refine kq fun K hK=>?_)
     refine aw_loop (fun q : Nat × Nat × List Ar => { tm := [(0, .a (.c (.s 0 L.length))), (3, .i q.1), (4, .a (.c (.w 0 (k + 1) (L.length - (k + 1)) 2))), (5, .i (q.2.1 + 1 : Nat))], hp := [.r ⟨66, 2, true, cArcs q.2.2⟩], n := 61, pin := 1 })
      (fun q => q.2.2.length = L.length ∧ (∀ x ∈ q.2.2, x ∈ L) ∧ q.1 ≤ k + 1 + q.2.1 ∧ k + 2 + q.2.1 ≤ L.length ∧ cmpA L = q.2.2.take q.1 ++ cmpGo (q.2.2.getD (k + 1 + q.2.1) (0, 0)) (q.2.2.drop (k + 2 + q.2.1))) (fun q => L.length - q.2.1) (k + 1, 0, L) ?_ ?_ ?_
     ·refine ⟨rfl, fun x h => h, by simp, by simp only; omega, ?_⟩
      have : L.getD (k + 1) (0, 0) = L[k + 1] := by simp [List.getD, hlt]
      simp only [Nat.add_zero, this]
      exact hI
     ·exact lmz
     ·clear hI
      rintro ⟨m, j, ys⟩ ⟨hyl, hys, hm, hj, he⟩ K hK
      simp only at hyl hys hm hj he
      (refine wk0 ?_;(repeat clear hK K);repeat refine kq fun K hK=>?_)
      (refine aw_cnd ?_; intro X Y hX hY; simp only [go_sem])
      refine ⟨fun h => hX ?_, fun h => hY ?_⟩
      ·have hlt : k + 1 + (j + 1) < ys.length := by simp at h; omega
       have hlt0 : k + 1 + j < ys.length := by omega
       have hw : ((j + 1 : Nat) : Int) < ((L.length - (k + 1) : Nat) : Int) := by omega
       have hw0 : (j : Int) < ((L.length - (k + 1) : Nat) : Int) := by omega
       clear hX hY X Y h
       have e1 : ((j + 1 : Nat) : Int) - 1 = (j : Int) := by omega
       have g0 : ys.getD (k + 1 + j) (0, 0) = ys[k + 1 + j] := by simp [List.getD, hlt0]
       rw [g0, show k + 2 + j = k + 1 + (j + 1) from by omega] at he
       have hst := cmpGo_step he (by omega) (List.getElem?_eq_getElem hlt)
       (refine wk0 ?_;(repeat clear hK K);repeat refine kq fun K hK=>?_)
       have hk1 : k + 1 + (j + 1) = k + 1 + (j + 1) := rfl
       (refine aw_regionU 9 [(0, 0), (1, 0), (2, 0), (3, 1), (4, 0), (5, 0), (6, 0), (7, 0), (8, 1), (9, 2)] (by kernel_rfl) (by kernel_rfl) (by intro c st h; simp [ThenA, InBl, Ret] at h) ?_)
       (refine uk1 (an @e1 (an (cArcs_at hlt) (an (cArcs_at hlt0) (an @cArcs_len (an @darNe_d (an @arcEq_b @true_and)))))) ?_; repeat clear hK K)
       (refine aw_cnd ?_; intro X Y hX hY; simp only [go_sem])
       refine ⟨fun h => hX ?_, fun h => hY ?_⟩
       ·clear hX hY X Y
        have hne : ys[k + 1 + (j + 1)] ≠ ys[k + 1 + j] := by simpa using h
        clear h
        have hm1 : m < ys.length := by omega
        (repeat (first | (refine aw_seq ?_; intro K hK) | refine aw_block ?_ | refine aw_region ?_ | (refine lst_x rfl rfl ?_; intro K1 hK1; simp only [go_sem, cArcs_at hlt, cArcs_len, setC, cArcs_set hm1]; (first | refine hK1 _ ?_ | refine andk (hK1 _ ?_)); clear hK1 K1) | ((first | refine lst_nil ?_ | refine aw_skip ?_); refine hK _ ?_; clear hK K)))
        refine rnz ?_
        have hst2 := hst.2.1 hne
        have hpp : (ys.set m ys[k + 1 + (j + 1)]).getD (k + 1 + (j + 1)) (0, 0) = ys[k + 1 + (j + 1)] := by
         rw [List.getD, List.getElem?_set_ne (by omega), List.getElem?_eq_getElem hlt]; rfl
        refine hK _ (m + 1, j + 1, ys.set m ys[k + 1 + (j + 1)]) ⟨by simp [hyl], ?_, by simp only; omega, by simp only; omega, ?_⟩ (by simp only; omega) ?_
        ·intro x hx
         rcases List.mem_or_eq_of_mem_set hx with hx | rfl
         ·exact hys x hx
         ·exact hys _ (List.getElem_mem hlt)
        ·simp only
         rw [hpp, show k + 2 + (j + 1) = k + 1 + (j + 1) + 1 from by omega]
         exact hst2
        ·exact lmz
       ·clear hX hY X Y
        have heq : ys[k + 1 + (j + 1)] = ys[k + 1 + j] := by simpa using h
        clear h
        (refine wk0 ?_;(repeat clear hK K);repeat refine kq fun K hK=>?_)
        refine rnz ?_
        refine hK _ (m, j + 1, ys) ⟨hyl, hys, by simp only; omega, by simp only; omega, ?_⟩ (by simp only; omega) ?_
        ·have h1 := hst.1 heq
         have : ys.getD (k + 1 + (j + 1)) (0, 0) = ys[k + 1 + (j + 1)] := by simp [List.getD, hlt]
         simp only
         rw [this, show k + 2 + (j + 1) = k + 1 + (j + 1) + 1 from by omega]
         exact h1
        ·exact lmz
      ·clear hX hY X Y
       (refine ekz ?_;repeat clear hK K)
       have hend : ys.length ≤ k + 2 + j := by simp at h; omega
       have hfin := cmpGo_end he hend
       have hm2 : m < L.length := by omega
       (refine wk0 ?_;(repeat clear hK K);repeat refine kq fun K hK=>?_)
       refine lst_cons rfl ?_; intro K1 hK1
       refine stp_clear (n := L.length - m) (off := m) (k := 2) (id := 0) rfl rfl Try.underlying64 ty66 (by simp only [go_sem]) rfl (by omega) rfl rfl (by simp only [cArcs_len]; omega) ?_
       intro zs hz1 hz2
       have hset : setC (cArcs ys) (m * 2) zs = cArcs (ys.take m) ++ zs := by
        rw [setC_app _ _ _ (by rw [cArcs_len]; omega), cArcs_take]
       simp only [hset, List.set_cons_zero, go_sem]
       refine hK1 _ ?_; clear hK1 K1
       (refine wk0 ?_;(repeat clear hK K);repeat refine kq fun K hK=>?_)
       refine rq0 Try.results44 ?_
       have hc : cmpA L = ys.take m := hfin
       rw [hc]
       refine ⟨by rw [List.length_take, Nat.min_eq_left (by omega)], zs, zs.map fun _ => Tr.v (.int .i64 0), ?_, fun h0 => by rw [h0] at h2; simp at h2, rfl⟩
       have : zs = zs.map id := by simp
       rw [this, List.map_map]
       exact Fz.map fun c hc => by
        have := hz2 c hc
        simp at this
        subst this
        exact .inl rfl
    ·clear hX hY X Y
     have hne : L[k + 1] ≠ L[k] := by simpa using h
     clear h
     (refine wk0 ?_;(repeat clear hK K);repeat refine kq fun K hK=>?_)
     refine rnz ?_
     refine hK _ (k + 1) ⟨hlt, ?_⟩ (by omega) ?_
     ·have h1 := hst.2.1 hne
      rw [hst.2.2 hne rfl] at h1
      have : L.getD (k + 1) (0, 0) = L[k + 1] := by simp [List.getD, hlt]
      rw [this]
      exact h1
     ·exact lmz
   ·have hge : k + 1 = L.length := by simp at h; omega
    clear hX hY X Y
    (refine ekz ?_;repeat clear hK K)
    (refine wk0 ?_;(repeat clear hK K);repeat refine kq fun K hK=>?_)
    refine rq0 Try.results44 ?_
    have hc : cmpA L = L := by rw [he, hge]; simp [cmpGo]
    rw [hc]
    exact ⟨rfl, [], [], trivial, fun _ => rfl, by simp⟩

theorem le_raise {s : ST} (i j n : Nat) {ri : Row} {k : Nat × Nat} {cs : List Tr} (hi : s.hp[i]? = some (.r ri)) (hj : ri.cells[j]? = some (.o k cs)) (hn : cs.length = n * k.1) (hk : 0 < k.1) :
  Le s { s with hp := s.hp.set i (Ob.r { ri with cells := ri.cells.set j (.s s.hp.length n) }) ++ [Ob.r ⟨k.2, k.1, true, cs.map C.ofTr⟩] } := by
 rintro M0 w0 a w ⟨g, hpp, hR⟩
 have hr := hR.hr
 have hlt : i < s.hp.length := (List.getElem?_eq_some_iff.1 hi).1
 have hjl : j < ri.cells.length := (List.getElem?_eq_some_iff.1 hj).1
 have self : (s.hp.set i (Ob.r { ri with cells := ri.cells.set j (.s s.hp.length n) }) ++ [Ob.r ⟨k.2, k.1, true, cs.map C.ofTr⟩])[i]? = some (.r { ri with cells := ri.cells.set j (.s s.hp.length n) }) := by
  rw [List.getElem?_append_left (by simpa using hlt)]; simp [hlt]
 have newr : (s.hp.set i (Ob.r { ri with cells := ri.cells.set j (.s s.hp.length n) }) ++ [Ob.r ⟨k.2, k.1, true, cs.map C.ofTr⟩])[s.hp.length]? = some (.r ⟨k.2, k.1, true, cs.map C.ofTr⟩) := by
  rw [List.getElem?_append_right (by simp)]; simp
 have other : ∀ q, q ≠ i → q ≠ s.hp.length → (s.hp.set i (Ob.r { ri with cells := ri.cells.set j (.s s.hp.length n) }) ++ [Ob.r ⟨k.2, k.1, true, cs.map C.ofTr⟩])[q]? = s.hp[q]? := fun q h1 h2 => by
  rcases Nat.lt_or_ge q s.hp.length with h | h
  ·rw [List.getElem?_append_left (by simpa using h), List.getElem?_set_ne (Ne.symm h1)]
  ·rw [List.getElem?_eq_none (by simp; omega), List.getElem?_eq_none h]
 have hlen : (s.hp.set i (Ob.r { ri with cells := ri.cells.set j (.s s.hp.length n) }) ++ [Ob.r ⟨k.2, k.1, true, cs.map C.ofTr⟩]).length = s.hp.length + 1 := by simp
 have hid : i ≠ s.hp.length := by omega
 have cel : ∀ q c, (ri.cells.set j (.s s.hp.length n))[q]? = some c → (q = j ∧ c = .s s.hp.length n) ∨ (q ≠ j ∧ ri.cells[q]? = some c) := by
  intro q c hq
  by_cases e : q = j
  ·subst e; rw [List.getElem?_set_self hjl] at hq; cases hq; exact .inl ⟨rfl, rfl⟩
  ·rw [List.getElem?_set_ne (Ne.symm e)] at hq; exact .inr ⟨e, hq⟩
 have noo : ∀ (t : Tr) (k : Nat × Nat) (cs : List Tr), C.ofTr t ≠ .o k cs := fun t k cs => by cases t <;> simp [C.ofTr]
 obtain ⟨cap, hcap⟩ : ∃ cap, (cs = [] ∧ cap = 0 ∨ cs ≠ [] ∧ cap ≠ 0) ∧ ∃ u, (∀ arr : Array Value, w.heap[g.γ (.ob i)]? = some (.cells arr ri.e (0, 0)) → arr[j]? = some u) ∧ n ≤ cap ∧ (∃ A, u = .slice A n cap ∧ (cap ≠ 0 → A = some ⟨g.γ (.cl i j), 0, none⟩) ∧ ∀ a, A = some a → a.block < w.heap.size) ∧
   (cap ≠ 0 → cap ≤ 9223372036854775807 ∧ ∃ arr2 : Array Value, w.heap[g.γ (.cl i j)]? = some (.cells arr2 k.2 (0, 0)) ∧ arr2.size = cap * k.1 ∧ ∀ (q : Nat) (t : Tr), cs[q]? = some t → ∃ v, arr2[q]? = some v ∧ Rd (Ow s.hp g) w t v) := by
  rcases hr.row i ri hi with ⟨_, k2⟩ | ⟨k1, k2, arr, k3, k4, k5, k6, k7⟩
  ·rw [k2] at hj; simp at hj
  obtain ⟨u, u1, u2⟩ := k7 j _ hj
  have hu : ∀ arr2 : Array Value, w.heap[g.γ (.ob i)]? = some (.cells arr2 ri.e (0, 0)) → arr2[j]? = some u := fun arr2 h2 => by
   rw [k3] at h2; cases h2; exact u1
  rcases u2 with ⟨h1, A, h2, h3⟩ | ⟨h1, n2, c, arr2, h2, h3, h4, h5, h6, h7, h8⟩
  ·have hn0 : n = 0 := by
    rw [h1] at hn
    rcases Nat.eq_zero_or_pos n with h | h
    ·exact h
    ·have := Nat.mul_pos h hk; simp at hn; omega
   exact ⟨0, .inl ⟨h1, rfl⟩, u, hu, by omega, ⟨A, by rw [h2, hn0], fun h => absurd rfl h, h3⟩, fun h => absurd rfl h⟩
  ·have hn2 : n2 = n := Nat.eq_of_mul_eq_mul_right hk (h3.symm.trans hn)
   subst hn2
   have hb : g.γ (.cl i j) < w.heap.size := (Array.getElem?_eq_some_iff.1 h6).1
   have hc0 : c ≠ 0 := by
    intro h0
    have : n2 = 0 := by omega
    rw [this] at h3
    exact h1 (List.length_eq_zero_iff.1 (by simpa using h3))
   exact ⟨c, .inr ⟨h1, hc0⟩, u, hu, h4, ⟨_, h2, fun _ => rfl, fun a ha => by cases ha; exact hb⟩, fun _ => ⟨h5, arr2, h6, h7, h8⟩⟩
 obtain ⟨hcc, u, hu, hnc, ⟨A, hA1, hA2, hA3⟩, hown⟩ := hcap
 generalize hh : s.hp.set i (Ob.r { ri with cells := ri.cells.set j (.s s.hp.length n) }) ++ [Ob.r ⟨k.2, k.1, true, cs.map C.ofTr⟩] = hp' at *
 let g' : Gh := ⟨fun ℓ => if ℓ = .ob s.hp.length then g.γ (.cl i j) else g.γ ℓ, fun q => if q = s.hp.length then cap else g.κ q, g.M⟩
 have gs : g'.γ (.ob s.hp.length) = g.γ (.cl i j) := if_pos rfl
 have gn : ∀ ℓ, ℓ ≠ .ob s.hp.length → g'.γ ℓ = g.γ ℓ := fun ℓ h => if_neg h
 have ks : g'.κ s.hp.length = cap := if_pos rfl
 have kn : ∀ q, q ≠ s.hp.length → g'.κ q = g.κ q := fun q h => if_neg h
 have src : ∀ ℓ, Lv hp' g' ℓ → (ℓ = .ob s.hp.length ∧ Lv s.hp g (.cl i j)) ∨ (ℓ ≠ .ob s.hp.length ∧ ℓ ≠ .cl i j ∧ Lv s.hp g ℓ) := by
  intro ℓ hl
  cases ℓ with
  | ob q =>
   by_cases hq : q = s.hp.length
   ·subst hq
    refine .inl ⟨rfl, ri, k, cs, hi, hj, ?_⟩
    rcases hl with ⟨r2, _, e2⟩ | ⟨kv, e1⟩
    ·rw [ks] at e2
     rcases hcc with ⟨_, h0⟩ | ⟨h0, _⟩
     ·exact absurd h0 e2
     ·exact h0
    ·rw [newr] at e1; cases e1
   ·refine .inr ⟨by simpa using hq, by simp, ?_⟩
    by_cases hqi : q = i
    ·subst hqi
     rcases hl with ⟨r2, _, e2⟩ | ⟨kv, e1⟩
     ·exact .inl ⟨ri, hi, by rw [kn _ hq] at e2; exact e2⟩
     ·rw [self] at e1; cases e1
    ·rcases hl with ⟨r2, e1, e2⟩ | ⟨kv, e1⟩
     ·exact .inl ⟨r2, by rw [← other q hqi hq]; exact e1, by rw [kn _ hq] at e2; exact e2⟩
     ·exact .inr ⟨kv, by rw [← other q hqi hq]; exact e1⟩
  | cl q j2 =>
   obtain ⟨r2, k2, cs2, e1, e2, e3⟩ := hl
   by_cases hq : q = s.hp.length
   ·subst hq
    rw [newr] at e1
    cases e1
    simp only [List.getElem?_map, Option.map_eq_some_iff] at e2
    obtain ⟨t, _, ht⟩ := e2
    exact absurd ht (noo _ _ _)
   ·by_cases hqi : q = i
    ·subst hqi
     rw [self] at e1
     cases e1
     rcases cel j2 _ e2 with ⟨_, h⟩ | ⟨h0, h⟩
     ·cases h
     ·exact .inr ⟨by simp, by simp [h0], ri, k2, cs2, hi, h, e3⟩
    ·exact .inr ⟨by simp, by simp [hqi], r2, k2, cs2, by rw [← other q hqi hq]; exact e1, e2, e3⟩
 have ow : ∀ b, Ow hp' g' b → Ow s.hp g b := by
  rintro b (ho | ⟨ℓ, hl, e⟩)
  ·exact .inl ho
  ·rcases src ℓ hl with ⟨rfl, h1⟩ | ⟨h0, _, h1⟩
   ·rw [gs] at e; exact .inr ⟨_, h1, e⟩
   ·rw [gn _ h0] at e; exact .inr ⟨_, h1, e⟩
 have nbn : ∀ q, Bn s.hp q → q ≠ s.hp.length := fun q ⟨o, h, _⟩ e => by subst e; simp at h
 have hm : Mo g s.hp w g' hp' w (fun _ => True) := by
  refine ⟨fun q hq => ⟨?_, gn _ (by simpa using nbn q hq), kn _ (nbn q hq)⟩, fun b _ ho => ow b ho, Nat.le_refl _, fun _ _ _ => rfl, fun q _ hq r2 j2 k2 cs2 e1 e2 => ?_⟩
  ·by_cases e : q = i
   ·subst e; exact ⟨_, self, rfl⟩
   ·have hn := nbn q hq
    obtain ⟨o, h1, h2⟩ := hq
    exact ⟨o, by rw [other q e hn]; exact h1, h2⟩
  ·have hn := nbn q hq
   by_cases e : q = i
   ·subst e
    rw [self] at e1
    cases e1
    rcases cel j2 _ e2 with ⟨_, h⟩ | ⟨_, h⟩
    ·cases h
    ·exact ⟨ri, hi, h, fun _ => rfl⟩
   ·exact ⟨r2, by rw [← other q e hn]; exact e1, e2, fun _ => rfl⟩
 refine ⟨g', ⟨by show s.pin ≤ hp'.length; have := hpp.1; omega, hpp.2.trans ⟨rfl, fun q hq => ?_⟩⟩, hR.mo hm ?_ (fun ℓ hl => ?_) hR.fp⟩
 ·have : q ≠ s.hp.length := by have := hpp.1; omega
  exact ⟨gn _ (by simpa using this), kn _ this⟩
 ·refine ⟨hr.ml, fun ℓ hl => ?_, fun ℓ ℓ' h1 h2 he => ?_, fun q r2 e1 => ?_, fun q kv e1 => ?_, hm.gl hr.gl⟩
  ·rcases src ℓ hl with ⟨rfl, h1⟩ | ⟨h0, _, h1⟩
   ·rw [gs]; exact hr.md _ h1
   ·rw [gn _ h0]; exact hr.md _ h1
  ·rcases src ℓ h1 with ⟨rfl, a1⟩ | ⟨a0, a2, a1⟩ <;> rcases src ℓ' h2 with ⟨rfl, b1⟩ | ⟨b0, b2, b1⟩
   ·rfl
   ·rw [gs, gn _ b0] at he
    exact absurd (hr.inj _ _ a1 b1 he).symm b2
   ·rw [gs, gn _ a0] at he
    exact absurd (hr.inj _ _ a1 b1 he) a2
   ·rw [gn _ a0, gn _ b0] at he
    exact hr.inj _ _ a1 b1 he
  ·by_cases hq : q = s.hp.length
   ·subst hq
    rw [newr] at e1
    cases e1
    rcases hcc with ⟨h0, h1⟩ | ⟨h0, h1⟩
    ·exact .inl ⟨by rw [ks, h1], by rw [h0]; rfl⟩
    ·obtain ⟨m1, arr2, m2, m3, m4⟩ := hown h1
     refine .inr ⟨by rw [ks]; exact h1, fun _ h => h0 (by simpa using h), arr2, by rw [gs]; exact m2, ?_, by rw [ks]; exact m3, by rw [ks]; exact m1, fun q c hq => ?_⟩
     ·simp only [List.length_map]; rw [hn, m3]; exact Nat.mul_le_mul_right _ hnc
     ·simp only [List.getElem?_map, Option.map_eq_some_iff] at hq
      obtain ⟨t, ht, rfl⟩ := hq
      obtain ⟨v, v1, v2⟩ := m4 q t ht
      refine ⟨v, v1, ?_⟩
      have h3 : CR g' hp' w (C.ofTr t) v := ofTr_cr (hm.rd v2)
      cases t with
      | v x => exact h3
      | l k2 cs2 => exact h3
   ·by_cases e : q = i
    ·subst e
     rw [self] at e1
     cases e1
     rcases hr.row q ri hi with ⟨k1, k2⟩ | ⟨k1, k2, arr, k3, k4, k5, k6, k7⟩
     ·rw [k2] at hj; simp at hj
     ·refine .inr ⟨by rw [kn _ hq]; exact k1, fun h1 h2 => k2 h1 (List.length_eq_zero_iff.1 (by rw [← List.length_set (i := j) (a := C.s s.hp.length n)]; exact List.length_eq_zero_iff.2 h2)), arr, by rw [gn _ (by simpa using hq)]; exact k3, by simpa using k4, by rw [kn _ hq]; exact k5, by rw [kn _ hq]; exact k6, fun j2 c hj2 => ?_⟩
      rcases cel j2 c hj2 with ⟨rfl, rfl⟩ | ⟨hne, h⟩
      ·refine ⟨u, hu arr k3, ?_⟩
       exact ⟨⟨_, newr, rfl⟩, by rw [ks]; exact hnc, A, by rw [ks]; exact hA1, fun h => by rw [gs]; exact hA2 (by rw [ks] at h; exact h), hA3⟩
      ·obtain ⟨v, v1, v2⟩ := k7 j2 c h
       exact ⟨v, v1, CellR.mo hm v2 (fun k3 cs3 hc _ => ⟨gn _ (by simp), rfl⟩)⟩
    ·rw [other q e hq] at e1
     exact RowR.mo hm e1 (hr.row q r2 e1) (fun _ => rfl) (fun _ _ _ _ _ => ⟨gn _ (by simp), rfl⟩)
  ·by_cases hq : q = s.hp.length
   ·subst hq; rw [newr] at e1; cases e1
   ·by_cases e : q = i
    ·subst e; rw [self] at e1; cases e1
    ·rw [other q e hq] at e1
     exact MpR.mo hm e1 (hr.mp q kv e1) rfl
 ·rcases src ℓ hl with ⟨rfl, h1⟩ | ⟨h0, _, h1⟩
  ·rw [gs]; exact hR.new _ h1
  ·rw [gn _ h0]; exact hR.new _ h1
end Go.Proofs.Ytahnebicgbjonaa
