/- The runner, fifth part: its answers hold. -/
import Derived.Test.YtglchakimolfdaaDoorMit
namespace Go.Proofs.YtglchakimolfdaaDoor
set_option linter.unusedVariables false
set_option linter.unusedSimpArgs false
open Go.RowKit

def KK (k : RS → Ans) : ST → Prop := fun st => ∃ rs, RR rs st ∧ k rs = .ok
def KQ (Q : Exit → RS → Ans) : Exit → ST → Prop := fun e st => ∃ rs, RR rs st ∧ Q e rs = .ok
theorem condB {b : Bool} {x : Ans} {l : List Nat} (h : (bif b then x else .bad l) = .ok) : b = true ∧ x = .ok := by
 cases b with
 | false => cases h
 | true => exact ⟨rfl, h⟩
theorem dok_of {o : Oper} {n : Nat} (h : ∀ e, o.dst = some e → e < n) : dok o n = true := by
 unfold dok
 split
 ·rename_i d hd; simpa using h d hd
 ·rfl
section
variable {P : Program} {T : Tb} {rs : RS} {st : ST} {o : Oper} {k : RS → Ans}
theorem put_kk (hR : RR rs st) {x : AV} (h : rs.put o.dst x k = .ok) : dok o st.n = true ∧ KK k (st.put o.dst x) := by
 obtain ⟨h1, rs', h2, h3⟩ := RS.put_ok hR h
 exact ⟨dok_of h1, rs', h3, h2⟩
theorem push_put (hR : RR rs st) {ob : Ob} {f : Nat → AV} (h : (fN rs.hn fun hn => rs.push ob fun rs => rs.put o.dst (f hn) k) = .ok) : dok o st.n = true ∧ KK k ({ st with hp := st.hp ++ [ob] }.put o.dst (f st.hp.length)) := by
 rw [fN_eq] at h
 obtain ⟨rs1, h1, h2⟩ := RS.push_ok hR h
 obtain ⟨h3, rs2, h4, h5⟩ := RS.put_ok h2 h1
 rw [hR.2.2.1]
 exact ⟨dok_of h3, rs2, h5, h4⟩
theorem step_d (hT : TbOk P T) (hR : RR rs st) {v : AV} (hd : rD T o.op rs.ev = some v) (h : rs.put o.dst v k = .ok) : Stp P o st (KK k) := by
 obtain ⟨h1, h2⟩ := put_kk hR h
 refine stp_d h1 ?_
 obtain ⟨c, h3, h4⟩ := rD_ok hT hd
 unfold evD
 rw [hR.ev, h3]
 exact ⟨h4, h2⟩
theorem rLoad_ok (hT : TbOk P T) (hR : RR rs st) {t : TypeId} {x : Operand} {v : AV} (h : rLoad T rs t x = some v) : ∃ c, lLoad P st.ev st.hp t x = some (c, v) ∧ c := by
 unfold rLoad at h
 unfold lLoad
 split at h
 ·rename_i y id off hy hx
  rw [hR.ev]
  simp only [hT.t hy, hx]
  split at h
  ·rename_i e z sl cells hrow
   have hrow' : st.hp[id]? = some (.r ⟨e, z, sl, cells⟩) := (hR.2.1 id).trans hrow
   have hok : cells.all C.pl = true := hR.2.2.2.2.2 id _ hrow
   simp only [hrow']
   cases hag : y.agg with
   | true =>
    rw [hag] at h
    simp only [cond_true] at h
    obtain ⟨hc, rfl⟩ := condS h
    simp only [bltT, Bool.and_eq_true, decide_eq_true_eq, Nat.ble_eq] at hc
    refine ⟨_, rfl, hc.1, hc.2, ?_⟩
    rw [List.all_eq_true] at hok ⊢
    exact fun c hc => hok c (List.mem_of_mem_drop (List.mem_of_mem_take hc))
   | false =>
    rw [hag] at h
    simp only [cond_false] at h
    simp only [Bool.false_eq_true, if_false]
    cases hc : cells[off]? with
    | none => rw [hc] at h; cases h
    | some c =>
     rw [hc] at h
     cases h
     have hpl := List.all_eq_true.1 hok c (List.mem_of_getElem? hc)
     cases c <;> first | exact ⟨True, rfl, trivial⟩ | cases hpl
  ·cases h
 ·rename_i y cs off hy hx
  rw [hR.ev]
  simp only [hT.t hy, hx]
  cases hag : y.agg with
  | true =>
   rw [hag] at h
   simp only [cond_true] at h
   obtain ⟨hc, rfl⟩ := condS h
   simp only [Nat.ble_eq] at hc
   exact ⟨_, rfl, hc⟩
  | false =>
   rw [hag] at h
   simp only [cond_false] at h
   simp only [Bool.false_eq_true, if_false]
   cases hc : cs[off]? with
   | none => rw [hc] at h; cases h
   | some c =>
    rw [hc] at h
    cases h
    exact ⟨True, rfl, trivial⟩
 ·cases h
theorem step_l (hT : TbOk P T) (hR : RR rs st) {t : TypeId} {x : Operand} {v : AV} (ho : o.op = .load t x) (hl : rLoad T rs t x = some v) (h : rs.put o.dst v k = .ok) : dok o st.n = true ∧ evL P o st (KK k) := by
 obtain ⟨h1, h2⟩ := put_kk hR h
 refine ⟨h1, ?_⟩
 obtain ⟨c, h3, h4⟩ := rLoad_ok hT hR hl
 unfold evL
 simp only [ho, lOp, h3]
 exact ⟨h4, h2⟩
theorem rBox_ok (hT : TbOk P T) {ev : Operand → AV} {op : Op} {ob : Ob} {f : Nat → AV} (h : rBox T ev op = some (ob, f)) : ∃ c, aOp P op ev = some (c, ob, f) ∧ c := by
 unfold rBox at h
 split at h
 ·rename_i e x
  simp only [aOp, aBox]
  split at h
  ·rename_i y hx
   obtain ⟨hc, he⟩ := condS h
   simp only [bltT, Bool.and_eq_true, decide_eq_true_eq] at hc
   cases he
   simp only [hx]
   refine ⟨True, ?_, trivial⟩
   rw [if_pos]
   simp [hc.1, hc.2.1, hc.2.2]
  ·cases h
 ·rename_i e
  simp only [aOp, aAlloc]
  split at h
  ·rename_i y hy
   obtain ⟨hc, he⟩ := condS h
   simp only [bltT, decide_eq_true_eq] at hc
   cases he
   simp only [hT.t hy]
   exact ⟨True, by rw [if_pos hc], trivial⟩
  ·cases h
 ·rename_i t len parts
  simp only [aOp, aLit]
  split at h
  ·rename_i y hy
   simp only [hT.t hy]
   split at h
   ·rename_i z hk hz
    simp only [hk, hT.t hz]
    split at h
    ·rename_i cs hf
     simp only [hf]
     obtain ⟨hc, he⟩ := condS h
     simp only [bltT, beqT, Bool.and_eq_true, decide_eq_true_eq, Nat.ble_eq] at hc
     cases he
     refine ⟨True, ?_, trivial⟩
     rw [if_pos]
     obtain ⟨c1, c2, c3, c4, c5, c6⟩ := hc
     simp [c1, c2, c3, c4, c5, c6]
    ·cases h
   ·cases h
  ·cases h
 ·cases h
  exact ⟨True, rfl, trivial⟩
 ·cases h
theorem rMake_ok (hT : TbOk P T) {ev : Operand → AV} {t : TypeId} {l c : Operand} {ob : Ob} {f : Nat → AV} (h : rMake T ev t l c = some (ob, f)) : ∃ p, aMakeV P ev t l c = some (p, ob, f) ∧ p := by
 unfold rMake at h
 unfold aMakeV
 split at h
 ·rename_i y hy
  simp only [hT.t hy]
  split at h
  ·rename_i z hk hz
   simp only [hk, hT.t hz]
   split at h
   ·rename_i k1 n k2 m h1 h2
    simp only [h1, h2]
    obtain ⟨hc, he⟩ := condS h
    simp only [bltT, beqT, Bool.and_eq_true, decide_eq_true_eq] at hc
    cases he
    obtain ⟨c1, c2, c3⟩ := hc
    refine ⟨_, ?_, c3⟩
    rw [if_pos]
    simp [c1, c2]
   ·cases h
  ·cases h
 ·cases h
theorem step_a (hT : TbOk P T) (hR : RR rs st) {ob : Ob} {f : Nat → AV} (hb : rBox T rs.ev o.op = some (ob, f)) (h : (fN rs.hn fun hn => rs.push ob fun rs => rs.put o.dst (f hn) k) = .ok) : dok o st.n = true ∧ evA P o st (KK k) := by
 obtain ⟨h1, h2⟩ := push_put hR h
 refine ⟨h1, ?_⟩
 obtain ⟨c, h3, h4⟩ := rBox_ok hT hb
 unfold evA
 rw [hR.ev, h3]
 exact ⟨h4, h2⟩
theorem step_mk (hT : TbOk P T) (hR : RR rs st) {t : TypeId} {l c : Operand} {ob : Ob} {f : Nat → AV} (ho : o.op = .makeSlice t l c) (hb : rMake T rs.ev t l c = some (ob, f)) (h : (fN rs.hn fun hn => rs.push ob fun rs => rs.put o.dst (f hn) k) = .ok) : Stp P o st (KK k) := by
 obtain ⟨h1, h2⟩ := push_put hR h
 obtain ⟨p, h3, h4⟩ := rMake_ok hT hb
 refine stp_mk h1 ho ?_
 unfold evMk
 rw [hR.ev, h3]
 exact ⟨h4, h2⟩
theorem step_s (hT : TbOk P T) (hR : RR rs st) {t : TypeId} {x v : Operand} (ho : o.op = .store t x v) (h : rStore T rs t x v (fun rs => rs.put o.dst .u k) = .ok) : Stp P o st (KK k) := by
 unfold rStore at h
 split at h
 ·rename_i y id off vv hy hx hv
  split at h
  ·rename_i e z sl cells hrow
   rw [Bool.cond_eq_ite] at h
   split at h
   ·rename_i hc
    simp only [bltT, beqT, Bool.and_eq_true, decide_eq_true_eq, Nat.ble_eq] at hc
    obtain ⟨rs1, h1, h2⟩ := RS.upd_ok hR h
    obtain ⟨h3, h4⟩ := put_kk h2 h1
    refine stp_s (o := o) h3 ho ?_
    unfold evS sOp
    have hrow' : st.hp[id]? = some (.r ⟨e, z, sl, cells⟩) := (hR.2.1 id).trans hrow
    simp only [hR.ev, hT.t hy, hx, hv, hrow']
    exact ⟨hc, h4⟩
   ·cases h
  ·cases h
 ·cases h
theorem rSrc_ok (hR : RR rs st) {z : Nat} {vx : AV} {news : List C} {m : Nat} (h : rSrc z rs vx = some (news, m)) : ∃ c, apSrc z st.hp vx = some (c, news, m) ∧ c := by
 unfold rSrc at h
 split at h
 ·cases h; exact ⟨True, rfl, trivial⟩
 ·rename_i id m
  split at h
  ·rename_i e q sl cells hrow
   have hrow' : st.hp[id]? = some (.r ⟨e, q, sl, cells⟩) := (hR.2.1 id).trans hrow
   obtain ⟨hc, he⟩ := condS h
   simp only [beqT, Bool.and_eq_true, decide_eq_true_eq, Nat.ble_eq] at hc
   cases he
   refine ⟨_, by simp only [apSrc, hrow'], hc⟩
  ·cases h
 ·obtain ⟨hc, he⟩ := condS h
  simp only [beqT, decide_eq_true_eq] at hc
  cases he
  exact ⟨_, rfl, hc⟩
 ·cases h
theorem step_ap (hT : TbOk P T) (hR : RR rs st) {args : Array Operand} {ts : Array TypeId} (ho : o.op = .call ⟨.builtin .append, args, ts⟩) (h : rAppend T rs o.dst ⟨.builtin .append, args, ts⟩ k = .ok) : Stp P o st (KK k) := by
 unfold rAppend at h
 simp only at h
 split at h
 ·rename_i s x t t'
  rw [Bool.cond_eq_ite] at h
  split at h
  rotate_left
  ·cases h
  rename_i htt
  have htt : t = t' := by simpa [beqT] using htt
  subst htt
  split at h
  rotate_left
  ·cases h
  rename_i y hy
  split at h
  rotate_left
  ·cases h
  rename_i z hk hz
  have ap0 : ∀ {b : C}, rs.ev s = .a (.c b) → (b = .v (.slice none 0 0) ∨ ∃ id n, b = .s id n) → (rs.ev x = .a (.c (.v (.slice none 0 0))) ∨ (∃ id, rs.ev x = .a (.c (.s id 0))) ∨ ∃ k, 0 < k ∧ rs.ev x = .a (.c (.t k []))) → rs.put o.dst (.a (.c b)) k = .ok → Stp P o st (KK k) := by
   intro b h1 h2 h3 h4
   obtain ⟨h5, h6⟩ := put_kk hR h4
   exact stp_ap0 h5 ho (hT.t hy) hk (hT.t hz) (by rw [hR.ev]; exact h1) h2 (by rw [hR.ev]; exact h3) h6
  split at h
  ·rename_i hx hs; exact ap0 hs (.inl rfl) (.inl hx) h
  ·rename_i id n hx hs; exact ap0 hs (.inr ⟨_, _, rfl⟩) (.inl hx) h
  ·rename_i id hx hs; exact ap0 hs (.inl rfl) (.inr (.inl ⟨_, hx⟩)) h
  ·rename_i id id' n hx hs; exact ap0 hs (.inr ⟨_, _, rfl⟩) (.inr (.inl ⟨_, hx⟩)) h
  ·rename_i k0 hx hs; exact ap0 hs (.inl rfl) (.inr (.inr ⟨_, Nat.succ_pos _, hx⟩)) h
  ·rename_i k0 id n hx hs; exact ap0 hs (.inr ⟨_, _, rfl⟩) (.inr (.inr ⟨_, Nat.succ_pos _, hx⟩)) h
  ·rename_i hs _ _ _
   split at h
   rotate_left
   ·cases h
   rename_i news m hsrc
   rw [Bool.cond_eq_ite] at h
   split at h
   rotate_left
   ·cases h
   rename_i hc
   simp only [bltT, beqT, Bool.and_eq_true, decide_eq_true_eq, Nat.ble_eq] at hc
   obtain ⟨c1, c2, c3, c4⟩ := hc
   obtain ⟨cs, s1, s2⟩ := rSrc_ok hR hsrc
   obtain ⟨h1, h2⟩ := push_put (f := fun hn => .a (.c (.s hn m))) hR h
   refine stp_ap h1 ho ?_
   unfold evAp apOp
   simp only [hT.t hy, hk, hT.t hz, hR.ev, s1, hs, apBase]
   rw [if_pos (by simp [c1, c2])]
   exact ⟨⟨s2, trivial, c3, c4⟩, h2⟩
  ·rename_i id n hs _ _ _
   split at h
   rotate_left
   ·cases h
   rename_i news m e q sl cells hsrc hrow
   rw [Bool.cond_eq_ite] at h
   split at h
   rotate_left
   ·cases h
   rename_i hc
   simp only [bltT, beqT, Bool.and_eq_true, decide_eq_true_eq, Nat.ble_eq] at hc
   obtain ⟨c1, c2, c3, c4, c5, c6, c7, c8⟩ := hc
   obtain ⟨cs, s1, s2⟩ := rSrc_ok hR hsrc
   have hrow' : st.hp[id]? = some (.r ⟨e, q, sl, cells⟩) := (hR.2.1 id).trans hrow
   rw [fN_eq] at h
   obtain ⟨rs1, h1, h2⟩ := RS.upd_ok hR h
   obtain ⟨rs2, h3, h4⟩ := RS.push_ok h2 h1
   obtain ⟨h5, h6⟩ := put_kk h4 h3
   refine stp_ap (o := o) h5 ho ?_
   unfold evAp apOp
   subst c6
   simp only [hT.t hy, hk, hT.t hz, hR.ev, s1, hs, apBase, hrow']
   rw [if_pos (by simp [c1, c2])]
   refine ⟨⟨s2, ⟨c5, by first | trivial | rfl, c7, .inl (by omega)⟩, c3, c4⟩, ?_⟩
   rw [hR.2.2.1]
   exact h6
  ·cases h
 ·cases h
theorem step_nil (hT : TbOk P T) (hR : RR rs st) {op : BinOp} {t yt : TypeId} {x : Operand} (ho : o.op = .binOp op t x (.const (.slice none 0 0)) yt) (h : rNil T rs o.dst op t x k = .ok) : Stp P o st (KK k) := by
 unfold rNil at h
 split at h
 rotate_left
 ·cases h
 rename_i y hy
 have known : ∀ {op : BinOp} {e : TypeId} {b : Bool}, o.op = .binOp op t x (.const (.slice none 0 0)) yt → P.underlying t = some (.slice e) → (op = .eql ∨ op = .neq) →
   ((b = true ∧ rs.ev x = .a (.c (.v (.slice none 0 0)))) ∨ (b = false ∧ ∃ id off n k, rs.ev x = .a (.c (.w id off n k)))) → rs.put o.dst (.b (if op = .eql then b else !b)) k = .ok → Stp P o st (KK k) := by
  intro op e b h1 h2 h3 h4 h5
  obtain ⟨h6, h7⟩ := put_kk hR h5
  exact stp_nilV h6 h1 h2 h3 (by rw [hR.ev]; exact h4) h7
 have both : ∀ {op : BinOp} {e : TypeId}, o.op = .binOp op t x (.const (.slice none 0 0)) yt → P.underlying t = some (.slice e) → (op = .eql ∨ op = .neq) →
   ((∃ id n, rs.ev x = .a (.c (.s id n))) ∨ ∃ k, rs.ev x = .a (.c (.t k []))) → (rs.put o.dst (.b true) k).and (fun _ => rs.put o.dst (.b false) k) = .ok → Stp P o st (KK k) := by
  intro op e h1 h2 h3 h4 h5
  obtain ⟨h6, h7⟩ := Ans.and_ok h5
  obtain ⟨q1, q2⟩ := put_kk hR h6
  obtain ⟨_, q3⟩ := put_kk hR h7
  have all : ∀ b : Bool, KK k (st.put o.dst (.b b)) := fun b => by cases b <;> assumption
  refine stp_nil q1 h1 h2 h3 ?_
  rw [hR.ev]
  rcases h4 with ⟨id, n, h4⟩ | ⟨k', h4⟩
  ·exact .inr ⟨id, n, h4, fun b _ => all _⟩
  ·exact .inl ⟨k', [], h4, fun b _ => all _⟩
 have pos : ∀ {op : BinOp} {e : TypeId} {id n : Nat}, o.op = .binOp op t x (.const (.slice none 0 0)) yt → P.underlying t = some (.slice e) → (op = .eql ∨ op = .neq) →
   rs.ev x = .a (.c (.s id (n + 1))) → rs.put o.dst (.b (if op = .eql then false else true)) k = .ok → Stp P o st (KK k) := by
  intro op e id n h1 h2 h3 h4 h5
  obtain ⟨q1, q2⟩ := put_kk hR h5
  refine stp_nil q1 h1 h2 h3 (.inr ⟨id, n + 1, by rw [hR.ev]; exact h4, fun b hb => ?_⟩)
  cases b with
  | true => exact absurd (hb rfl) (by omega)
  | false => exact q2
 have posT : ∀ {op : BinOp} {e : TypeId} {k' : Nat} {t0 : Tr} {cs : List Tr}, o.op = .binOp op t x (.const (.slice none 0 0)) yt → P.underlying t = some (.slice e) → (op = .eql ∨ op = .neq) →
   rs.ev x = .a (.c (.t k' (t0 :: cs))) → rs.put o.dst (.b (if op = .eql then false else true)) k = .ok → Stp P o st (KK k) := by
  intro op e k' t0 cs h1 h2 h3 h4 h5
  obtain ⟨q1, q2⟩ := put_kk hR h5
  refine stp_nil q1 h1 h2 h3 (.inl ⟨k', t0 :: cs, by rw [hR.ev]; exact h4, fun b hb => ?_⟩)
  cases b with
  | true => exact absurd (hb rfl) (by simp)
  | false => exact q2
 split at h
 ·rename_i hk
  have ht := tyOf.slice (hT.t hy) hk
  split at h
  ·rename_i hx; exact known (b := true) ho ht (.inl rfl) (.inl ⟨rfl, hx⟩) h
  ·rename_i hx; exact known (b := false) ho ht (.inl rfl) (.inr ⟨rfl, _, _, _, _, hx⟩) h
  ·rename_i hx; exact pos ho ht (.inl rfl) hx h
  ·rename_i hx; exact both ho ht (.inl rfl) (.inl ⟨_, _, hx⟩) h
  ·rename_i hx; exact both ho ht (.inl rfl) (.inr ⟨_, hx⟩) h
  ·rename_i hx; exact posT ho ht (.inl rfl) hx h
  ·cases h
 ·rename_i hk
  have ht := tyOf.slice (hT.t hy) hk
  split at h
  ·rename_i hx; exact known (b := true) ho ht (.inr rfl) (.inl ⟨rfl, hx⟩) h
  ·rename_i hx; exact known (b := false) ho ht (.inr rfl) (.inr ⟨rfl, _, _, _, _, hx⟩) h
  ·rename_i hx; exact pos ho ht (.inr rfl) hx h
  ·rename_i hx; exact both ho ht (.inr rfl) (.inl ⟨_, _, hx⟩) h
  ·rename_i hx; exact both ho ht (.inr rfl) (.inr ⟨_, hx⟩) h
  ·rename_i hx; exact posT ho ht (.inr rfl) hx h
  ·cases h
 ·cases h
theorem rArgs_ok : ∀ (l : List AV) (i : Nat) (t : Bt AV) (k : Bt AV → Ans), rArgs l i t k = .ok → ∃ t', k t' = .ok ∧ ∀ d, t'.get d = if i ≤ d then (match l[d - i]? with | some x => some x | none => t.get d) else t.get d
 | [], i, t, k, h => ⟨t, h, fun d => by simp⟩
 | x :: r, i, t, k, h => by
  simp only [rArgs, fAV_eq] at h
  obtain ⟨t1, h1, h2⟩ := Bt.set_ok _ _ _ _ _ h
  obtain ⟨t2, h3, h4⟩ := rArgs_ok r (i + 1) t1 k h1
  refine ⟨t2, h3, fun d => ?_⟩
  rw [h4, h2]
  by_cases e : d = i
  ·subst e; rw [if_neg (by omega)]; simp
  ·by_cases hl : i ≤ d
   ·obtain ⟨j, hj⟩ : ∃ j, d - i = j + 1 := ⟨d - i - 1, by omega⟩
    rw [if_pos (by omega), if_pos hl, if_neg e, hj, show d - (i + 1) = j from by omega]
    simp
   ·rw [if_neg (by omega), if_neg hl, if_neg e]
theorem rRes_ok (hT : TbOk P T) (hR : RR rs st) {l : List ResultVar} {r : AV} (h : rRes T rs l = some r) : ∃ c, resA P st l = some (c, r) ∧ c := by
 have hv : ∀ {v : ResultVar} {x : A0}, rResV T rs v = some x → ∃ c, resV P st v = some (c, x) ∧ c := by
  intro v x hv
  cases v with
  | tmp t =>
   simp only [rResV] at hv
   simp only [resV, hR.1]
   split at hv
   ·rename_i y hy; cases hv; simp only [hy]; exact ⟨True, rfl, trivial⟩
   ·cases hv
  | cell a t =>
   simp only [rResV] at hv
   split at hv
   ·rename_i y hy
    cases hv
    obtain ⟨c, h1, h2⟩ := rLoad_ok hT hR hy
    exact ⟨c, by simp only [resV, h1], h2⟩
   ·cases hv
 have hl : ∀ {l : List ResultVar} {xs : List A0}, rResL T rs l = some xs → ∃ c, resL P st l = some (c, xs) ∧ c := by
  intro l
  induction l with
  | nil => intro xs hx; cases hx; exact ⟨True, rfl, trivial⟩
  | cons v l ih =>
   intro xs hx
   simp only [rResL] at hx
   split at hx
   ·rename_i x ys h1 h2
    cases hx
    obtain ⟨c, e1, e2⟩ := hv h1
    obtain ⟨d, e3, e4⟩ := ih h2
    exact ⟨c ∧ d, by simp only [resL, e1, e3], e2, e4⟩
   ·cases hx
 unfold rRes at h
 split at h
 ·rename_i x hx
  cases h
  obtain ⟨c, h1, h2⟩ := hl hx
  exact ⟨c, by simp only [resA, h1], h2⟩
 ·rename_i xs hno hx
  cases h
  obtain ⟨c, h1, h2⟩ := hl hx
  refine ⟨c, ?_, h2⟩
  unfold resA
  rw [h1]
  cases xs with
  | nil => rfl
  | cons x ys =>
   cases ys with
   | nil => exact absurd rfl (hno x)
   | cons y ys => rfl
 ·cases h
theorem lst_skip {ops : Array Oper} {r : List Oper} {K : ST → Prop} {j d : Nat} {want : Bool} {v : Value} (hg : o.guard = some (j, want)) (hj : (ops[j]?).bind (·.dst) = some d) (ht : st.get d = .a (.c (.v v))) (hv : v ≠ .bool want) (hd : dok o st.n = true)
  (h : Lst P ops r (st.put o.dst (.a (.c (.v undef)))) K) : Lst P ops (o :: r) st K := by
 intro M0 w0 a w Q hR hN
 obtain ⟨g, hpp, hR'⟩ := hR
 refine wpList_step fun K' hK' => ?_
 have hw : Region.wanted o (yielded ops a.tmps) = false := by
  unfold Region.wanted
  rw [hg]
  have := hR'.tm d
  rw [ht] at this
  have hx : a.tmps.getD d undef = v := this
  rw [Array.getD_eq_getD_getElem?] at hx
  have hy : yielded ops a.tmps j ≠ some want := by
   unfold yielded
   rw [hj]
   simp only [Option.bind_some]
   cases hq : a.tmps[d]? with
   | none => simp
   | some u =>
    rw [hq] at hx
    simp only [Option.getD_some] at hx
    subst hx
    intro e
    split at e
    ·rename_i b hb
     simp only [Option.some.injEq] at hb e
     subst e
     exact hv hb
    ·cases e
  simpa using hy
 rw [hw]
 exact hK' _ _ (h M0 w0 _ w Q ⟨g, by cases o.dst <;> exact hpp, hR'.put (dok_lt hd) rfl⟩ hN)
def RcOk (P : Program) (rc : RC) : Prop := ∀ f c rs Q, rc f c rs Q = .ok → ∀ st, RR rs st → AW P c st (KQ Q)
theorem enter_ok (hT : TbOk P T) {rc : RC} (hrc : RcOk P rc) {tm : Bt AV} {hp : Bt Ob} {hn n pin : Nat} {f : FuncId} {args : List AV} {dst : Option Nat} (ins : List Ob) (h1 : ∀ i, ins[i]? = hp.get i) (h2 : ins.length = hn) (h3 : ∀ i o, hp.get i = some o → okOb o = true)
  (h : rEnter T rc ⟨tm, hp, hn, n, pin⟩ dst f args k = .ok)  : (∀ e, dst = some e → e < n) ∧ callable P f = true ∧ FC P f args ins (fun r outs => ∃ hp' hn', (∀ i, outs[i]? = hp'.get i) ∧ outs.length = hn' ∧ (∀ i o, hp'.get i = some o → okOb o = true) ∧ RS.put ⟨tm, hp', hn', n, pin⟩ dst r k = .ok) := by
 unfold rEnter at h
 split at h
 rotate_left
 ·cases h
 rename_i fn hf
 obtain ⟨hf, hcal⟩ := asc_all hT.fn hf
 split at h
 rotate_left
 ·cases h
 rename_i c hb
 simp only at h
 obtain ⟨hle, h⟩ := condB h
 simp only [Bool.and_eq_true, Nat.ble_eq] at hle
 obtain ⟨hdst, hle⟩ := hle
 obtain ⟨tm', h4, h5⟩ := rArgs_ok _ _ _ _ h
 have hAW := hrc f c ⟨tm', hp, hn, fn.ntmps, hn⟩ _ h4 { tm := enum 0 args, hp := ins, n := fn.ntmps, pin := ins.length } ⟨fun d => by
  show look (enum 0 args) d = _
  rw [look_enum, h5]
  simp only [Nat.zero_le, if_true, Nat.sub_zero, Bt.get_e]
  cases args[d]? <;> rfl, h1, h2, rfl, h2, h3⟩
 refine ⟨fun e he => by rw [he] at hdst; simpa [bltT] using hdst, hcal, ?_⟩
 refine fc_intro hf hb hle (aw_mono hAW ?_)
 rintro e st' ⟨rs', hR', hq⟩
 obtain ⟨hc, hq⟩ := condB hq
 simp only [beqT, Bool.and_eq_true, decide_eq_true_eq] at hc
 obtain ⟨c1, c2⟩ := hc
 split at hq
 rotate_left
 ·cases hq
 rename_i r hr
 obtain ⟨p, r1, r2⟩ := rRes_ok hT hR' hr
 refine ⟨(by cases e <;> first | exact .inl rfl | exact .inr rfl | cases c1), st', p, r, Le.refl _, (by rw [hR'.2.2.2.2.1, c2, h2]), r1, r2, rs'.hp, rs'.hn, hR'.2.1, hR'.2.2.1, hR'.2.2.2.2.2, hq⟩
theorem step_call (hT : TbOk P T) {rc : RC} (hrc : RcOk P rc) (hR : RR rs st) {fop : Operand} {args : Array Operand} {ts : Array TypeId} {f : FuncId} {ids : List Nat} (ho : o.op = .call ⟨.value fop, args, ts⟩) (hf : rs.ev fop = .a (.c (.f f ids)))
  (h : rEnter T rc rs o.dst f (args.toList.map rs.ev ++ clos ids) k = .ok) : Stp P o st (KK k) := by
 obtain ⟨tm, hp, hn, n, pin⟩ := rs
 obtain ⟨hd, hcal, hFC⟩ := enter_ok hT hrc st.hp hR.2.1 hR.2.2.1 hR.2.2.2.2.2 h
 rw [← hR.ev] at hFC
 have hdst : dok o st.n = true := dok_of (by rw [hR.2.2.2.1]; exact hd)
 refine stp_callAll hdst ho (by rw [hR.ev]; exact hf) hcal hFC ?_ ?_
 ·rintro r outs ⟨hp', hn', q1, q2, q3, q4⟩ i ob hi
  exact q3 i ob (by rw [← q1]; exact hi)
 ·rintro r outs ⟨hp', hn', q1, q2, q3, q4⟩
  exact (put_kk (rs := ⟨tm, hp', hn', n, pin⟩) (st := { st with hp := outs }) ⟨hR.1, q1, q2, hR.2.2.2.1, hR.2.2.2.2.1, q3⟩ q4).2
theorem step_or (hT : TbOk P T) (hR : RR rs st) {fop : Operand} {args : Array Operand} {ts : Array TypeId} {f : FuncId} {ids : List Nat} {r : AV} (ho : o.op = .call ⟨.value fop, args, ts⟩) (hf : rs.ev fop = .a (.c (.f f ids)))
  (hor : rOr T f (args.toList.map rs.ev ++ clos ids) = some r) (h : rs.put o.dst r k = .ok) : Stp P o st (KK k) := by
 unfold rOr at hor
 split at hor
 ·rename_i q hq
  obtain ⟨hcal, hall⟩ := asc_all hT.orc hq
  obtain ⟨h1, h2, h3⟩ := hall _ _ hor
  obtain ⟨h4, h5⟩ := put_kk hR h
  refine (stp_call0 (ids := ids) h3 h4 ho (by rw [hR.ev]; exact hf) hcal (by rw [hR.ev]; exact h1) ?_).stp
  rintro x outs ⟨rfl, rfl⟩
  rw [h2, show st.back [] [] = st by simp [ST.back, nbTm, setAll]]
  exact h5
 ·cases hor
theorem step_copy (hT : TbOk P T) (hR : RR rs st) {args : Array Operand} {ts : Array TypeId} (ho : o.op = .call ⟨.builtin .copy, args, ts⟩) (h : rCopy T rs o.dst ⟨.builtin .copy, args, ts⟩ k = .ok) : Stp P o st (KK k) := by
 unfold rCopy at h
 simp only at h
 split at h
 rotate_left
 ·cases h
 rename_i d s t t'
 split at h
 rotate_left
 ·cases h
 rename_i y hy
 split at h
 rotate_left
 ·cases h
 rename_i z hk hz
 split at h
 rotate_left
 ·cases h
 rename_i i off n j p m hd hs
 split at h
 rotate_left
 ·cases h
 rename_i e q sl cells e' q' sl' src hi hj
 obtain ⟨hc, h⟩ := condB h
 simp only [bltT, beqT, Bool.and_eq_true, decide_eq_true_eq, Nat.ble_eq] at hc
 obtain ⟨c1, c2, c3, c4, c5, c6, c7⟩ := hc
 obtain ⟨rs1, h1, h2⟩ := RS.upd_ok hR h
 obtain ⟨h3, h4⟩ := put_kk h2 h1
 rw [← hR.ev] at hd hs
 exact stp_copy (r := ⟨e, q, sl, cells⟩) (r' := ⟨e', q', sl', src⟩) h3 ho (hT.t hy) hk (hT.t hz) hd hs ((hR.2.1 i).trans hi) ((hR.2.1 j).trans hj) rfl c1 c2 rfl c5 c6 c7 h4
theorem step_clear (hT : TbOk P T) (hR : RR rs st) {args : Array Operand} {ts : Array TypeId} (ho : o.op = .call ⟨.builtin .clear, args, ts⟩) (h : rClear T rs o.dst ⟨.builtin .clear, args, ts⟩ k = .ok) : Stp P o st (KK k) := by
 unfold rClear at h
 simp only at h
 split at h
 rotate_left
 ·cases h
 rename_i x t
 split at h
 rotate_left
 ·cases h
 rename_i y hy
 split at h
 ·rename_i z k0 hk hz hx
  obtain ⟨h1, h2⟩ := put_kk hR h
  exact stp_clear0 h1 ho (hT.t hy) hk (Nat.succ_pos _) (by rw [hR.ev]; exact hx) h2
 ·rename_i z id off n q hk hz hx
  split at h
  ·rename_i e q' sl cells zv hi hzv
   obtain ⟨hc, h⟩ := condB h
   simp only [bltT, beqT, Bool.and_eq_true, decide_eq_true_eq, Nat.ble_eq] at hc
   obtain ⟨c1, rfl, c2, c3⟩ := hc
   obtain ⟨rs1, h1, h2⟩ := RS.upd_ok hR h
   obtain ⟨h3, h4⟩ := put_kk h2 h1
   refine stp_clear (r := ⟨e, q', sl, cells⟩) h3 ho (tyOf.slice (hT.t hy) hk) (hT.t hz) (by rw [hR.ev]; exact hx) ((hR.2.1 id).trans hi) c1 (by rw [hzv]; rfl) (by rw [hzv]; simpa using c2) c3 (fun zs hl hm => ?_)
   have : zs = List.replicate n (.v zv) := List.eq_replicate_iff.2 ⟨by simpa using hl, fun c hc => by
    have := hm c hc
    rw [hzv] at this
    simpa using this⟩
   rw [this]
   exact h4
  ·rename_i e q' sl cells hi hzv
   obtain ⟨hc, h⟩ := condB h
   simp only [bltT, beqT, Bool.and_eq_true, decide_eq_true_eq, Nat.ble_eq] at hc
   obtain ⟨c1, rfl, c3⟩ := hc
   obtain ⟨rs1, h1, h2⟩ := RS.upd_ok hR h
   obtain ⟨h3, h4⟩ := put_kk h2 h1
   refine stp_clear (r := ⟨e, q', sl, cells⟩) h3 ho (tyOf.slice (hT.t hy) hk) (hT.t hz) (by rw [hR.ev]; exact hx) ((hR.2.1 id).trans hi) c1 (by rw [hzv]; rfl) (by rw [hzv]; rfl) c3 (fun zs hl hm => ?_)
   have : zs = List.replicate (n * 2) (.v (.int .i64 0)) := List.eq_replicate_iff.2 ⟨hl, fun c hc => by
    have := hm c hc
    rw [hzv] at this
    simpa using this⟩
   rw [this]
   exact h4
  ·cases h
 ·cases h
theorem memN_iff {i : Nat} {l : List Nat} : memN i l = true ↔ i ∈ l := by
 induction l with
 | nil => simp [memN]
 | cons j r ih =>
  unfold memN
  cases h : i.beq j with
  | true => simp [Nat.eq_of_beq_eq_true h]
  | false =>
   have hne : i ≠ j := Nat.ne_of_beq_eq_false h
   simp [ih, hne]
theorem leftN_mem {seen : List Nat} {i : Nat} : ∀ (n : Nat) (acc : List Nat), i ∈ leftN seen n acc ↔ (i < n ∧ i ∉ seen) ∨ i ∈ acc := by
 intro n
 induction n with
 | zero => intro acc; simp [leftN]
 | succ n ih =>
  intro acc
  unfold leftN
  cases h : memN n seen with
  | true =>
   have hm := memN_iff.1 h
   simp only [cond_true, ih]
   constructor
   ·rintro (⟨h1, h2⟩ | h1)
    ·exact .inl ⟨by omega, h2⟩
    ·exact .inr h1
   ·rintro (⟨h1, h2⟩ | h1)
    ·by_cases e : i = n
     ·subst e; exact absurd hm h2
     ·exact .inl ⟨by omega, h2⟩
    ·exact .inr h1
  | false =>
   have hm : n ∉ seen := fun hx => by rw [memN_iff.2 hx] at h; cases h
   simp only [cond_false, ih, List.mem_cons]
   constructor
   ·rintro (⟨h1, h2⟩ | rfl | h1)
    ·exact .inl ⟨by omega, h2⟩
    ·exact .inl ⟨by omega, hm⟩
    ·exact .inr h1
   ·rintro (⟨h1, h2⟩ | h1)
    ·by_cases e : i = n
     ·exact .inr (.inl e)
     ·exact .inl ⟨by omega, h2⟩
    ·exact .inr (.inr h1)
theorem step_range (hT : TbOk P T) (hR : RR rs st) {t : TypeId} {x : Operand} (ho : o.op = .range t x) (h : rRange T rs o.dst t x k = .ok) : Stp P o st (KK k) := by
 unfold rRange at h
 split at h
 ·rename_i s id hs hx
  split at h
  ·rename_i kv hkv
   cases hit : isIt kv with
   | true => rw [hit] at h; cases h
   | false =>
    rw [hit] at h
    simp only [cond_false, fN_eq] at h
    have hp := push_put (f := fun hn => .a (.c (.p hn 0))) hR (by rw [fN_eq]; exact h)
    obtain ⟨kt, e, hu, _⟩ := asc_all hT.mp hs
    exact stp_range hu hp.1 ho (by rw [hR.ev]; exact hx) ((hR.2.1 id).trans hkv) hit hp.2
  ·cases h
 ·cases h
theorem rNextL_ok {id mid since : Nat} {seen : List Nat} {kv : List (Value × C)} {len : Nat} (hR : RR rs st) : ∀ l : List Nat, rNextL rs o.dst id mid since seen kv len k l = .ok → ∀ i ∈ l, ∃ p, kv[i]? = some p ∧ dok o st.n = true ∧ KK k ({ st with hp := st.hp.set id (.m (itKV (some mid) since (seen ++ [i]) len)) }.put o.dst (.tup [.c (.v (.bool true)), .c (.v p.1), .c p.2])) := by
 intro l
 induction l with
 | nil => intro _ i hi; simp at hi
 | cons j r ih =>
  intro h i hi
  unfold rNextL at h
  split at h
  ·rename_i p hp
   split at h
   ·rename_i hu
    rcases List.mem_cons.1 hi with rfl | hi
    ·obtain ⟨rs1, q1, q2⟩ := RS.upd_ok hR hu
     obtain ⟨q3, rs2, q4, q5⟩ := RS.put_ok q2 q1
     exact ⟨p, hp, dok_of q3, rs2, q5, q4⟩
    ·exact ih h i hi
   ·rename_i hu
    exact absurd h hu
  ·cases h
theorem step_next (hR : RR rs st) {x : Operand} (ho : o.op = .next x false) (h : rNext rs o.dst x k = .ok) : Stp P o st (KK k) := by
 unfold rNext at h
 split at h
 ·rename_i id hx
  split at h
  ·rename_i mid since seen last hi
   split at h
   ·rename_i kv hm
    cases hit : isIt kv with
    | true => rw [hit] at h; cases h
    | false =>
     rw [hit] at h
     simp only [cond_false, fN_eq] at h
     obtain ⟨hc, h⟩ := condB h
     simp only [Bool.and_eq_true, Nat.ble_eq] at hc
     have hpl : kv.all (fun p => p.2.pl) = true := hR.2.2.2.2.2 mid _ hm
     have hxs : st.ev x = .a (.c (.p id 0)) := by rw [hR.ev]; exact hx
     have his : st.hp[id]? = some (.m (itKV (some mid) since seen last)) := (hR.2.1 id).trans hi
     have hms : st.hp[mid]? = some (.m kv) := (hR.2.1 mid).trans hm
     split at h
     ·rename_i hl
      obtain ⟨h1, h2⟩ := put_kk hR h
      refine stp_next h1 ho hxs his hms hit hpl hc.1 hc.2 (fun _ => h2) fun i p hp hns => ?_
      have := (leftN_mem (seen := seen) (i := i) kv.length []).2 (.inl ⟨(List.getElem?_eq_some_iff.1 hp).1, hns⟩)
      rw [hl] at this
      simp at this
     ·rename_i l hl hne
      have hall := rNextL_ok (o := o) hR _ h
      obtain ⟨i0, hi0⟩ : ∃ i0, i0 ∈ leftN seen kv.length [] := by
       cases hq : leftN seen kv.length [] with
       | nil => exact absurd hq hne
       | cons a b => exact ⟨a, by simp⟩
      have hd := (hall i0 hi0).choose_spec.2.1
      refine stp_next hd ho hxs his hms hit hpl hc.1 hc.2 (fun hend => ?_) fun i p hp hns => ?_
      ·exfalso
       rcases (leftN_mem (seen := seen) (i := i0) kv.length []).1 hi0 with ⟨q1, q2⟩ | q
       ·exact q2 (hend i0 q1)
       ·simp at q
      ·obtain ⟨p', q1, _, q3⟩ := hall i ((leftN_mem (seen := seen) (i := i) kv.length []).2 (.inl ⟨(List.getElem?_eq_some_iff.1 hp).1, hns⟩))
       rw [hp] at q1
       cases q1
       exact q3
   ·cases h
  ·cases h
 ·cases h
theorem lastN_ok : ∀ {l s : List Nat} {i : Nat}, lastN l = some (s, i) → l = s ++ [i]
 | [], s, i, h => by cases h
 | [j], s, i, h => by simp only [lastN, Option.some.injEq, Prod.mk.injEq] at h; obtain ⟨rfl, rfl⟩ := h; rfl
 | j :: q :: r, s, i, h => by
  simp only [lastN] at h
  split at h
  ·rename_i s' i' hs
   simp only [Option.some.injEq, Prod.mk.injEq] at h
   obtain ⟨rfl, rfl⟩ := h
   rw [lastN_ok hs]; rfl
  ·cases h
theorem step_entry (hR : RR rs st) {x : Operand} {v : AV} (ho : o.op = .entry x) (hv : rEntry rs x = some v) (h : rs.put o.dst v k = .ok) : Stp P o st (KK k) := by
 obtain ⟨h1, h2⟩ := put_kk hR h
 unfold rEntry at hv
 split at hv
 ·rename_i id hx
  split at hv
  ·rename_i mid since seen last hi
   split at hv
   ·rename_i kv s i hm hs
    split at hv
    ·rename_i p hit hp
     cases hb : Nat.beq kv.length last with
     | false => rw [hb] at hv; cases hv
     | true =>
      rw [hb] at hv
      cases hv
      have hl := Nat.eq_of_beq_eq_true hb
      subst hl
      have hse := lastN_ok hs
      subst hse
      exact stp_entry h1 ho (by rw [hR.ev]; exact hx) ((hR.2.1 id).trans hi) ((hR.2.1 mid).trans hm) hit (hR.2.2.2.2.2 mid _ hm) hp h2
    ·cases hv
   ·cases hv
  ·cases hv
 ·cases hv
theorem rStep_ok (hT : TbOk P T) {rc : RC} (hrc : RcOk P rc) (hR : RR rs st) {loc : List Nat} (h : rStep T rc loc o rs k = .ok) : Stp P o st (KK k) := by
 unfold rStep at h
 split at h
 ·rename_i t x ho
  split at h
  ·rename_i v hv
   obtain ⟨h1, h2⟩ := step_l hT hR ho hv h
   exact stp_l h1 h2
  ·cases h
 ·rename_i t x v ho; exact step_s hT hR ho h
 ·rename_i e x ho
  split at h
  ·rename_i ob f hb
   obtain ⟨h1, h2⟩ := step_a hT hR (by rw [ho]; exact hb) h
   exact stp_a h1 h2
  ·cases h
 ·rename_i e ho
  split at h
  ·rename_i ob f hb
   obtain ⟨h1, h2⟩ := step_a hT hR (by rw [ho]; exact hb) h
   exact stp_a h1 h2
  ·cases h
 ·rename_i e l q ho
  split at h
  ·rename_i ob f hb
   obtain ⟨h1, h2⟩ := step_a hT hR (by rw [ho]; exact hb) h
   exact stp_a h1 h2
  ·cases h
 ·rename_i e q ho
  split at h
  ·rename_i ob f hb
   obtain ⟨h1, h2⟩ := step_a hT hR (by rw [ho]; exact hb) h
   exact stp_a h1 h2
  ·cases h
 ·rename_i t l c ho
  split at h
  ·rename_i ob f hb
   exact step_mk hT hR ho hb h
  ·cases h
 ·rename_i op t x yt ho; exact step_nil hT hR ho h
 ·rename_i c ho
  split at h
  ·rename_i args ts; exact step_ap hT hR ho h
  ·rename_i fop args ts
   split at h
   ·rename_i f ids hf
    split at h
    ·rename_i r hor; exact step_or hT hR ho hf hor h
    ·exact step_call hT hrc hR ho hf h
   ·cases h
  ·rename_i args ts; exact step_copy hT hR ho h
  ·rename_i args ts; exact step_clear hT hR ho h
  ·split at h
   ·rename_i v hv; exact step_d hT hR hv h
   ·split at h
    ·rename_i v hv
     obtain ⟨h1, h2⟩ := put_kk hR h
     exact stp_val h1 (fun g w ρ q1 q2 => lenM_ok hT hR ho hv g w ρ q1 q2) h2
    ·cases h
 ·rename_i t x ix ok ho
  split at h
  ·rename_i v hv
   obtain ⟨h1, h2⟩ := put_kk hR h
   exact stp_val h1 (fun g w ρ q1 q2 => lookup_ok hT hR ho hv g w ρ q1 q2) h2
  ·cases h
 ·rename_i t m kx v ho
  obtain ⟨h1, hp', h2, rs', h3, h4⟩ := stp_map hT hR (.inl ho) h
  exact h2.mono (by rintro s rfl; exact ⟨rs', h3, h4⟩)
 ·rename_i t m kx v ho
  obtain ⟨h1, hp', h2, rs', h3, h4⟩ := stp_map hT hR (.inr ho) h
  exact h2.mono (by rintro s rfl; exact ⟨rs', h3, h4⟩)
 ·rename_i t x ho; exact step_range hT hR ho h
 ·rename_i x ho; exact step_next hR ho h
 ·rename_i x ho
  split at h
  ·rename_i v hv; exact step_entry hR ho hv h
  ·cases h
 ·split at h
  ·rename_i v hv; exact step_d hT hR hv h
  ·split at h
   ·rename_i v hv
    obtain ⟨h1, h2⟩ := put_kk hR h
    exact stp_val h1 (fun g w ρ q1 q2 => by
     obtain ⟨u, e1, e2⟩ := rE_ok hT hv g st.hp w ρ (by rw [← hR.ev]; exact q2)
     exact ⟨u, e1 w, e2⟩) h2
   ·split at h
    ·rename_i s d x ho
     split at h
     ·rename_i v hv
      obtain ⟨h1, h2⟩ := put_kk hR h
      exact stp_val h1 (fun g w ρ q1 q2 => str_ok hT hR ho hv g w ρ q1 q2) h2
     ·cases h
    ·cases h
theorem rLst_ok (hT : TbOk P T) {rc : RC} (hrc : RcOk P rc) {loc : List Nat} {ops : Array Oper} : ∀ (l : List Oper) (rs : RS) (st : ST), RR rs st → rLst T rc loc ops l rs k = .ok → Lst P ops l st (KK k)
 | [], rs, st, hR, h => lst_nil ⟨rs, hR, h⟩
 | o :: r, rs, st, hR, h => by
  unfold rLst at h
  split at h
  ·rename_i hg
   refine lst_cons hg fun K' hK' => (rStep_ok hT hrc hR h).mono ?_
   rintro s ⟨rs', h1, h2⟩
   exact hK' s (rLst_ok hT hrc r rs' s h1 h2)
  ·rename_i j want hg
   split at h
   ·rename_i d hj
    split at h
    ·rename_i t ht
     have ht' : st.get d = .b t := (hR.1 d).trans ht
     cases hw : t == want with
     | true =>
      rw [hw] at h
      have hw' : t = want := by simpa using hw
      simp only [cond_true] at h
      rw [Bool.cond_eq_ite] at h
      split at h
      rotate_left
      ·cases h
      rename_i hd
      rw [← hR.2.2.2.1] at hd
      refine lst_guard hg hj ht' hd (fun _ K' hK' => (rStep_ok (k := fun rs => rLst T rc loc ops r rs k) hT hrc hR h).mono ?_) (fun hn => absurd hw' hn)
      rintro s ⟨rs', h1, h2⟩
      exact hK' s (rLst_ok hT hrc r rs' s h1 h2)
     | false =>
      rw [hw] at h
      obtain ⟨h1, rs', h2, h3⟩ := put_kk (k := fun rs => rLst T rc loc ops r rs k) hR h
      exact lst_skip hg hj ht' (by intro e; injection e with e; simp [e] at hw) h1 (rLst_ok hT hrc r rs' _ h2 h3)
    ·rename_i ts ht
     have ht' : st.get d = .a (.c (.v (.tuple ts))) := (hR.1 d).trans ht
     obtain ⟨h1, rs', h2, h3⟩ := put_kk (k := fun rs => rLst T rc loc ops r rs k) hR h
     exact lst_skip hg hj ht' (by simp) h1 (rLst_ok hT hrc r rs' _ h2 h3)
    ·cases h
   ·cases h
end
end Go.Proofs.YtglchakimolfdaaDoor
