/- flow: Ticks, Initials, Acceptance. Maps in walks: look-ups and updates at keys that are not literals. flow.Key. delay.partition. side.classes, plain: the keys of a round. Visible, Event, Set: numbers and sets drawn from the tape. A system drawn from the tape. Nil slices in a row's cells, as empty frozen ones. A nil slice in a row's cell becomes an empty object. Systems copied. -/
import Derived.Test.YtahnebicgbjonaaGreatMG
import Derived.Test.YtahnebicgbjonaaGreatMK
import Derived.Test.YtahnebicgbjonaaGreatZk
import Derived.Test.YtahnebicgbjonaaGreatMF
import Derived.Test.YtahnebicgbjonaaGreatOd1
import Derived.Test.YtahnebicgbjonaaGreatG11
import Derived.Test.YtahnebicgbjonaaGreatMD
import Derived.Test.YtahnebicgbjonaaGreatMlz
namespace Go.Proofs.YtahnebicgbjonaaGreat
set_option linter.unusedVariables false
set_option linter.unusedSimpArgs false
open Go.RowKit
set_option maxRecDepth 100000
attribute [local go_sem] List.set_cons_zero List.set_cons_succ List.map_cons List.map_nil List.take_succ_cons List.take_zero List.drop_zero List.drop_succ_cons C.pl C.one List.all_cons List.all_nil Bool.and_true Nat.mul_one Int.toNat_natCast

section
variable {P : Program} {o : Oper} {st : ST} {K : ST → Prop} {t kt e : TypeId} {s : Ks} {zv : Value} {id : Nat} {kv : List (Value × C)} {key : Value}
def lkV (zv : Value) (ok : Bool) : Option (Nat × C) → AV
 | some (_, c) => match ok with
  | true => .tup [.c c, .c (.v (.bool true))]
  | false => .a (.c c)
 | none => match ok with
  | true => .tup [.c (.v zv), .c (.v (.bool false))]
  | false => .a (.c (.v zv))
theorem stp_lookup {x ix : Operand} {ok : Bool} {r : Option (Nat × C)} (hu : P.underlying t = some (.map kt e)) (hK : KeyOk P kt s) (hze : (P.info? e).bind (·.zero) = some zv)
  (hd : dok o st.n = true) (ho : o.op = .lookup t x ix ok) (hx : st.ev x = .a (.c (.m id))) (hm : st.hp[id]? = some (.m kv)) (hpl : kv.all (fun p => p.2.pl) = true) (hkey : keyOf (st.ev ix) = some key) (hfit : keyFit s key = true) (hf : kvFind s key kv 0 = some r)
  (h : K (st.put o.dst (lkV zv ok r))) : Stp P o st K := by
 refine stp_val hd (fun g w ρ hr hR => ?_) h
 obtain ⟨dst, op, ty, pos, af, gd⟩ := o
 simp only at ho
 subst ho
 have hz1 : ∀ w, (zeroValue e).run P w = .ok zv w := by
  intro w
  cases hi : P.info? e with
  | none => rw [hi] at hze; cases hze
  | some i =>
   rw [hi] at hze
   simp only [Option.bind_some] at hze
   simp [zeroValue, run_typeInfo hi, hze]
 obtain ⟨es, clock, m1, m2, m3⟩ := hr.mp id kv hm
 have e1 := hR x
 rw [hx] at e1
 obtain ⟨_, e1⟩ := e1
 have e2 := hR ix
 have e2 := keyOf_ok hkey e2
 have hKv : KvOk kv es.toList := ⟨by simpa using m2, fun i p hp => by
  obtain ⟨⟨e, f1, f2, _⟩, _⟩ := m3 i p hp
  exact ⟨e, by simpa using f1, f2⟩⟩
 obtain ⟨q, hq⟩ : ∃ q, keyEq s key key = some q := by
  unfold keyFit at hfit
  split at hfit
  ·exact ⟨_, ‹_›⟩
  ·cases hfit
 have hck := hK.ck key q hq es.isEmpty w
 cases r with
 | some p =>
  obtain ⟨j, c⟩ := p
  obtain ⟨h1, h2⟩ := find_ok hK key w hKv hf
  obtain ⟨k', h3, h4⟩ := h2 j c rfl
  obtain ⟨⟨e, f1, f2, f3⟩, f4⟩ := m3 j _ h3
  have hc : CR g st.hp w c e.val := by
   have := List.all_eq_true.1 hpl _ (List.mem_of_getElem? h3)
   exact CellR.cr this f3
  have hfnd : fnd es.toList 0 (some (j, c)) = some (j, e.val) := by simp [fnd, f1]
  rw [hfnd] at h1
  cases ok with
  | true =>
   refine ⟨.tuple #[e.val, .bool true], ?_, [e.val, .bool true], rfl, rfl, fun i a ha => ?_⟩
   ·simp [execOp, Instr.lookup, run_underlying hu, e1, MapKept.run_getObj_map m1, e2, hck, h1]
   ·match i, ha with
    | 0, ha => cases ha; exact ⟨_, rfl, hc⟩
    | 1, ha => cases ha; exact ⟨_, rfl, rfl⟩
  | false =>
   refine ⟨e.val, ?_, hc⟩
   simp [execOp, Instr.lookup, run_underlying hu, e1, MapKept.run_getObj_map m1, e2, hck, h1]
 | none =>
  obtain ⟨h1, _⟩ := find_ok hK key w hKv hf
  have hfnd : fnd es.toList 0 none = none := rfl
  rw [hfnd] at h1
  cases ok with
  | true =>
   refine ⟨.tuple #[zv, .bool false], ?_, [zv, .bool false], rfl, rfl, fun i a ha => ?_⟩
   ·simp [execOp, Instr.lookup, run_underlying hu, e1, MapKept.run_getObj_map m1, e2, hck, h1, hz1 w]
   ·match i, ha with
    | 0, ha => cases ha; exact ⟨_, rfl, rfl⟩
    | 1, ha => cases ha; exact ⟨_, rfl, rfl⟩
  | false =>
   refine ⟨zv, ?_, rfl⟩
   simp [execOp, Instr.lookup, run_underlying hu, e1, MapKept.run_getObj_map m1, e2, hck, h1, hz1 w]
theorem stp_mapnew {m kx v : Operand} {c : C} (hu : P.underlying t = some (.map kt e)) (hK : KeyOk P kt s) (hd : dok o st.n = true) (ho : o.op = .mapUpdate t m kx v) (hm : st.ev m = .a (.c (.m id))) (hmm : st.hp[id]? = some (.m kv)) (hpl : kv.all (fun p => p.2.pl) = true)
  (hkey : keyOf (st.ev kx) = some key) (hfit : keyFit s key = true) (hv : st.ev v = .a (.c c)) (hone : c.one = true) (hf : kvFind s key kv 0 = some none)
  (h : K ({ st with hp := st.hp.set id (.m (kv ++ [(key, c)])) }.put o.dst .u)) : Stp P o st K := by
 obtain ⟨q, hq⟩ : ∃ q, keyEq s key key = some q := by
  unfold keyFit at hfit
  split at hfit
  ·exact ⟨_, ‹_›⟩
  ·cases hfit
 have hcell : ∀ {g : Gh} {w : World} {u : Value}, CR g st.hp w c u → CellR g st.hp w id 0 c u := fun h => cellR_of_one hone h
 have hcpl : c.pl = true := by cases c <;> first | rfl | cases hone
 intro M0 w0 a w N Q hR hN
 obtain ⟨g, ⟨hp1, hp2⟩, hR⟩ := hR
 have e1 := hR.ev m
 rw [hm] at e1
 obtain ⟨_, e1⟩ := e1
 have e2 := hR.ev kx
 have e2 := keyOf_ok hkey e2
 have e3 := hR.ev v
 rw [hv] at e3
 obtain ⟨es, clock, m1, m2, m3⟩ := hR.hr.mp id kv hmm
 have hKv : KvOk kv es.toList := ⟨by simpa using m2, fun i p hp => by
  obtain ⟨⟨e, f1, f2, _⟩, _⟩ := m3 i p hp
  exact ⟨e, by simpa using f1, f2⟩⟩
 obtain ⟨h1, _⟩ := find_ok hK key w hKv hf
 have hfnd : fnd es.toList 0 none = none := rfl
 rw [hfnd] at h1
 have hl : es.size = kv.length := by simpa using hKv.1
 have r1 : (Instr.mapUpdate t (.map (some (g.γ (.ob id)))) key (a.eval v)).run P w = .ok () { w with heap := w.heap.setIfInBounds (g.γ (.ob id)) (.map (es.push { key := key, val := a.eval v, born := clock }) (clock + 1)) } := by
  simp [Instr.mapUpdate, run_underlying hu, MapKept.run_getObj_map m1, hK.ck key q hq, h1, MapKept.run_setObj_map _ m1]
 have hset := hR.mapset (es' := es.push { key := key, val := a.eval v, born := clock }) (clock := clock + 1) (kv' := kv ++ [(key, c)]) hmm (by simp [hl]) (fun i p hp => by
  rcases Nat.lt_or_ge i kv.length with hi | hi
  ·rw [List.getElem?_append_left hi] at hp
   obtain ⟨⟨e', g1, g2, g3⟩, g4⟩ := m3 i p hp
   exact ⟨⟨e', by rw [Array.getElem?_push_lt (by omega)]; rw [← g1]; simp [show i < es.size by omega], g2, g3⟩, g4⟩
  ·rw [List.getElem?_append_right hi] at hp
   have hi' : i = kv.length := by
    have := (List.getElem?_eq_some_iff.1 hp).1
    simp at this
    omega
   subst hi'
   simp at hp
   subst hp
   exact ⟨⟨{ key := key, val := a.eval v, born := clock }, by rw [← hl]; simp, rfl, hcell e3⟩, fun k' cs e => by
    simp only at e
    rw [e] at hcpl; cases hcpl⟩)
 have hrun : (execOp a.eval o).run P w = .ok .skip { w with heap := w.heap.setIfInBounds (g.γ (.ob id)) (.map (es.push { key := key, val := a.eval v, born := clock }) (clock + 1)) } := by
  unfold execOp
  simp [ho, e1, e2, r1]
 unfold Oper.wp
 rw [hrun]
 exact hN _ _ _ h ⟨g, ⟨by cases o.dst <;> (simp [ST.put]; omega), by cases o.dst <;> exact hp2⟩, hset.put (dok_lt hd) trivial⟩
theorem stp_str {src d el : TypeId} {x : Operand} {n q : Nat} {sl : Bool} {cells : List C} {ns : List Int} (hu1 : P.underlying src = some (.slice el)) (hu2 : P.underlying d = some .string) (hu3 : P.underlying el = some (.int .u8))
  (hd : dok o st.n = true) (ho : o.op = .convert src d x) (hx : st.ev x = .a (.c (.s id n))) (hrow' : st.hp[id]? = some (.r ⟨q, 1, sl, cells⟩)) (hns : ns.length = n) (e1 : cells.take n = ns.map (fun m => C.v (.int .u8 m)))
  (h : K (st.put o.dst (.a (.c (.v (.string ⟨⟨ns.map fun (m : Int) => UInt8.ofNat m.toNat⟩⟩)))))) : Stp P o st K := by
 refine stp_val hd (fun g w ρ hr hR => ?_) h
 obtain ⟨dst, op, ty, pos, af, gd⟩ := o
 simp only at ho
 subst ho
 have e2 := hR x
 rw [hx] at e2
 obtain ⟨_, hn, A, e2, e3, _⟩ := e2
 refine ⟨.string ⟨⟨ns.map fun (m : Int) => UInt8.ofNat m.toNat⟩⟩, ?_, rfl⟩
 have hconv : (Conv.bytesToString (.slice A n (g.κ id))).run P w = .ok (.string ⟨⟨ns.map fun (m : Int) => UInt8.ofNat m.toNat⟩⟩) w := by
  rcases hr.row id _ hrow' with ⟨h0, h2⟩ | ⟨h0, _, arr, ha, hla, hs, _, hcells⟩
  ·have hn0 : n = 0 := by omega
   subst hn0
   have : ns = [] := List.eq_nil_of_length_eq_zero hns
   subst this
   cases A with
   | none => simp [Conv.bytesToString, ByteArray.empty, ByteArray.emptyWithCapacity]; rfl
   | some a => simp [Conv.bytesToString, loadCells, loadCellsFrom, ByteArray.empty, ByteArray.emptyWithCapacity]; rfl
  ·rw [e3 h0]
   have hload : (loadCells ⟨g.γ (.ob id), 0, none⟩ n).run P w = .ok (ns.map (Value.int .u8)).toArray w := by
    unfold loadCells
    rw [run_loadCellsFrom _ _ _ 0 (ns.map (Value.int .u8)) #[] (by simpa using hns) (fun q u hq => ?_)]
    ·simp
    ·rw [cell_of_row _ _ _ _ _ _ ha]
     rw [List.getElem?_map, Option.map_eq_some_iff] at hq
     obtain ⟨m, hm, rfl⟩ := hq
     have hlt : q < n := by rw [← hns]; exact (List.getElem?_eq_some_iff.1 hm).1
     have hcq : cells[q]? = some (.v (.int .u8 m)) := by
      have : (cells.take n)[q]? = some (.v (.int .u8 m)) := by rw [e1]; simp [hm]
      rw [List.getElem?_take, if_pos hlt] at this
      exact this
     obtain ⟨u, f1, f2⟩ := hcells q _ hcq
     have f2 : u = .int .u8 m := f2
     subst f2
     simpa using f1
   simp only [Conv.bytesToString, Sem.run_bind, hload, Result.andThen_ok]
   rw [bytes_run (fun n s w => by simp)]
   simp [ByteArray.empty, ByteArray.emptyWithCapacity]
   rfl
 simp [execOp, convert, run_underlying hu1, run_underlying hu2, e2, run_underlying hu3, hconv]
end
def kb (n : Int) : List Int := [IntKind.u8.wrap (n.fdiv (2 ^ (24 : Int).toNat)), IntKind.u8.wrap (n.fdiv (2 ^ (16 : Int).toNat)), IntKind.u8.wrap (n.fdiv (2 ^ (8 : Int).toNat)), IntKind.u8.wrap n]
def keyB (xs : List Int) : List Int := xs.flatMap kb
def keyS (xs : List Int) : Value := .string ⟨⟨(keyB xs).map fun (m : Int) => UInt8.ofNat m.toNat⟩⟩
def cB8 (l : List Int) : List C := l.map fun m => C.v (.int .u8 m)
theorem cB8_len (l : List Int) : (cB8 l).length = l.length := by simp [cB8]
theorem cB8_ren (f : List Nat) (l : List Int) : (cB8 l).map (C.ren f) = cB8 l := by simp [cB8, C.ren, Function.comp_def]
theorem keyB_len (xs : List Int) : (keyB xs).length = xs.length * 4 := by
 unfold keyB
 induction xs with
 | nil => rfl
 | cons x r ih => rw [List.flatMap_cons, List.length_append, ih, List.length_cons]; simp [kb]; omega
theorem keyB_push (xs : List Int) (x : Int) : (cB8 (keyB xs)).take (xs.length * 4) ++ [C.v (.int .u8 (IntKind.u8.wrap (x.fdiv (2 ^ (24 : Int).toNat)))), C.v (.int .u8 (IntKind.u8.wrap (x.fdiv (2 ^ (16 : Int).toNat)))), C.v (.int .u8 (IntKind.u8.wrap (x.fdiv (2 ^ (8 : Int).toNat)))), C.v (.int .u8 (IntKind.u8.wrap x))] = cB8 (keyB (xs ++ [x])) := by
 rw [List.take_of_length_le (by rw [cB8_len, keyB_len]; exact Nat.le_refl _)]
 unfold keyB cB8
 simp [kb]
theorem wrap8 (n : Int) : IntKind.u8.wrap n = n % 256 := by simp [IntKind.wrap, IntKind.signed, IntKind.bits]
theorem kb_inj {x y : Int} (hx : 0 ≤ x ∧ x < 2147483648) (hy : 0 ≤ y ∧ y < 2147483648) (h : kb x = kb y) : x = y := by
 unfold kb at h
 simp only [List.cons.injEq, and_true, wrap8] at h
 obtain ⟨h1, h2, h3, h4⟩ := h
 have e : ∀ z : Int, z.fdiv (2 ^ (24 : Int).toNat) = z / 16777216 ∧ z.fdiv (2 ^ (16 : Int).toNat) = z / 65536 ∧ z.fdiv (2 ^ (8 : Int).toNat) = z / 256 := fun z => ⟨Int.fdiv_eq_ediv_of_nonneg z (by decide), Int.fdiv_eq_ediv_of_nonneg z (by decide), Int.fdiv_eq_ediv_of_nonneg z (by decide)⟩
 rw [(e x).1, (e y).1] at h1
 rw [(e x).2.1, (e y).2.1] at h2
 rw [(e x).2.2, (e y).2.2] at h3
 omega
theorem kb_rng (x : Int) : ∀ m ∈ kb x, 0 ≤ m ∧ m < 256 := by
 intro m hm
 unfold kb at hm
 simp only [List.mem_cons, List.not_mem_nil, or_false, wrap8] at hm
 rcases hm with rfl | rfl | rfl | rfl <;> omega
theorem keyB_inj : ∀ {xs ys : List Int}, (∀ x ∈ xs, 0 ≤ x ∧ x < 2147483648) → (∀ y ∈ ys, 0 ≤ y ∧ y < 2147483648) → keyB xs = keyB ys → xs = ys
 | [], [], _, _, _ => rfl
 | [], y :: ys, _, _, h => by have := congrArg List.length h; rw [keyB_len, keyB_len] at this; simp at this
 | x :: xs, [], _, _, h => by have := congrArg List.length h; rw [keyB_len, keyB_len] at this; simp at this
 | x :: xs, y :: ys, hx, hy, h => by
  have h1 : kb x ++ keyB xs = kb y ++ keyB ys := h
  obtain ⟨h2, h3⟩ := List.append_inj h1 rfl
  rw [kb_inj (hx x (by simp)) (hy y (by simp)) h2, keyB_inj (fun a ha => hx a (List.mem_cons_of_mem _ ha)) (fun a ha => hy a (List.mem_cons_of_mem _ ha)) h3]
theorem keyB_rng (xs : List Int) : ∀ m ∈ keyB xs, 0 ≤ m ∧ m < 256 := by
 intro m hm
 obtain ⟨x, _, hx⟩ := List.mem_flatMap.1 hm
 exact kb_rng x m hx
theorem u8_map_inj : ∀ {l m : List Int}, (∀ x ∈ l, 0 ≤ x ∧ x < 256) → (∀ x ∈ m, 0 ≤ x ∧ x < 256) → (l.map fun (m : Int) => UInt8.ofNat m.toNat) = (m.map fun (m : Int) => UInt8.ofNat m.toNat) → l = m
 | [], [], _, _, _ => rfl
 | [], y :: ys, _, _, h => by simp at h
 | x :: xs, [], _, _, h => by simp at h
 | x :: xs, y :: ys, hx, hy, h => by
  simp only [List.map_cons, List.cons.injEq] at h
  have h1 := hx x (by simp)
  have h2 := hy y (by simp)
  have h3 := congrArg UInt8.toNat h.1
  simp only [UInt8.toNat_ofNat'] at h3
  have : x = y := by omega
  rw [this, u8_map_inj (fun a ha => hx a (List.mem_cons_of_mem _ ha)) (fun a ha => hy a (List.mem_cons_of_mem _ ha)) h.2]
theorem keyS_inj {xs ys : List Int} (hx : ∀ x ∈ xs, 0 ≤ x ∧ x < 2147483648) (hy : ∀ y ∈ ys, 0 ≤ y ∧ y < 2147483648) (h : keyS xs = keyS ys) : xs = ys := by
 unfold keyS at h
 injection h with h
 injection h with h
 injection h with h
 exact keyB_inj hx hy (u8_map_inj (keyB_rng _) (keyB_rng _) h)
set_option maxHeartbeats 1000000 in
theorem key_fc (xs : List Int) (hn : xs.length ≤ 100000000) : FC Tryz.prog 44 [aInts xs] [] (fun r o => o = [] ∧ r = .a (.c (.v (keyS xs)))) := by
 refine fc_intro Tryz.func44 rfl (by rw [Tryz.ntmps44]; simp) ?_
 rw [Tryz.ntmps44]
 simp only [enum, aInts]
 (refine wk1 @tInts_len ?_;(repeat clear hK K);repeat refine kq fun K hK=>?_)
 refine aw_loop (fun k : Nat => { tm := [(3, .a (.c (.s 0 (k * 4)))), (10, .a (.c (.t 1 (tInts xs)))), (11, .i xs.length), (12, .i k)], hp := [.r ⟨5, 1, false, cB8 (keyB (xs.take k))⟩], n := 33, pin := 0 }) (fun k => k ≤ xs.length) (fun k => xs.length - k) 0 ?_ ?_ ?_
 ·omega
 ·simp only [show Int.toNat 0 = 0 from rfl, List.replicate_zero, List.take_zero, keyB, List.flatMap_nil, cB8, List.map_nil, Nat.zero_mul]
  exact lmz
 ·rintro k hk K hK
  have htl : (xs.take k).length = k := by simp; omega
  by_cases hlt : k < xs.length
  ·have d1 : decide ((k : Int) < (xs.length : Int)) = true := by simpa using hlt
   have hg := tInts_get (List.getElem?_eq_getElem hlt)
   have hp := keyB_push (xs.take k) xs[k]
   rw [htl, ← List.take_succ_eq_append_getElem hlt] at hp
   (refine wk1 @d1 ?_;(repeat clear hK K);repeat refine kq fun K hK=>?_)
   refine cxz ?_
   (refine wk1 (an @hg (an @tInts_len (an @cB8_len (an @keyB_len (an @htl @hp))))) ?_;(repeat clear hK K);repeat refine kq fun K hK=>?_)
   refine rnz ?_
   refine hK _ (k + 1) (by omega) (by omega) ?_
   refine Le.trans (le_pick [2] rfl rfl) ?_
   (try simp only [List.set_nil, List.take_nil, List.take_zero, List.map_append, go_sem])
   (try simp only [cB8_ren])
   have e4 : k * 4 + 4 = (k + 1) * 4 := by omega
   (try simp only [e4])
   exact lmz
  ·have d1 : decide ((k : Int) < (xs.length : Int)) = false := by simpa using hlt
   have hke : xs.take k = xs := List.take_of_length_le (by omega)
   have hkl : k = xs.length := by omega
   rw [hke]
   (refine wk1 @d1 ?_;(repeat clear hK K);repeat refine kq fun K hK=>?_)
   refine cyz ?_
   (refine ekz ?_;repeat clear hK K)
   (refine wk0 ?_;(repeat clear hK K);repeat refine kq fun K hK=>?_)
   (refine lst_cons rfl ?_; intro K1 hK1; refine stp_str (id := 0) (n := k * 4) (q := 5) (sl := false) (cells := cB8 (keyB xs)) (ns := keyB xs) Tryz.underlying99 Tryz.underlying9 Tryz.underlying5 rfl rfl (by simp only [go_sem]) rfl (by rw [keyB_len]; omega) (by rw [hkl, List.take_of_length_le (by rw [cB8_len, keyB_len]; exact Nat.le_refl _)]; rfl) ?_; simp only [go_sem]; refine hK1 _ ?_; clear hK1 K1)
   (refine wk0 ?_;(repeat clear hK K);repeat refine kq fun K hK=>?_)
   ((try refine aw_ret ?_); (try simp only [ThenA, InBl]); refine ret_le (le_pick [] rfl rfl) ?_; (try simp only [List.set_nil, List.take_nil, List.take_zero, List.map_append, go_sem]); ((try refine aw_ret ?_); (try refine lst_nil ?_); (try simp only [ThenA, InBl]); refine ret_mk (by first | exact .inl rfl | exact .inr rfl) rfl ?_; simp only [rtn, resA, resL, resV, Tryz.results44, go_sem, true_and, and_true, keyS]))
theorem stp_lenm {P : Program} {o : Oper} {st : ST} {K : ST → Prop} {t kt e : TypeId} {id : Nat} {kv : List (Value × C)} {x : Operand} {c : Call} (hu : P.underlying t = some (.map kt e)) (hd : dok o st.n = true) (ho : o.op = .call c) (hc1 : c.callee = .builtin .len) (hc2 : c.args = #[x]) (hc3 : c.argTypes = #[t]) (hx : st.ev x = .a (.c (.m id))) (hm : st.hp[id]? = some (.m kv)) (h : K (st.put o.dst (.i kv.length))) : Stp P o st K := by
 refine stp_val hd (fun g w ρ hr hR => ?_) h
 obtain ⟨dst, op, ty, pos, af, gd⟩ := o
 simp only at ho
 subst ho
 obtain ⟨callee, args, ts⟩ := c
 simp only at hc1 hc2 hc3
 subst hc1; subst hc2; subst hc3
 obtain ⟨es, clock, m1, m2, _⟩ := hr.mp id kv hm
 have e1 := hR x
 rw [hx] at e1
 obtain ⟨_, e1⟩ := e1
 refine ⟨.int .i64 kv.length, ?_, rfl⟩
 simp only [execOp, resolve, invoke, builtin, Sem.run_bind, Sem.run_pure, Result.andThen_ok, List.map_toArray, List.map_cons, List.map_nil, e1]
 simp [Builtin.len_, run_underlying hu, MapKept.run_getObj_map m1, goInt, m2]
theorem kvFind_app {s : Ks} {key k : Value} {c : C} : ∀ (l : List (Value × C)) (i : Nat), kvFind s key (l ++ [(k, c)]) i = match kvFind s key l i with | some none => (match keyEq s key k with | some true => some (some (i + l.length, c)) | some false => some none | none => none) | r => r := by
 intro l
 induction l with
 | nil =>
  intro i
  simp only [List.nil_append, kvFind, List.length_nil, Nat.add_zero]
  cases keyEq s key k with
  | none => rfl
  | some b => cases b <;> rfl
 | cons p r ih =>
  intro i
  obtain ⟨k1, c1⟩ := p
  simp only [List.cons_append, kvFind]
  cases keyEq s key k1 with
  | none => rfl
  | some b =>
   cases b with
   | true => rfl
   | false =>
    simp only
    rw [ih (i + 1), List.length_cons, show i + 1 + r.length = i + (r.length + 1) from by omega]
section
variable {α : Type} [DecidableEq α]
def KyOk (ky : List Value) (g : Nat → α) : Prop := ∀ a b, a < ky.length → b < ky.length → keyEq .ks (ky.getD a (.int .i64 0)) (ky.getD b (.int .i64 0)) = some (decide (g a = g b))
def kvP (ky : List Value) (g : Nat → α) : Nat → List (Value × C)
 | 0 => []
 | k + 1 => match (List.range k).find? (fun t => decide (g t = g k)) with
  | some _ => kvP ky g k
  | none => kvP ky g k ++ [(ky.getD k (.int .i64 0), .v (.int .i64 (nmG g k).2))]
theorem kvP_some {ky : List Value} {g : Nat → α} {k t : Nat} (h : (List.range k).find? (fun t => decide (g t = g k)) = some t) : kvP ky g (k + 1) = kvP ky g k := by rw [kvP, h]
theorem kvP_none {ky : List Value} {g : Nat → α} {k : Nat} (h : (List.range k).find? (fun t => decide (g t = g k)) = none) : kvP ky g (k + 1) = kvP ky g k ++ [(ky.getD k (.int .i64 0), .v (.int .i64 (nmG g k).2))] := by rw [kvP, h]
theorem kvP_pl (ky : List Value) (g : Nat → α) (k : Nat) : (kvP ky g k).all (fun p => p.2.pl) = true := by
 induction k with
 | zero => rfl
 | succ k ih =>
  cases h : (List.range k).find? (fun t => decide (g t = g k)) with
  | some t => rw [kvP_some h]; exact ih
  | none => rw [kvP_none h, List.all_append, ih]; rfl
theorem kvP_len (ky : List Value) (g : Nat → α) (k : Nat) : (kvP ky g k).length = (nmG g k).2 := by
 induction k with
 | zero => rfl
 | succ k ih =>
  cases h : (List.range k).find? (fun t => decide (g t = g k)) with
  | some t => rw [kvP_some h, nmG_some h]; exact ih
  | none => rw [kvP_none h, nmG_none h, List.length_append, ih]; rfl
theorem kvP_form (ky : List Value) (g : Nat → α) (k : Nat) : ∃ M : List (Value × Value), kvP ky g k = M.map fun p => (p.1, C.v p.2) := by
 induction k with
 | zero => exact ⟨[], rfl⟩
 | succ k ih =>
  obtain ⟨M, hM⟩ := ih
  cases h : (List.range k).find? (fun t => decide (g t = g k)) with
  | some t => exact ⟨M, by rw [kvP_some h, hM]⟩
  | none => exact ⟨M ++ [(ky.getD k (.int .i64 0), .int .i64 (nmG g k).2)], by rw [kvP_none h, hM]; simp⟩
theorem kvP_find {ky : List Value} {g : Nat → α} (h : KyOk ky g) {s : Nat} (hs : s < ky.length) : ∀ k, k ≤ ky.length → (∃ t, t < k ∧ g t = g s ∧ ∃ j, kvFind .ks (ky.getD s (.int .i64 0)) (kvP ky g k) 0 = some (some (j, .v (.int .i64 ((nmG g k).1.getD t 0))))) ∨ ((∀ t, t < k → g t ≠ g s) ∧ kvFind .ks (ky.getD s (.int .i64 0)) (kvP ky g k) 0 = some none) := by
 intro k
 induction k with
 | zero => intro _; exact .inr ⟨fun t ht => by omega, rfl⟩
 | succ k ih =>
  intro hk
  have hkl : k < ky.length := hk
  have hlen := (nmG_ok g k).len
  cases hf : (List.range k).find? (fun t => decide (g t = g k)) with
  | some t0 =>
   have h2 := List.find?_range_eq_some.1 hf
   have h3 : t0 < k := by simpa using h2.2.1
   have h4 : g t0 = g k := by simpa using h2.1
   rw [kvP_some hf, nmG_some hf]
   rcases ih (by omega) with ⟨t, a1, a2, j, a3⟩ | ⟨a1, a2⟩
   ·refine .inl ⟨t, by omega, a2, j, ?_⟩
    rw [a3, getD_snoc_lt (by omega)]
   ·refine .inr ⟨fun t ht => ?_, a2⟩
    rcases Nat.lt_or_ge t k with b | b
    ·exact a1 t b
    ·have : t = k := by omega
     subst this
     rw [← h4]; exact a1 t0 h3
  | none =>
   rw [kvP_none hf, nmG_none hf, kvFind_app, h s k hs hkl]
   rcases ih (by omega) with ⟨t, a1, a2, j, a3⟩ | ⟨a1, a2⟩
   ·refine .inl ⟨t, by omega, a2, j, ?_⟩
    rw [a3, getD_snoc_lt (by omega)]
   ·rw [a2]
    by_cases e : g s = g k
    ·refine .inl ⟨k, by omega, e.symm, 0 + (kvP ky g k).length, ?_⟩
     rw [decide_eq_true e, getD_snoc_eq hlen.symm]
    ·refine .inr ⟨fun t ht => ?_, by rw [decide_eq_false e]⟩
     rcases Nat.lt_or_ge t k with b | b
     ·exact a1 t b
     ·have : t = k := by omega
      subst this
      exact Ne.symm e
theorem kvP_fit {ky : List Value} {g : Nat → α} (h : KyOk ky g) {s : Nat} (hs : s < ky.length) : keyFit .ks (ky.getD s (.int .i64 0)) = true := by
 unfold keyFit
 rw [h s s hs hs]
theorem cI1 (L : List Int) (x : Int) {n : Nat} (h : L.length = n) : (cInts L).take n ++ [C.v (.int .i64 x)] = cInts (L ++ [x]) := by
 subst h
 rw [List.take_of_length_le (by rw [cInts_len]; exact Nat.le_refl _)]; simp [cInts]
def cKy (ky : List Value) : List C := ky.map C.v
theorem cKy_len (ky : List Value) : (cKy ky).length = ky.length := by simp [cKy]
theorem cKy_get {ky : List Value} {s : Nat} (h : s < ky.length) : (cKy ky)[s]? = some (.v (ky.getD s (.int .i64 0))) := by simp [cKy, List.getD_eq_getElem?_getD, h]
theorem cKy_ren (ky : List Value) (f : List Nat) : (cKy ky).map (C.ren f) = cKy ky := by simp [cKy, C.ren, Function.comp_def]
theorem cKy_set (ky : List Value) (s : Nat) (v : Value) : (cKy ky).set s (.v v) = cKy (ky.set s v) := by simp [cKy, List.map_set]
set_option maxHeartbeats 2000000 in
theorem part_fc (ky : List Value) (g : Nat → α) (h : KyOk ky g) (hn : ky.length ≤ 1000000) : FC Tryz.prog 42 [.a (.c (.s 0 ky.length))] [.r ⟨9, 1, true, cKy ky⟩] (fun r o => r = .tup [.c (.s 1 ky.length), .c (.v (.int .i64 (nmG g ky.length).2))] ∧ o = [.r ⟨9, 1, true, cKy ky⟩, rInts (nmG g ky.length).1]) := by
 refine fc_intro Tryz.func42 rfl (by rw [Tryz.ntmps42]; simp) ?_
 rw [Tryz.ntmps42]
 simp only [enum]
 (refine wk0 ?_;(repeat clear hK K);repeat refine kq fun K hK=>?_)
 refine aw_le (le_nil 5 3 1 ?_) ?_
 ·simp only [go_sem]
 refine aw_loop (fun k : Nat => { tm := [(4, .a (.c (.m 1))), (5, .a (.c (.s 2 k))), (11, .a (.c (.s 0 ky.length))), (12, .i ky.length), (13, .i k)], hp := [.r ⟨9, 1, true, cKy ky⟩, .m (kvP ky g k), .r ⟨3, 1, true, cInts (nmG g k).1⟩], n := 39, pin := 1 }) (fun k => k ≤ ky.length) (fun k => ky.length - k) 0 ?_ ?_ ?_
 ·omega
 ·exact lmz
 ·rintro k hk K hK
  by_cases hlt : k < ky.length
  ·have d1 : decide ((k : Int) < (ky.length : Int)) = true := by simpa using hlt
   have gk := cKy_get hlt
   have hft := kvP_fit h hlt
   have hcl := (nmG_ok g k).cnt
   have hpl := kvP_pl ky g k
   have hpl2 := kvP_pl ky g (k + 1)
   have hkl := kvP_len ky g k
   have hnl := (nmG_ok g k).len
   have hfd := kvP_find h hlt k hk
   have hfd2 := kvP_find h hlt (k + 1) hlt
   have hnq := (nmG_ok g (k + 1)).eq
   (refine wk1 (an @cKy_len @d1) ?_;(repeat clear hK K);repeat refine kq fun K hK=>?_)
   refine cxz ?_
   cases hf : (List.range k).find? (fun t => decide (g t = g k)) with
   | some t0 =>
    have h2 := List.find?_range_eq_some.1 hf
    have h3 : t0 < k := by simpa using h2.2.1
    have h4 : g t0 = g k := by simpa using h2.1
    have hkv : kvP ky g (k + 1) = kvP ky g k := kvP_some hf
    have hng := nmG_some hf
    obtain ⟨t, a1, a2, j, a3⟩ : ∃ t, t < k ∧ g t = g k ∧ ∃ j, kvFind .ks (ky.getD k (.int .i64 0)) (kvP ky g k) 0 = some (some (j, .v (.int .i64 ((nmG g k).1.getD t 0)))) := by
     rcases hfd with h | ⟨a1, _⟩
     ·exact h
     ·exact absurd h4 (a1 t0 h3)
    have he : (nmG g k).1.getD t 0 = (nmG g k).1.getD t0 0 := ((nmG_ok g k).eq t t0 a1 h3).2 (a2.trans h4.symm)
    rw [he] at a3
    have cs := cI1 (nmG g k).1 ((nmG g k).1.getD t0 0) hnl
    obtain ⟨M, hM⟩ := kvP_form ky g k
    generalize kvP ky g k = kv at *
    subst hM
    generalize nmG g k = p at *
    generalize ky.getD k (.int .i64 0) = kk at *
    (refine wk1 (an @cKy_len @gk) ?_;(repeat clear hK K);repeat refine kq fun K hK=>?_)
    (refine lst_cons rfl ?_; intro K1 hK1; refine stp_lookup (id := 1) (kv := M.map fun p => (p.1, C.v p.2)) (zv := .int .i64 0) Tryz.underlying94 (keyOk_s Tryz.underlying9) rfl rfl rfl (by simp only [go_sem]) rfl hpl (by simp only [go_sem, keyOf]) hft a3 ?_; simp only [go_sem, lkV]; refine hK1 _ ?_; clear hK1 K1)
    (refine wk1 @Bool.not_true ?_;(repeat clear hK K);repeat refine kq fun K hK=>?_)
    refine cyz ?_
    (refine wk0 ?_;(repeat clear hK K);repeat refine kq fun K hK=>?_)
    (refine lst_cons rfl ?_; intro K1 hK1; refine stp_lookup (id := 1) (kv := M.map fun p => (p.1, C.v p.2)) (zv := .int .i64 0) Tryz.underlying94 (keyOk_s Tryz.underlying9) rfl rfl rfl (by simp only [go_sem]) rfl hpl (by simp only [go_sem, keyOf]) hft a3 ?_; simp only [go_sem, lkV]; refine hK1 _ ?_; clear hK1 K1)
    (refine wk1 (an @cs (an @cInts_len @hnl)) ?_;(repeat clear hK K);repeat refine kq fun K hK=>?_)
    refine rnz ?_
    refine hK _ (k + 1) (by omega) (by omega) ?_
    refine Le.trans (le_pick [0, 1, 4] rfl rfl) ?_
    (try simp only [List.set_nil, List.take_nil, List.take_zero, List.map_append, go_sem])
    (try simp only [cInts_ren, cKy_ren, List.map_map, Function.comp_def, List.map_append, List.map_cons, List.map_nil])
    rw [hkv, hng]
    exact lmz
   | none =>
    have hno := List.find?_range_eq_none.1 hf
    have hkv := kvP_none (ky := ky) hf
    have hng := nmG_none hf
    have a2 : kvFind .ks (ky.getD k (.int .i64 0)) (kvP ky g k) 0 = some none := by
     rcases hfd with ⟨t, a1, a2, _⟩ | ⟨_, a2⟩
     ·exact absurd a2 (by simpa using hno t a1)
     ·exact a2
    obtain ⟨j, a3⟩ : ∃ j, kvFind .ks (ky.getD k (.int .i64 0)) (kvP ky g (k + 1)) 0 = some (some (j, .v (.int .i64 (nmG g k).2))) := by
     rcases hfd2 with ⟨t, a1, a2, j, a3⟩ | ⟨a1, _⟩
     ·refine ⟨j, ?_⟩
      rw [a3, (hnq t k a1 (by omega)).2 a2, hng, getD_snoc_eq hnl.symm]
     ·exact absurd rfl (a1 k (by omega))
    have cs := cI1 (nmG g k).1 (nmG g k).2 hnl
    rw [hkv] at a3 hpl2
    obtain ⟨M, hM⟩ := kvP_form ky g k
    generalize kvP ky g k = kv at *
    subst hM
    generalize nmG g k = p at *
    generalize ky.getD k (.int .i64 0) = kk at *
    (refine wk1 (an @cKy_len @gk) ?_;(repeat clear hK K);repeat refine kq fun K hK=>?_)
    (refine lst_cons rfl ?_; intro K1 hK1; refine stp_lookup (id := 1) (kv := M.map fun p => (p.1, C.v p.2)) (zv := .int .i64 0) Tryz.underlying94 (keyOk_s Tryz.underlying9) rfl rfl rfl (by simp only [go_sem]) rfl hpl (by simp only [go_sem, keyOf]) hft a2 ?_; simp only [go_sem, lkV]; refine hK1 _ ?_; clear hK1 K1)
    (refine wk1 @Bool.not_false ?_;(repeat clear hK K);repeat refine kq fun K hK=>?_)
    refine cxz ?_
    (refine wk0 ?_;(repeat clear hK K);repeat refine kq fun K hK=>?_)
    (refine lst_cons rfl ?_; intro K1 hK1; refine stp_lenm (id := 1) (kv := M.map fun p => (p.1, C.v p.2)) Tryz.underlying94 rfl rfl rfl rfl rfl (by simp only [go_sem]) rfl ?_; simp only [go_sem, hkl]; refine hK1 _ ?_; clear hK1 K1)
    (refine wk0 ?_;(repeat clear hK K);repeat refine kq fun K hK=>?_)
    (refine lst_cons rfl ?_; intro K1 hK1; refine stp_mapnew (id := 1) (kv := M.map fun p => (p.1, C.v p.2)) (c := .v (.int .i64 p.2)) Tryz.underlying94 (keyOk_s Tryz.underlying9) rfl rfl (by simp only [go_sem]) rfl hpl (by simp only [go_sem, keyOf]) hft (by simp only [go_sem]) rfl a2 ?_; simp only [go_sem]; refine hK1 _ ?_; clear hK1 K1)
    (refine wk0 ?_;(repeat clear hK K);repeat refine kq fun K hK=>?_)
    (refine lst_cons rfl ?_; intro K1 hK1; refine stp_lookup (id := 1) (kv := (M.map fun p => (p.1, C.v p.2)) ++ [(kk, .v (.int .i64 p.2))]) (zv := .int .i64 0) Tryz.underlying94 (keyOk_s Tryz.underlying9) rfl rfl rfl (by simp only [go_sem]) rfl hpl2 (by simp only [go_sem, keyOf]) hft a3 ?_; simp only [go_sem, lkV]; refine hK1 _ ?_; clear hK1 K1)
    (refine wk1 (an @cs (an @cInts_len @hnl)) ?_;(repeat clear hK K);repeat refine kq fun K hK=>?_)
    refine rnz ?_
    refine hK _ (k + 1) (by omega) (by omega) ?_
    refine Le.trans (le_pick [0, 1, 4] rfl rfl) ?_
    (try simp only [List.set_nil, List.take_nil, List.take_zero, List.map_append, go_sem])
    (try simp only [cInts_ren, cKy_ren, List.map_map, Function.comp_def, List.map_append, List.map_cons, List.map_nil])
    rw [hkv, hng]
    exact lmz
  ·have d1 : decide ((k : Int) < (ky.length : Int)) = false := by simpa using hlt
   have hke : k = ky.length := by omega
   have hkl := kvP_len ky g k
   rw [← hke]
   rw [← hke] at d1
   (refine wk1 @d1 ?_;(repeat clear hK K);repeat refine kq fun K hK=>?_)
   refine cyz ?_
   (refine ekz ?_;repeat clear hK K)
   (refine wk0 ?_;(repeat clear hK K);repeat refine kq fun K hK=>?_)
   (refine lst_cons rfl ?_; intro K1 hK1; refine stp_lenm (id := 1) (kv := kvP ky g k) Tryz.underlying94 rfl rfl rfl rfl rfl (by simp only [go_sem]) rfl ?_; simp only [go_sem, hkl]; refine hK1 _ ?_; clear hK1 K1)
   (refine wk0 ?_;(repeat clear hK K);repeat refine kq fun K hK=>?_)
   ((try refine aw_ret ?_); (try simp only [ThenA, InBl]); refine ret_le (le_pick [0, 2] rfl rfl) ?_; (try simp only [List.set_nil, List.take_nil, List.take_zero, List.map_append, go_sem]); ((try refine aw_ret ?_); (try refine lst_nil ?_); (try simp only [ThenA, InBl]); refine ret_mk (by first | exact .inl rfl | exact .inr rfl) rfl ?_; simp only [rtn, resA, resL, resV, Tryz.results42, go_sem, true_and, and_true, cInts_ren, cKy_ren, rInts]))
   rw [hke]; exact ⟨rfl, rfl⟩
end
def KeyN (L : List Int) : Prop := ∀ x ∈ L, 0 ≤ x ∧ x < 2147483648
theorem keyEq_N {x y : List Int} (hx : KeyN x) (hy : KeyN y) : keyEq .ks (keyS x) (keyS y) = some (decide (x = y)) := by
 show some _ = some _
 congr 1
 rw [Bool.eq_iff_iff, decide_eq_true_iff, MapKept.bytes_beq]
 exact ⟨fun h => keyS_inj hx hy (by unfold keyS; rw [h]), fun h => by rw [h]⟩
def flP (l : List Ar) : List Int := l.flatMap fun a => [a.1, a.2]
theorem flP_inj : ∀ {x y : List Ar}, flP x = flP y → x = y
 | [], [], _ => rfl
 | [], b :: y, h => by simp [flP] at h
 | a :: x, [], h => by simp [flP] at h
 | a :: x, b :: y, h => by
  have h1 : flP (a :: x) = a.1 :: a.2 :: flP x := rfl
  have h2 : flP (b :: y) = b.1 :: b.2 :: flP y := rfl
  rw [h1, h2] at h
  injection h with h3 h4
  injection h4 with h5 h6
  rw [flP_inj h6]
  congr 1
  rcases a with ⟨p, q⟩; rcases b with ⟨r, s⟩
  simp only at h3 h5
  rw [h3, h5]
theorem flP_len (l : List Ar) : (flP l).length = l.length * 2 := by
 induction l with
 | nil => rfl
 | cons a r ih =>
  have h1 : flP (a :: r) = a.1 :: a.2 :: flP r := rfl
  rw [h1]; simp [ih]; omega
theorem flP_snoc (l : List Ar) (a : Ar) : flP (l ++ [a]) = flP l ++ [a.1, a.2] := by simp [flP]
def kyN (O : List (List Ar)) (D nw : List Int) (s : Nat) : List Int := nw.getD s 0 :: flP (O.getD (cpF D s) [])
def kyV (O : List (List Ar)) (D nw : List Int) (n : Nat) : List Value := (List.range n).map fun s => keyS (kyN O D nw s)
theorem kyV_len (O : List (List Ar)) (D nw : List Int) (n : Nat) : (kyV O D nw n).length = n := by simp [kyV]
theorem kyV_get {O : List (List Ar)} {D nw : List Int} {n s : Nat} (h : s < n) : (kyV O D nw n)[s]? = some (keyS (kyN O D nw s)) := by simp [kyV, h]
theorem arU_bd {X : List (List Ar)} {cl : List Int} (hv : valB X = true) (hc : Nrm X.length cl) (hn : X.length ≤ 100) : ∀ x ∈ arU cl X, (0 ≤ x.1 ∧ x.1 < 2147483648) ∧ 0 ≤ x.2 ∧ x.2 < 2147483648 := by
 intro x hx
 have hlo : looB X = true := decide_eq_true (of_decide_eq_true hv).1
 have hrng := hc.rng
 have hg : ∀ i, i < X.length → 0 ≤ cl.getD i 0 ∧ cl.getD i 0 < 2147483648 := fun i hi => by
  have hl := hc.len
  rw [List.getD_eq_getElem?_getD, List.getElem?_eq_getElem (by omega), Option.getD_some]
  have := hrng _ (List.getElem_mem (show i < cl.length by omega))
  omega
 obtain ⟨s, hs, h⟩ := List.mem_flatMap.1 hx
 have hs : s < X.length := by simpa using hs
 rcases List.mem_cons.1 h with rfl | h
 ·exact ⟨by simp, hg s hs⟩
 ·obtain ⟨a, ha, e⟩ := List.mem_filterMap.1 h
  have hgd : X.getD s [] = X[s] := by rw [List.getD_eq_getElem?_getD, List.getElem?_eq_getElem hs]; rfl
  rw [hgd] at ha
  have hb := (of_decide_eq_true hlo).2.2.2 _ (List.getElem_mem hs) a ha
  unfold arA at e
  split at e
  ·cases e
   exact ⟨by simp only; omega, hg _ (by omega)⟩
  ·cases e
theorem kyN_ok {X : List (List Ar)} {D cl : List Int} {Q : List Nat} {O : List (List Ar)} {i : Nat} {f : Nat → Nat} (hv : valB X = true) (hc : Nrm X.length cl) (hn : X.length ≤ 100) (hP : P3 f cl X Q i O) {s : Nat} (hs : s < X.length) : KeyN (kyN O D cl s) := by
 intro x hx
 rcases List.mem_cons.1 hx with rfl | hx
 ·have hl := hc.len
  rw [List.getD_eq_getElem?_getD, List.getElem?_eq_getElem (by omega), Option.getD_some]
  have := hc.rng _ (List.getElem_mem (show s < cl.length by omega))
  omega
 ·obtain ⟨a, ha, h⟩ := List.mem_flatMap.1 hx
  have hb := arU_bd hv hc hn _ (hP.sub _ _ ha)
  simp only [List.mem_cons, List.not_mem_nil, or_false] at h
  rcases h with rfl | rfl
  ·exact hb.1
  ·exact hb.2
theorem kyV_ok {X : List (List Ar)} {D cl : List Int} {Q : List Nat} {O : List (List Ar)} (hv : valB X = true) (h : CpOk X D) (hQ : OrdOk (edL (cpF D) X X.length) X.length (cpF D) Q) (hc : Nrm X.length cl) (hn : X.length ≤ 100) (hP : P3 (cpF D) cl X Q Q.length O) : KyOk (kyV O D cl X.length) (ftS (satR X) cl) := by
 intro a b ha hb
 rw [kyV_len] at ha hb
 rw [List.getD_eq_getElem?_getD, kyV_get ha, List.getD_eq_getElem?_getD, kyV_get hb, Option.getD_some, Option.getD_some, keyEq_N (kyN_ok hv hc hn hP ha) (kyN_ok hv hc hn hP hb)]
 congr 1
 rw [decide_eq_decide]
 unfold kyN ftS
 rw [P3.done hv h hQ hP ha, P3.done hv h hQ hP hb]
 constructor
 ·intro e
  injection e with e1 e2
  rw [e1, flP_inj e2]
 ·intro e
  injection e with e1 e2
  rw [e1, e2]
def kyD (kd ke : Value) (B : List Bool) (n k : Nat) : List Value := (List.range n).map fun s => if s < k ∧ B.getD s false = true then kd else ke
theorem kyD_len (kd ke : Value) (B : List Bool) (n k : Nat) : (kyD kd ke B n k).length = n := by simp [kyD]
theorem kyD_zero (kd ke : Value) (B : List Bool) (n : Nat) : kyD kd ke B n 0 = List.replicate n ke := by
 refine List.ext_getElem (by simp [kyD]) fun i h1 h2 => ?_
 simp [kyD]
theorem kyD_true {kd ke : Value} {B : List Bool} {n k : Nat} (h : B.getD k false = true) : (kyD kd ke B n k).set k kd = kyD kd ke B n (k + 1) := by
 refine List.ext_getElem (by simp [kyD]) fun i h1 h2 => ?_
 rw [List.getElem_set]
 simp only [kyD, List.getElem_map, List.getElem_range]
 by_cases e : k = i
 ·subst e; rw [if_pos rfl, if_pos ⟨by omega, h⟩]
 ·rw [if_neg e]
  by_cases hb : B.getD i false = true
  ·by_cases hk : i < k
   ·rw [if_pos ⟨hk, hb⟩, if_pos ⟨by omega, hb⟩]
   ·rw [if_neg (fun h => hk h.1), if_neg (fun h => by have := h.1; omega)]
  ·rw [if_neg (fun h => hb h.2), if_neg (fun h => hb h.2)]
theorem kyD_false {kd ke : Value} {B : List Bool} {n k : Nat} (h : B.getD k false = false) : kyD kd ke B n (k + 1) = kyD kd ke B n k := by
 refine List.map_congr_left fun i _ => ?_
 by_cases hb : B.getD i false = true
 ·by_cases e : i = k
  ·subst e; rw [h] at hb; cases hb
  ·by_cases hk : i < k
   ·rw [if_pos ⟨by omega, hb⟩, if_pos ⟨hk, hb⟩]
   ·rw [if_neg (fun h => by have := h.1; omega), if_neg (fun h => hk h.1)]
 ·rw [if_neg (fun h => hb h.2), if_neg (fun h => hb h.2)]
theorem kyD_ok {kd ke : Value} (h1 : keyEq .ks kd kd = some true) (h2 : keyEq .ks ke ke = some true) (h3 : keyEq .ks kd ke = some false) (h4 : keyEq .ks ke kd = some false) (B : List Bool) (n : Nat) : KyOk (kyD kd ke B n n) (fun s => B.getD s false) := by
 intro a b ha hb
 rw [kyD_len] at ha hb
 have g : ∀ s, s < n → (kyD kd ke B n n).getD s (.int .i64 0) = if B.getD s false = true then kd else ke := fun s hs => by
  rw [List.getD_eq_getElem?_getD, List.getElem?_eq_getElem (by rw [kyD_len]; exact hs), Option.getD_some]
  simp only [kyD, List.getElem_map, List.getElem_range, hs, true_and]
 rw [g a ha, g b hb]
 show _ = some (decide (B.getD a false = B.getD b false))
 cases B.getD a false <;> cases B.getD b false <;> simp [h1, h2, h3, h4]
end Go.Proofs.YtahnebicgbjonaaGreat
namespace Go.Proofs.YtahnebicgbjonaaGreat
set_option linter.unusedVariables false
set_option linter.unusedSimpArgs false
open Go.RowKit
set_option maxRecDepth 100000

def evLits : List Int := [0, 0, 2, 3, 4, 2, 3, 1, 2, 5, 1025]
theorem evLits_b : ∀ x ∈ evLits, 0 ≤ x ∧ x ≤ 1025 := by decide
theorem evLits_len : evLits.length = 11 := rfl
theorem evLits_take : evLits.take 11 = evLits := rfl
theorem event_fc (T : List Int) (hT : TpOk T) (a : Nat) (ha : a ≤ 100000000) : FC Tryz.prog 24 [.a (.c (.p 0 0))] [tape T a] (fun r o => o = [tape T (a + 1)] ∧ ∃ v : Int, r = .i v ∧ 0 ≤ v ∧ v ≤ 1025) := by
 refine fc_intro Tryz.func24 rfl (by rw [Tryz.ntmps24]; simp) ?_
 rw [Tryz.ntmps24]
 simp only [enum, tape]
 (refine wk1 (an @List.set_cons_zero.{0} @List.set_cons_succ.{0}) ?_;(repeat clear hK K);repeat refine kq fun K hK=>?_)
 (refine lst_le (le_frz (r := ⟨3, 1, true, cInts evLits⟩) 1 (tInts evLits) rfl (fz_c _) (show 0 < (1 : Nat) by omega)) ?_; simp only [ST.frz, A0.frz, AV.frz, C.frz, Nat.le_refl, List.set_cons_zero, List.set_cons_succ, go_sem, tInts_len, evLits_len, tInts_take, evLits_take])
 (refine wk1 (an @tInts_len @evLits_len) ?_;(repeat clear hK K);repeat refine kq fun K hK=>?_)
 (refine lst_cons rfl ?_; intro K1 hK1; refine stp_callσ (ids := []) [0] (next_fc T a 11 hT (by omega) (by omega)) rfl rfl (by simp only [go_sem]) (by first | assumption | kernel_rfl) rfl rfl (by (simp only [List.map_append, List.append_nil, go_sem]) <;> rfl) (by (simp only [pkh, tape, go_sem]) <;> rfl) ?_ ?_)
 ·rintro _ _ ⟨rfl, v, rfl, _⟩; rfl
 rintro _ _ ⟨rfl, v, rfl, hv⟩
 (simp only [aInts, aSets, tape, List.append_nil, List.nil_append, List.length_map, go_sem]; refine hK1 _ ?_; clear hK1 K1)
 have hv2 : v < evLits.length := by rw [evLits_len]; omega
 (refine wk1 (an @tInts_len (tInts_get (List.getElem?_eq_getElem hv2))) ?_;(repeat clear hK K);repeat refine kq fun K hK=>?_)
 refine rp0 [0] Tryz.results24 ?_
 exact ⟨_, rfl, evLits_b _ (List.getElem_mem hv2)⟩

theorem rows_nil (m : Nat) : (List.replicate m (C.o (2, 49) [])).map otC = cRows (List.replicate m []) := by
 simp [cRows, otC, tArcs]
theorem okSys_nil (m : Nat) : OkSys 3 m (List.replicate m []) := ⟨by simp, fun r hr => by
 rw [List.mem_replicate] at hr
 rw [hr.2]
 exact ⟨by simp [SortA], by simp, by simp⟩⟩

def oLts (R : List (List Ar)) : Ob := .r ⟨25, 1, false, [.t 1 (tRows R)]⟩
theorem lts_fc (T : List Int) (hT : TpOk T) (a0 n : Nat) (ha : a0 ≤ 1000000) (hn1 : 1 ≤ n) (hn : n ≤ 20) :
  FC Tryz.prog 7 [.a (.c (.p 0 0)), .i n] [tape T a0] (fun r o => ∃ a' R, o = [tape T a', oLts R] ∧ r = aLts R ∧ a' ≤ a0 + 1 + 7 * n ∧ 1 ≤ R.length ∧ R.length ≤ n ∧ OkSys 3 R.length R) := by
 refine fc_intro Tryz.func7 rfl (by rw [Tryz.ntmps7]; simp) ?_
 rw [Tryz.ntmps7]
 simp only [enum, tape, oLts]
 (refine wk0 ?_;(repeat clear hK K);repeat refine kq fun K hK=>?_)
 (refine lst_cons rfl ?_; intro K1 hK1; refine stp_callσ (ids := []) [0] (next_fc T a0 n hT (by omega) (by omega)) rfl rfl (by simp only [go_sem]) (by first | assumption | kernel_rfl) rfl rfl (by (simp only [List.map_append, List.append_nil, go_sem]) <;> rfl) (by (simp only [pkh, tape, go_sem]) <;> rfl) ?_ ?_)
 ·rintro _ _ ⟨rfl, v, rfl, _⟩; rfl
 rintro _ _ ⟨rfl, m, rfl, hm⟩
 (simp only [aInts, aSets, tape, List.append_nil, List.nil_append, List.length_map, go_sem]; refine hK1 _ ?_; clear hK1 K1)
 have em : (1 + (m : Int)).toNat = m + 1 := by omega
 (refine wk1 (an @em (an @List.set_cons_zero.{0} @List.set_cons_succ.{0})) ?_;(repeat clear hK K);repeat refine kq fun K hK=>?_)
 refine aw_le (le_ot 2 rfl) ?_
 simp only [rows_nil, List.set_cons_zero, List.set_cons_succ]
 refine aw_loop (fun p : Nat × List (List Ar) × Nat => { tm := [(0, .a (.c (.p 0 0))), (4, .a (.c (.p 1 0))), (5, .a (.c (.p 3 0))), (6, .i p.1)], hp := [.r ⟨43, 2, false, [.t 1 (tInts T), .v (.int .i64 p.2.2)]⟩, .r ⟨25, 1, false, [.v (.slice none 0 0)]⟩, .r ⟨45, 1, true, cRows p.2.1⟩, .r ⟨25, 1, false, [.s 2 (m + 1)]⟩], n := 46, pin := 1 })
  (fun p => p.1 ≤ m + 1 ∧ p.2.2 ≤ a0 + 1 + 7 * p.1 ∧ OkSys 3 (m + 1) p.2.1 ∧ ∀ q r, p.1 ≤ q → p.2.1[q]? = some r → r = []) (fun p => m + 1 - p.1) (0, List.replicate (m + 1) [], a0 + 1) ?_ ?_ ?_
 ·refine ⟨by simp, by simp, okSys_nil _, fun q r _ hr => ?_⟩
  exact List.eq_of_mem_replicate (List.mem_of_getElem? hr)
 ·exact lmz
 ·rintro ⟨i, R, a⟩ ⟨hi, hA, hR, hE⟩ K hK
  simp only at hi hA hR hE ⊢
  (refine wk0 ?_;(repeat clear hK K);repeat refine kq fun K hK=>?_)
  (refine aw_cnd ?_; intro X Y hX hY; simp only [go_sem])
  refine ⟨fun h => hX ?_, fun h => hY ?_⟩
  ·have hi1 : i < m + 1 := by simp at h; omega
   clear hX hY X Y
   (refine wk0 ?_;(repeat clear hK K);repeat refine kq fun K hK=>?_)
   (refine lst_cons rfl ?_; intro K1 hK1; refine stp_callσ (ids := []) [0] (next_fc T a 4 hT (by omega) (by omega)) rfl rfl (by simp only [go_sem]) (by first | assumption | kernel_rfl) rfl rfl (by (simp only [List.map_append, List.append_nil, go_sem]) <;> rfl) (by (simp only [pkh, tape, go_sem]) <;> rfl) ?_ ?_)
   ·rintro _ _ ⟨rfl, v, rfl, _⟩; rfl
   rintro _ _ ⟨rfl, w0, rfl, hw0⟩
   (simp only [aInts, aSets, tape, cRows_up, List.append_nil, List.nil_append, List.length_map, go_sem]; refine hK1 _ ?_; clear hK1 K1)
   (refine wk0 ?_;(repeat clear hK K);repeat refine kq fun K hK=>?_)
   refine aw_loop (fun p : Nat × List (List Ar) × Nat => { tm := [(0, .a (.c (.p 0 0))), (4, .a (.c (.p 1 0))), (5, .a (.c (.p 3 0))), (6, .i i), (7, .i p.1)], hp := [.r ⟨43, 2, false, [.t 1 (tInts T), .v (.int .i64 p.2.2)]⟩, .r ⟨25, 1, false, [.v (.slice none 0 0)]⟩, .r ⟨45, 1, true, cRows p.2.1⟩, .r ⟨25, 1, false, [.s 2 (m + 1)]⟩], n := 46, pin := 1 })
    (fun p => p.1 ≤ 3 ∧ p.2.2 + 2 * p.1 ≤ a + 7 ∧ OkSys 3 (m + 1) p.2.1 ∧ (∀ r, p.2.1[i]? = some r → r.length + p.1 ≤ 3) ∧ ∀ q r, i + 1 ≤ q → p.2.1[q]? = some r → r = []) (fun p => p.1) (w0, R, a + 1) ?_ ?_ ?_
   ·refine ⟨by simp only; omega, by simp only; omega, hR, fun r hr => ?_, fun q r hq hr => hE q r (by omega) hr⟩
    rw [hE i r (Nat.le_refl _) hr]; simp; omega
   ·exact lmz
   ·rintro ⟨w, R2, a2⟩ ⟨hw, hA2, hR2, hi2, hE2⟩ K hK
    simp only at hw hA2 hR2 hi2 hE2 ⊢
    have hl2 : i < R2.length := by rw [hR2.1]; exact hi1
    have hg2 := List.getElem?_eq_getElem hl2
    have hrow := hR2.2 _ (List.getElem_mem hl2)
    (refine wk0 ?_;(repeat clear hK K);repeat refine kq fun K hK=>?_)
    (refine aw_cnd ?_; intro X Y hX hY; simp only [go_sem])
    refine ⟨fun h => hX ?_, fun h => hY ?_⟩
    ·have hw1 : 0 < w := by simpa using h
     clear hX hY X Y
     (refine wk0 ?_;(repeat clear hK K);repeat refine kq fun K hK=>?_)
     refine aw_regionV [0] [(0,0,0),(2,0,0),(3,0,0),(5,0,0),(8,0,0),(10,0,0),(11,0,0),(1,1,18),(4,1,16),(6,0,0),(7,1,16),(12,1,14),(13,0,0),(9,2,0),(14,2,0),(15,0,0),(16,2,0),(17,0,0),(18,2,0)] (by kernel_rfl) (by kernel_rfl) (by intro c st h; simp [ThenA, InBl, Ret] at h) ?_
     (repeat (first | (refine v_0 rfl rfl rfl ?_; intro K1 hK1; simp only [undef, evR, go_sem, cRows_len, cRows_get hg2]; first | (refine hK1 _ ?_; clear hK1 K1) | (refine andk (hK1 _ ?_); clear hK1 K1)) | (refine v_1 rfl rfl rfl rfl rfl rfl rfl rfl rfl ?_; intro K1 hK1; simp only [undef, evR, go_sem, cRows_len, cRows_get hg2]; first | (refine hK1 _ ?_; clear hK1 K1) | (refine andk (hK1 _ ?_); clear hK1 K1))))
     (refine v_2 rfl rfl ?_; intro K1 hK1; refine stpX_call (ids := []) [0] (event_fc T hT a2 (by omega)) rfl rfl (by simp only [evR, go_sem]) (by kernel_rfl) rfl rfl rfl (by (simp only [evR, clos, List.map_append, List.append_nil, AV.ren, A0.ren, C.ren, idx, renIds, ofTr_ren, go_sem]) <;> rfl) (by (simp only [pkh, Ob.ren, C.ren, idx, renIds, ofTr_ren, List.getD_cons_zero, List.getD_cons_succ, tape, go_sem]) <;> rfl) ?_ ?_)
     ·rintro _ _ ⟨rfl, v, rfl, _⟩; exact born_one rfl
     rintro _ _ ⟨rfl, e, rfl, he⟩
     (simp only [aInts, aSets, tape, cRows_up, List.append_nil, List.nil_append, List.length_map, go_sem]; refine hK1 _ ?_; clear hK1 K1)
     (repeat (first | (refine v_0 rfl rfl rfl ?_; intro K1 hK1; simp only [undef, evR, go_sem]; first | (refine hK1 _ ?_; clear hK1 K1) | (refine andk (hK1 _ ?_); clear hK1 K1)) | (refine v_1 rfl rfl rfl rfl rfl rfl rfl rfl rfl ?_; intro K1 hK1; simp only [undef, evR, go_sem]; first | (refine hK1 _ ?_; clear hK1 K1) | (refine andk (hK1 _ ?_); clear hK1 K1))))
     (refine v_2 rfl rfl ?_; intro K1 hK1; refine stpX_call (ids := []) [0] (next_fc T (a2 + 1) (m + 1) hT (by omega) (by omega)) rfl rfl (by simp only [evR, go_sem]) (by kernel_rfl) rfl rfl rfl (by (simp only [evR, clos, List.map_append, List.append_nil, AV.ren, A0.ren, C.ren, idx, renIds, ofTr_ren, go_sem]) <;> rfl) (by (simp only [pkh, Ob.ren, C.ren, idx, renIds, ofTr_ren, List.getD_cons_zero, List.getD_cons_succ, tape, go_sem]) <;> rfl) ?_ ?_)
     ·rintro _ _ ⟨rfl, v, rfl, _⟩; exact born_one rfl
     rintro _ _ ⟨rfl, t, rfl, ht⟩
     (simp only [aInts, aSets, tape, cRows_up, List.append_nil, List.nil_append, List.length_map, go_sem]; refine hK1 _ ?_; clear hK1 K1)
     (repeat (first | (refine v_0 rfl rfl rfl ?_; intro K1 hK1; simp only [undef, evR, go_sem]; first | (refine hK1 _ ?_; clear hK1 K1) | (refine andk (hK1 _ ?_); clear hK1 K1)) | (refine v_1 rfl rfl rfl rfl rfl rfl rfl rfl rfl ?_; intro K1 hK1; simp only [undef, evR, go_sem]; first | (refine hK1 _ ?_; clear hK1 K1) | (refine andk (hK1 _ ?_); clear hK1 K1))))
     (refine v_2 rfl rfl ?_; intro K1 hK1; refine stpX_mono ?_; refine stpX_call (ids := []) [] (insT_fc R2[i] (e, (t : Int)) (by have := hrow.2.1; omega)) rfl rfl (by simp only [evR, go_sem]) (by kernel_rfl) rfl rfl rfl (by (simp only [evR, clos, List.map_append, List.append_nil, AV.ren, A0.ren, C.ren, idx, renIds, ofTr_ren, go_sem]) <;> rfl) (by (simp only [pkh, Ob.ren, C.ren, idx, renIds, ofTr_ren, List.getD_cons_zero, List.getD_cons_succ, aArcs, go_sem]) <;> rfl) ?_ ?_)
     ·rintro _ _ ⟨rfl, rfl⟩ i o hi hl; simp at hl
     rintro _ _ ⟨rfl, rfl⟩
     (simp only [aInts, aSets, aArcs, cRows_up, List.append_nil, List.nil_append, List.length_map, go_sem]; refine hK1 _ ?_; clear hK1 K1)
     (repeat (first | (refine v_0 rfl rfl rfl ?_; intro K1 hK1; simp only [undef, evR, go_sem]; first | (refine hK1 _ ?_; clear hK1 K1) | (refine andk (hK1 _ ?_); clear hK1 K1)) | (refine v_1 rfl rfl rfl rfl rfl rfl rfl rfl rfl ?_; intro K1 hK1; simp only [undef, evR, go_sem]; first | (refine hK1 _ ?_; clear hK1 K1) | (refine andk (hK1 _ ?_); clear hK1 K1))))
     refine v_3 rfl rfl rfl ?_; intro K1 hK1
     refine stp_ev rfl ?_; simp only [undef, evR, ST.put, setC, A0.cells, cRows_len, List.set_cons_zero, List.set_cons_succ, cRows_set, go_sem]
     (first | (refine hK1 _ ?_; clear hK1 K1) | (refine andk (hK1 _ ?_); clear hK1 K1))
     refine v_nil ⟨by simp, by simp, ?_⟩
     refine hK _ ?_; clear hK K
     (refine wk0 ?_;(repeat clear hK K);repeat refine kq fun K hK=>?_)
     refine rnz ?_
     have hx : 0 ≤ e ∧ e ≤ 1025 ∧ 0 ≤ (t : Int) ∧ (t : Int) < ((m + 1 : Nat) : Int) := ⟨he.1, he.2, by omega, by omega⟩
     have e1 : ((w : Int) - 1) = ((w - 1 : Nat) : Int) := by omega
     have hw3 := hi2 _ hg2
     refine hK _ (w - 1, R2.set i (insA (e, (t : Int)) R2[i]), a2 + 2) ⟨by simp only; omega, by simp only; omega, hR2.set ?_ i, fun r hr => ?_, fun q r hq hr => ?_⟩ (by simp only; omega) ?_
     ·exact (OkRow.ins ⟨hrow.1, Nat.le_refl _, hrow.2.2⟩ hx).le (by omega)
     ·simp only at hr ⊢
      rw [List.getElem?_set_self hl2] at hr
      cases hr
      have := insA_len (e, (t : Int)) R2[i]
      omega
     ·simp only at hr
      rw [List.getElem?_set_ne (by omega)] at hr
      exact hE2 q r hq hr
     ·(refine le_tm ?_; simp only [LeTm, go_sem, e1]; try simp)
    ·have hw0 : w = 0 := by simp at h; omega
     clear hX hY X Y
     (refine ekz ?_;repeat clear hK K)
     (refine wk0 ?_;(repeat clear hK K);repeat refine kq fun K hK=>?_)
     refine rnz ?_
     refine hK _ (i + 1, R2, a2) ⟨by simp only; omega, by simp only; omega, hR2, fun q r hq hr => hE2 q r hq hr⟩ (by simp only; omega) ?_
     exact lmz
  ·have hi1 : i = m + 1 := by simp at h; omega
   clear hX hY X Y
   (refine ekz ?_;repeat clear hK K)
   (refine wk1 (an @List.set_cons_zero.{0} @List.set_cons_succ.{0}) ?_;(repeat clear hK K);repeat refine kq fun K hK=>?_)
   refine lst_le (le_sink 3 0 2 (m + 1) (by decide) rfl rfl rfl rfl (show 0 < 1 by omega) (by simp only [cRows_len, hR.1]; omega) (fz_cr R)) ?_
   refine lst_le (le_ot 3 rfl) ?_
   simp only [nbTm, AV.nb, A0.nb, C.nb, otC, List.map_cons, List.map_nil, List.contains_cons, List.contains_nil, List.set_cons_zero, List.set_cons_succ, go_sem]
   (repeat (first | (refine aw_seq ?_; intro K hK) | refine aw_block ?_ | refine aw_region ?_ | (refine lst_x rfl rfl ?_; intro K1 hK1; simp only [go_sem, List.set_cons_zero, List.set_cons_succ, C.pl, C.one, List.all_cons, List.all_nil, Bool.and_true, List.take_succ_cons, List.take_zero, List.drop_zero]; (first | refine hK1 _ ?_ | refine andk (hK1 _ ?_)); clear hK1 K1) | ((first | refine lst_nil ?_ | refine aw_skip ?_); refine hK _ ?_; clear hK K)))
   refine rp0 [0, 1] Tryz.results7 ?_
   exact ⟨rfl, a, R, rfl, rfl, by omega, by rw [hR.1]; omega, by rw [hR.1]; omega, by rw [hR.1]; exact hR⟩
def ntC (k : Nat) : C → C
 | .o k cs => .t k.1 cs
 | .v (.slice none 0 0) => .t k []
 | c => c
def ntA : List Nat → List C → List C
 | k :: ks, c :: cs => ntC k c :: ntA ks cs
 | [], c :: cs => otC c :: ntA [] cs
 | _, [] => []
theorem ntC_cases (k : Nat) (c : C) : ntC k c = otC c ∨ (c = .v (.slice none 0 0) ∧ ntC k c = .t k []) := by
 unfold ntC
 split
 ·exact .inl rfl
 ·exact .inr ⟨rfl, rfl⟩
 ·rename_i h1 h2
  refine .inl ?_
  cases c <;> first | rfl | exact absurd rfl (h1 _ _)
theorem ntA_get {ks : List Nat} {cs : List C} {j : Nat} {c : C} (h : (ntA ks cs)[j]? = some c) : ∃ c0, cs[j]? = some c0 ∧ (c = otC c0 ∨ ∃ k, c0 = .v (.slice none 0 0) ∧ c = .t k []) := by
 induction cs generalizing ks j with
 | nil => cases ks <;> simp [ntA] at h
 | cons x r ih =>
  cases ks with
  | nil =>
   cases j with
   | zero => simp [ntA] at h; exact ⟨x, rfl, .inl h.symm⟩
   | succ j => simp [ntA] at h; obtain ⟨c0, h1, h2⟩ := ih h; exact ⟨c0, by simpa using h1, h2⟩
  | cons k ks =>
   cases j with
   | zero =>
    simp [ntA] at h
    refine ⟨x, rfl, ?_⟩
    rcases ntC_cases k x with e | ⟨e1, e2⟩
    ·exact .inl (by rw [← h, e])
    ·exact .inr ⟨k, e1, by rw [← h, e2]⟩
   | succ j => simp [ntA] at h; obtain ⟨c0, h1, h2⟩ := ih h; exact ⟨c0, by simpa using h1, h2⟩
theorem ntA_no {ks : List Nat} {cs : List C} {j : Nat} {k : Nat × Nat} {ts : List Tr} : (ntA ks cs)[j]? ≠ some (.o k ts) := by
 intro h
 obtain ⟨c0, _, h | ⟨_, _, h⟩⟩ := ntA_get h
 ·exact otC_no h.symm
 ·cases h
theorem ntA_len (ks : List Nat) (cs : List C) : (ntA ks cs).length = cs.length := by
 induction cs generalizing ks with
 | nil => cases ks <;> rfl
 | cons x r ih => cases ks <;> simp [ntA, ih]
theorem le_nt {s : ST} (i : Nat) (ks : List Nat) {r : Row} (hi : s.hp[i]? = some (.r r)) : Le s { s with hp := s.hp.set i (.r { r with cells := ntA ks r.cells }) } := by
 rintro M0 w0 a w ⟨g, hpp, hR⟩
 have hlt : i < s.hp.length := (List.getElem?_eq_some_iff.1 hi).1
 have self : (s.hp.set i (.r { r with cells := ntA ks r.cells }))[i]? = some (.r { r with cells := ntA ks r.cells }) := by simp [hlt]
 have other : ∀ q, q ≠ i → (s.hp.set i (.r { r with cells := ntA ks r.cells }))[q]? = s.hp[q]? := fun q hq => by rw [List.getElem?_set_ne (Ne.symm hq)]
 generalize hh : s.hp.set i (.r { r with cells := ntA ks r.cells }) = hp' at *
 have ncl : ∀ j, ¬ Lv hp' g (.cl i j) := by
  rintro j ⟨r2, k, cs, e1, e2, _⟩
  rw [self] at e1
  cases e1
  exact ntA_no e2
 have sub : ∀ ℓ, Lv hp' g ℓ → Lv s.hp g ℓ := by
  intro ℓ hl
  cases ℓ with
  | ob q =>
   by_cases hq : q = i
   ·subst hq
    rcases hl with ⟨r2, e1, e2⟩ | ⟨kv, e1⟩
    ·exact .inl ⟨r, hi, e2⟩
    ·rw [self] at e1; cases e1
   ·rcases hl with ⟨r2, e1, e2⟩ | ⟨kv, e1⟩
    ·exact .inl ⟨r2, by rw [← other q hq]; exact e1, e2⟩
    ·exact .inr ⟨kv, by rw [← other q hq]; exact e1⟩
  | cl q j =>
   by_cases hq : q = i
   ·subst hq; exact absurd hl (ncl j)
   ·obtain ⟨r2, k, cs, e1, e2, e3⟩ := hl
    exact ⟨r2, k, cs, by rw [← other q hq]; exact e1, e2, e3⟩
 have ow : ∀ b, Ow hp' g b → Ow s.hp g b := fun b ho => ho.imp (fun h => h) (fun ⟨ℓ, hl, e⟩ => ⟨ℓ, sub ℓ hl, e⟩)
 have hm : Mo g s.hp w g hp' w (fun _ => True) := by
  refine ⟨fun q hq => ⟨?_, rfl, rfl⟩, fun b _ ho => ow b ho, Nat.le_refl _, fun _ _ _ => rfl, fun q _ hq r2 j k cs e1 e2 => ?_⟩
  ·by_cases e : q = i
   ·subst e; exact ⟨_, self, rfl⟩
   ·obtain ⟨o, h1, h2⟩ := hq
    exact ⟨o, by rw [other q e]; exact h1, h2⟩
  ·by_cases e : q = i
   ·subst e
    rw [self] at e1
    cases e1
    exact absurd e2 ntA_no
   ·exact ⟨r2, by rw [← other q e]; exact e1, e2, fun _ => rfl⟩
 have hr := hR.hr
 refine ⟨g, ⟨by show s.pin ≤ hp'.length; rw [← hh]; simpa using hpp.1, hpp.2⟩, hR.mo hm ?_ (fun ℓ hl => hR.new ℓ (sub ℓ hl)) hR.fp⟩
 refine ⟨hr.ml, fun ℓ hl => hr.md ℓ (sub ℓ hl), fun ℓ ℓ' h1 h2 => hr.inj ℓ ℓ' (sub ℓ h1) (sub ℓ' h2), fun q r2 e1 => ?_, fun q kv e1 => ?_, hm.gl hr.gl⟩
 ·by_cases e : q = i
  ·subst e
   rw [self] at e1
   cases e1
   rcases hr.row q r hi with ⟨k1, k2⟩ | ⟨k1, k2, arr, k3, k4, k5, k6, k7⟩
   ·exact .inl ⟨k1, by simp [k2, ntA]⟩
   ·refine .inr ⟨k1, fun h1 h2 => k2 h1 (List.length_eq_zero_iff.1 (by rw [← ntA_len ks]; exact List.length_eq_zero_iff.2 h2)), arr, k3, by simpa [ntA_len] using k4, k5, k6, fun j c hj => ?_⟩
    obtain ⟨c0, hc0, hcc⟩ := ntA_get hj
    obtain ⟨u, u1, u2⟩ := k7 j c0 hc0
    refine ⟨u, u1, ?_⟩
    rcases hcc with rfl | ⟨k, rfl, rfl⟩
    ·cases c0 with
     | o k cs => exact rd_of_cell (t := .l k.1 cs) (fun b _ ho => ow b ho) hr hi ncl sub hc0 (.inl rfl) u2
     | _ => exact CellR.mo hm u2 (fun k cs hc => by cases hc)
    ·have hu : u = .slice none 0 0 := u2
     rw [hu]
     exact Rd.e _ _ _
  ·rw [other q e] at e1
   exact RowR.mo hm e1 (hr.row q r2 e1) (fun _ => rfl) (fun _ _ _ _ _ => ⟨rfl, rfl⟩)
 ·by_cases e : q = i
  ·subst e; rw [self] at e1; cases e1
  ·rw [other q e] at e1
   exact MpR.mo hm e1 (hr.mp q kv e1) rfl
theorem le_cell {s : ST} (i j id : Nat) {r : Row} {e0 k0 : Nat} (hne : i ≠ id) (hi : s.hp[i]? = some (.r r)) (hj : r.cells[j]? = some (.v (.slice none 0 0))) (hid : s.hp[id]? = some (.r ⟨e0, k0, true, []⟩)) : Le s { s with hp := s.hp.set i (.r { r with cells := r.cells.set j (.s id 0) }) } := by
 rintro M0 w0 a w ⟨g, hpp, hR⟩
 have hlt : i < s.hp.length := (List.getElem?_eq_some_iff.1 hi).1
 have hjl : j < r.cells.length := (List.getElem?_eq_some_iff.1 hj).1
 have self : (s.hp.set i (.r { r with cells := r.cells.set j (.s id 0) }))[i]? = some (.r { r with cells := r.cells.set j (.s id 0) }) := by simp [hlt]
 have other : ∀ q, q ≠ i → (s.hp.set i (.r { r with cells := r.cells.set j (.s id 0) }))[q]? = s.hp[q]? := fun q hq => by rw [List.getElem?_set_ne (Ne.symm hq)]
 have cel : ∀ q c, (r.cells.set j (.s id 0))[q]? = some c → (q = j ∧ c = .s id 0) ∨ (q ≠ j ∧ r.cells[q]? = some c) := by
  intro q c hq
  by_cases e : q = j
  ·subst e; rw [List.getElem?_set_self hjl] at hq; cases hq; exact .inl ⟨rfl, rfl⟩
  ·rw [List.getElem?_set_ne (Ne.symm e)] at hq; exact .inr ⟨e, hq⟩
 generalize hh : s.hp.set i (.r { r with cells := r.cells.set j (.s id 0) }) = hp' at *
 have sub : ∀ ℓ, Lv hp' g ℓ → Lv s.hp g ℓ := by
  intro ℓ hl
  cases ℓ with
  | ob q =>
   by_cases hq : q = i
   ·subst hq
    rcases hl with ⟨r2, e1, e2⟩ | ⟨kv, e1⟩
    ·exact .inl ⟨r, hi, e2⟩
    ·rw [self] at e1; cases e1
   ·rcases hl with ⟨r2, e1, e2⟩ | ⟨kv, e1⟩
    ·exact .inl ⟨r2, by rw [← other q hq]; exact e1, e2⟩
    ·exact .inr ⟨kv, by rw [← other q hq]; exact e1⟩
  | cl q j2 =>
   obtain ⟨r2, k, cs, e1, e2, e3⟩ := hl
   by_cases hq : q = i
   ·subst hq
    rw [self] at e1
    cases e1
    rcases cel j2 _ e2 with ⟨_, h⟩ | ⟨_, h⟩
    ·cases h
    ·exact ⟨r, k, cs, hi, h, e3⟩
   ·exact ⟨r2, k, cs, by rw [← other q hq]; exact e1, e2, e3⟩
 have ow : ∀ b, Ow hp' g b → Ow s.hp g b := fun b ho => ho.imp (fun h => h) (fun ⟨ℓ, hl, e⟩ => ⟨ℓ, sub ℓ hl, e⟩)
 have hm : Mo g s.hp w g hp' w (fun _ => True) := by
  refine ⟨fun q hq => ⟨?_, rfl, rfl⟩, fun b _ ho => ow b ho, Nat.le_refl _, fun _ _ _ => rfl, fun q _ hq r2 j2 k cs e1 e2 => ?_⟩
  ·by_cases e : q = i
   ·subst e; exact ⟨_, self, rfl⟩
   ·obtain ⟨o, h1, h2⟩ := hq
    exact ⟨o, by rw [other q e]; exact h1, h2⟩
  ·by_cases e : q = i
   ·subst e
    rw [self] at e1
    cases e1
    rcases cel j2 _ e2 with ⟨_, h⟩ | ⟨_, h⟩
    ·cases h
    ·exact ⟨r, hi, h, fun _ => rfl⟩
   ·exact ⟨r2, by rw [← other q e]; exact e1, e2, fun _ => rfl⟩
 have hr := hR.hr
 refine ⟨g, ⟨by show s.pin ≤ hp'.length; rw [← hh]; simpa using hpp.1, hpp.2⟩, hR.mo hm ?_ (fun ℓ hl => hR.new ℓ (sub ℓ hl)) hR.fp⟩
 refine ⟨hr.ml, fun ℓ hl => hr.md ℓ (sub ℓ hl), fun ℓ ℓ' h1 h2 => hr.inj ℓ ℓ' (sub ℓ h1) (sub ℓ' h2), fun q r2 e1 => ?_, fun q kv e1 => ?_, hm.gl hr.gl⟩
 ·by_cases e : q = i
  ·subst e
   rw [self] at e1
   cases e1
   rcases hr.row q r hi with ⟨k1, k2⟩ | ⟨k1, k2, arr, k3, k4, k5, k6, k7⟩
   ·rw [k2] at hj; simp at hj
   ·refine .inr ⟨k1, fun h1 h2 => k2 h1 (List.length_eq_zero_iff.1 (by rw [← List.length_set (i := j) (a := C.s id 0)]; exact List.length_eq_zero_iff.2 h2)), arr, k3, by simpa using k4, k5, k6, fun j2 c hj2 => ?_⟩
    rcases cel j2 c hj2 with ⟨rfl, rfl⟩ | ⟨_, h⟩
    ·obtain ⟨u, u1, u2⟩ := k7 j2 _ hj
     have hu : u = .slice none 0 0 := u2
     refine ⟨u, u1, ?_⟩
     have hκ : g.κ id = 0 := by
      rcases hr.row id _ hid with ⟨z, _⟩ | ⟨_, z, _⟩
      ·exact z
      ·exact absurd rfl (z rfl)
     have hid' : hp'[id]? = some (.r ⟨e0, k0, true, []⟩) := by rw [other id (Ne.symm hne)]; exact hid
     exact ⟨⟨_, hid', rfl⟩, Nat.zero_le _, none, by rw [hu, hκ], fun hn => absurd hκ hn, by simp⟩
    ·obtain ⟨u, u1, u2⟩ := k7 j2 c h
     exact ⟨u, u1, CellR.mo hm u2 (fun k cs hc _ => ⟨rfl, rfl⟩)⟩
  ·rw [other q e] at e1
   exact RowR.mo hm e1 (hr.row q r2 e1) (fun _ => rfl) (fun _ _ _ _ _ => ⟨rfl, rfl⟩)
 ·by_cases e : q = i
  ·subst e; rw [self] at e1; cases e1
  ·rw [other q e] at e1
   exact MpR.mo hm e1 (hr.mp q kv e1) rfl
theorem le_new {s : ST} (e k : Nat) : Le s { s with hp := s.hp ++ [.r ⟨e, k, true, []⟩] } := by
 rintro M0 w0 a w ⟨g, hpp, hR⟩
 have hb := hR.birth0 (w' := w) (hp' := s.hp ++ [.r ⟨e, k, true, []⟩]) (id := s.hp.length) (r := ⟨e, k, true, []⟩) bn_len (push_ne _) (push_self _) rfl (Fp.refl _ _)
 exact ⟨_, ⟨by have := hpp.1; simp; omega, hpp.2.trans (ext_at hpp.1)⟩, hb⟩
def cRowsO (R : List (List Ar)) : List C := R.map fun r => C.o (2, 49) (tArcs r)
theorem cRowsO_len (xs : List (List Ar)) : (cRowsO xs).length = xs.length := by simp [cRowsO]
theorem cRowsO_get {xs : List (List Ar)} {i : Nat} {x : List Ar} (h : xs[i]? = some x) : (cRowsO xs)[i]? = some (.o (2, 49) (tArcs x)) := by simp [cRowsO, h]
theorem cRowsO_set (xs : List (List Ar)) (i : Nat) (x : List Ar) : (cRowsO xs).set i (.o (2, 49) (tArcs x)) = cRowsO (xs.set i x) := by simp [cRowsO, List.map_set]
theorem cRowsO_ren (f : List Nat) (L : List (List Ar)) : (cRowsO L).map (C.ren f) = cRowsO L := by simp [cRowsO, C.ren, Function.comp_def]
theorem cRowsO_up (f : Nat → Nat) (L : List (List Ar)) : (cRowsO L).map (C.up f) = cRowsO L := by simp [cRowsO, C.up, Function.comp_def]
theorem cRowsO_ot (L : List (List Ar)) : (cRowsO L).map otC = cRows L := by simp [cRowsO, cRows, otC, Function.comp_def]
theorem cRowsO_snoc (xs : List (List Ar)) (x : List Ar) : cRowsO xs ++ [.o (2, 49) (tArcs x)] = cRowsO (xs ++ [x]) := by simp [cRowsO]

theorem copyO_fc (R : List (List Ar)) (hn : R.length ≤ 1000000) (hr : ∀ r ∈ R, r.length ≤ 1000000) : FC Tryz.prog 25 [aLts R] [] (fun r o => r = .a (.g [.s 0 R.length]) ∧ o = [.r ⟨45, 1, true, cRowsO R⟩, .r ⟨25, 1, false, [.s 0 R.length]⟩]) := by
 refine fc_intro Tryz.func25 rfl (by rw [Tryz.ntmps25]; simp) ?_
 rw [Tryz.ntmps25]
 simp only [enum, aLts]
 (refine wk1 (an @List.set_cons_zero.{0} @List.set_cons_succ.{0}) ?_;(repeat clear hK K);repeat refine kq fun K hK=>?_)
 refine aw_le (le_new 45 1) ?_
 simp only [List.cons_append, List.nil_append]
 refine aw_le (le_cell 2 0 3 (by decide) rfl rfl rfl) ?_
 simp only [List.set_cons_zero, List.set_cons_succ]
 refine aw_loop (fun k : Nat => { tm := [(1, .a (.c (.p 0 0))), (2, .a (.c (.p 1 0))), (3, .a (.c (.p 2 0))), (4, .i k)], hp := [.r ⟨25, 1, false, [.t 1 (tRows R)]⟩, .r ⟨25, 1, false, [.v (.slice none 0 0)]⟩, .r ⟨25, 1, false, [.s 3 k]⟩, .r ⟨45, 1, true, cRowsO (R.take k)⟩], n := 25, pin := 0 }) (fun k => k ≤ R.length) (fun k => R.length - k) 0 ?_ ?_ ?_
 ·omega
 ·(refine le_tm ?_; simp only [LeTm, go_sem, List.take_zero, cRowsO, List.map_nil]; try simp)
 ·rintro k hk K hK
  have hkl : (cRowsO (R.take k)).length = k := by rw [cRowsO_len]; simp; omega
  by_cases hlt : k < R.length
  ·have hl1 : decide ((k : Int) < (R.length : Int)) = true := by simpa using hlt
   have hg := List.getElem?_eq_getElem hlt
   have hrk := hr _ (List.getElem_mem hlt)
   (refine wk1 (an @hl1 @tRows_len) ?_;(repeat clear hK K);repeat refine kq fun K hK=>?_)
   refine cxz ?_
   (refine wk0 ?_;(repeat clear hK K);repeat refine kq fun K hK=>?_)
   (refine aw_regionZ [] (.m 0 0 0 (.m 3 0 0 (.m 5 0 0 (.m 1 1 10 (.m 4 1 8 (.m 6 0 0 (.m 7 1 8 (.a 2 (.a 8 (.a 9 (.a 10 (.m 11 0 0 (.a 12 .e))))))))))))) (by kernel_rfl) (by kernel_rfl) (by intro c st h; simp [ThenA, InBl, Ret] at h) ?_)
   (refine zk1 (an @tRows_len (tRows_get hg)) ?_; repeat clear hK K)
   (refine z_2 rfl rfl ?_; intro K1 hK1; refine stpF_a rfl ?_; simp only [go_sem]; (first | refine hK1 _ ?_ | refine andk (hK1 _ ?_)); clear hK1 K1)
   (refine z_2 rfl rfl ?_; intro K1 hK1; refine stpF_ap rfl rfl rfl rfl ?_; simp only [go_sem, tArcs_c, tArcs_len, half2, List.take_zero, List.nil_append]; (first | refine hK1 _ ?_ | refine andk (hK1 _ ?_)); clear hK1 K1)
   (refine z_2 rfl rfl ?_; intro K1 hK1; refine stpF_a rfl ?_; simp only [go_sem]; (first | refine hK1 _ ?_ | refine andk (hK1 _ ?_)); clear hK1 K1)
   (refine z_3 rfl rfl rfl rfl ?_; intro K1 hK1; refine stp_ev rfl ?_; simp only [go_sem, hkl, Nat.mul_one, List.take_of_length_le (Nat.le_of_eq hkl), C.one, List.take_succ_cons, List.take_zero, List.all_cons, List.all_nil, Bool.and_true]; (first | refine hK1 _ ?_ | refine andk (hK1 _ ?_)); clear hK1 K1)
   (refine zk0 ?_; repeat clear hK K)
   (refine z_3 rfl rfl rfl rfl ?_; intro K1 hK1; refine stp_ev rfl ?_; simp only [go_sem]; (first | refine hK1 _ ?_ | refine andk (hK1 _ ?_)); clear hK1 K1)
   (refine zk0 ?_; repeat clear hK K)
   have hj : (cRowsO (R.take k) ++ [C.s 5 R[k].length])[k]? = some (.s 5 R[k].length) := by rw [List.getElem?_append_right (by omega), hkl, Nat.sub_self]; rfl
   have hset : (cRowsO (R.take k) ++ [C.s 5 R[k].length]).set k (.o (2, 49) (tArcs R[k])) = cRowsO (R.take (k + 1)) := by
    rw [List.set_append_right _ _ (by omega), hkl, Nat.sub_self, List.take_succ_eq_append_getElem hlt, ← cRowsO_snoc]; rfl
   refine aw_le (le_sink (r := ⟨49, 2, true, cArcs R[k]⟩) (ri := ⟨45, 1, true, cRowsO (R.take k) ++ [.s 5 R[k].length]⟩) (ts := tArcs R[k]) 7 k 5 R[k].length (by decide) rfl hj rfl rfl (show 0 < 2 by omega) (cArcs_len _).symm (fz_ca _)) ?_
   simp only [hset, go_sem]
   (refine wk0 ?_;(repeat clear hK K);repeat refine kq fun K hK=>?_)
   refine rnz ?_
   refine hK _ (k + 1) (by omega) (by omega) ?_
   refine Le.trans (le_pick [0, 1, 2, 7] rfl rfl) ?_
   (try simp only [List.set_nil, List.take_nil, List.take_zero, List.map_append, go_sem])
   (try simp only [cRowsO_ren])
   exact lmz
  ·have hl1 : decide ((k : Int) < (R.length : Int)) = false := by simpa using hlt
   have hke : k = R.length := by omega
   subst hke
   rw [List.take_length]
   (refine wk1 (an @hl1 @tRows_len) ?_;(repeat clear hK K);repeat refine kq fun K hK=>?_)
   refine cyz ?_
   (refine ekz ?_;repeat clear hK K)
   (repeat (first | (refine aw_seq ?_; intro K hK) | refine aw_block ?_ | refine aw_region ?_ | (refine lst_x rfl rfl ?_; intro K1 hK1; simp only [go_sem, List.set_cons_zero, List.set_cons_succ, C.pl, C.one, List.all_cons, List.all_nil, Bool.and_true, List.take_succ_cons, List.take_zero, List.drop_zero]; (first | refine hK1 _ ?_ | refine andk (hK1 _ ?_)); clear hK1 K1) | ((first | refine lst_nil ?_ | refine aw_skip ?_); refine hK _ ?_; clear hK K)))
   ((try refine aw_ret ?_); (try simp only [ThenA, InBl]); refine ret_le (le_pick [3, 1] rfl rfl) ?_; (try simp only [List.set_nil, List.take_nil, List.take_zero, List.map_append, go_sem]); ((try refine aw_ret ?_); (try refine lst_nil ?_); (try simp only [ThenA, InBl]); refine ret_mk (by first | exact .inl rfl | exact .inr rfl) rfl ?_; simp only [rtn, resA, resL, resV, Tryz.results25, go_sem, true_and, and_true, cRowsO_ren, C.pl, List.all_cons, List.all_nil, Bool.and_true, List.take_succ_cons, List.take_zero, List.drop_zero]))
end Go.Proofs.YtahnebicgbjonaaGreat
