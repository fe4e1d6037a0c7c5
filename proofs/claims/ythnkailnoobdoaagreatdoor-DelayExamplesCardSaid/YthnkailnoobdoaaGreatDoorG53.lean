/- Lemmas. -/
import Derived.Test.YthnkailnoobdoaaGreatDoorMG
import Derived.Test.YthnkailnoobdoaaGreatDoorMK
import Derived.Test.YthnkailnoobdoaaGreatDoorZk
import Derived.Test.YthnkailnoobdoaaGreatDoorMF
import Derived.Test.YthnkailnoobdoaaGreatDoorMit
import Derived.Test.YthnkailnoobdoaaGreatDoorOd1
namespace Go.Proofs.YthnkailnoobdoaaGreatDoor
set_option linter.unusedVariables false
set_option linter.unusedSimpArgs false
open Go.RowKit
set_option maxRecDepth 100000
attribute [local go_sem] lga C.pl C.one

section
variable {P : Program} {o : Oper} {st : ST} {K : ST -> Prop} {t kt e : TypeId} {s : Ks} {zv : Value} {id : Nat} {kv : List (Value × C)} {key : Value}
def XF (zv : Value) (ok : Bool) : Option (Nat × C) -> AV
 | some (_, c) => match ok with
  | true => .tup [.c c, .c (.v (.bool true))]
  | false => .a (.c c)
 | none => match ok with
  | true => .tup [.c (.v zv), .c (.v (.bool false))]
  | false => .a (.c (.v zv))
theorem Cj {x ix : Operand} {ok : Bool} {r : Option (Nat × C)} (hu : P.underlying t = some (.map kt e)) (hK : KeyOk P kt s) (hze : (P.info? e).bind (·.zero) = some zv)
  (hd : Vu o st.n = true) (ho : o.op = .lookup t x ix ok) (hx : st.ev x = .a (.c (.m id))) (hm : st.hp[id]? = some (.m kv)) (hpl : kv.all (fun p => p.2.pl) = true) (hkey : EW (st.ev ix) = some key) (hfit : Fq s key = true) (hf : BO s key kv 0 = some r)
  (h : K (st.put o.dst (XF zv ok r))) : Stp P o st K := by
 refine FY hd (fun g w ρ hr hR => ?_) h
 obtain ⟨dst, op, ty, pos, af, gd⟩ := o
 simp only at ho
 subst ho
 have hz1 : ∀ w, (zeroValue e).run P w = .ok zv w := by
  intro w
  cases hi : P.info? e with
  | none => rw [hi] at hze; cases hze
  | some i =>
   rw [hi] at hze
   simp only [Option.bind_some] at hze
   simp [zeroValue, CO hi, hze]
 obtain ⟨es, clock, m1, m2, m3, m4⟩ := (hr.mp id kv hm).map hf
 have e1 := hR x
 rw [hx] at e1
 obtain ⟨_, e1⟩ := e1
 have e2 := hR ix
 have e2 := JW hkey e2
 have hKv : KvOk kv es.toList := ⟨by simpa using m2, fun i p hp => by
  obtain ⟨⟨e, f1, f2, _⟩, _⟩ := m3 i p hp
  exact ⟨e, by simpa using f1, f2⟩⟩
 obtain ⟨q, hq⟩ : ∃ q, C0 s key key = some q := by
  unfold Fq at hfit
  split at hfit
  ·exact ⟨_, ‹_›⟩
  cases hfit
 have hck := hK.ck key q hq es.isEmpty w
 cases r with
 | some p =>
  obtain ⟨j, c⟩ := p
  obtain ⟨h1, h2⟩ := Jg hK key w hKv hf
  obtain ⟨k', h3, h4⟩ := h2 j c rfl
  obtain ⟨⟨e, f1, f2, f3⟩, f4⟩ := m3 j _ h3
  have hc : CR g st.hp w c e.val := by
   have := List.all_eq_true.1 hpl _ (gE9 h3)
   exact CellR.cr this f3
  have hfnd : VU es.toList 0 (some (j, c)) = some (j, e.val) := by simp [VU, f1]
  rw [hfnd] at h1
  cases ok with
  | true =>
   refine ⟨.tuple #[e.val, .bool true], ?_, [e.val, .bool true], rfl, rfl, fun i a ha => ?_⟩
   ·simp [execOp, Instr.lookup, run_underlying hu, e1, MapKept.run_getObj_map m1, e2, hck, h1]
   match i, ha with
   | 0, ha => cases ha; exact ⟨_, rfl, hc⟩
   | 1, ha => cases ha; exact ⟨_, rfl, rfl⟩
  | false =>
   refine ⟨e.val, ?_, hc⟩
   simp [execOp, Instr.lookup, run_underlying hu, e1, MapKept.run_getObj_map m1, e2, hck, h1]
 | none =>
  obtain ⟨h1, _⟩ := Jg hK key w hKv hf
  have hfnd : VU es.toList 0 none = none := rfl
  rw [hfnd] at h1
  cases ok with
  | true =>
   refine ⟨.tuple #[zv, .bool false], ?_, [zv, .bool false], rfl, rfl, fun i a ha => ?_⟩
   ·simp [execOp, Instr.lookup, run_underlying hu, e1, MapKept.run_getObj_map m1, e2, hck, h1, hz1 w]
   match i, ha with
   | 0, ha => cases ha; exact ⟨_, rfl, rfl⟩
   | 1, ha => cases ha; exact ⟨_, rfl, rfl⟩
  | false =>
   refine ⟨zv, ?_, rfl⟩
   simp [execOp, Instr.lookup, run_underlying hu, e1, MapKept.run_getObj_map m1, e2, hck, h1, hz1 w]
theorem H6 {m kx v : Operand} {c : C} (hu : P.underlying t = some (.map kt e)) (hK : KeyOk P kt s) (hd : Vu o st.n = true) (ho : o.op = .mapUpdate t m kx v) (hm : st.ev m = .a (.c (.m id))) (hmm : st.hp[id]? = some (.m kv)) (hpl : kv.all (fun p => p.2.pl) = true)
  (hkey : EW (st.ev kx) = some key) (hfit : Fq s key = true) (hv : st.ev v = .a (.c c)) (hone : c.one = true) (hf : BO s key kv 0 = some none)
  (h : K ({ st with hp := st.hp.set id (.m (kv ++ [(key, c)])) }.put o.dst .u)) : Stp P o st K := by
 obtain ⟨q, hq⟩ : ∃ q, C0 s key key = some q := by
  unfold Fq at hfit
  split at hfit
  ·exact ⟨_, ‹_›⟩
  cases hfit
 have hcell : ∀ {g : Gh} {w : World} {u : Value}, CR g st.hp w c u -> CellR g st.hp w id 0 c u := fun h => Fl hone h
 have hcpl : c.pl = true := by cases c <;> first | rfl | cases hone
 intro M0 w0 a w N Q hR hN
 obtain ⟨g, ⟨hp1, hp2⟩, hR⟩ := hR
 have e1 := hR.ev m
 rw [hm] at e1
 obtain ⟨_, e1⟩ := e1
 have e2 := hR.ev kx
 have e2 := JW hkey e2
 have e3 := hR.ev v
 rw [hv] at e3
 obtain ⟨es, clock, m1, m2, m3, m4⟩ := (hR.hr.mp id kv hmm).map hf
 have hKv : KvOk kv es.toList := ⟨by simpa using m2, fun i p hp => by
  obtain ⟨⟨e, f1, f2, _⟩, _⟩ := m3 i p hp
  exact ⟨e, by simpa using f1, f2⟩⟩
 obtain ⟨h1, _⟩ := Jg hK key w hKv hf
 have hfnd : VU es.toList 0 none = none := rfl
 rw [hfnd] at h1
 have hl : es.size = kv.length := by simpa using hKv.1
 have r1 : (Instr.mapUpdate t (.map (some (g.γ (.ob id)))) key (a.eval v)).run P w = .ok () { w with heap := w.heap.setIfInBounds (g.γ (.ob id)) (.map (es.push { key := key, val := a.eval v, born := clock }) (clock + 1)) } := by
  simp [Instr.mapUpdate, run_underlying hu, MapKept.run_getObj_map m1, hK.ck key q hq, h1, MapKept.run_setObj_map _ m1]
 have hset := hR.mapset (es' := es.push { key := key, val := a.eval v, born := clock }) (clock := clock + 1) (kv' := kv ++ [(key, c)]) hmm (by simp [hl]) (fun i p hp => by
  rcases Nat.lt_or_ge i kv.length with hi | hi
  ·rw [gEa hi] at hp
   obtain ⟨⟨e', g1, g2, g3⟩, g4⟩ := m3 i p hp
   exact ⟨⟨e', by rw [Array.getElem?_push_lt (by omega)]; rw [<- g1]; simp [show i < es.size by omega], g2, g3⟩, g4⟩
  ·rw [gEb hi] at hp
   have hi' : i = kv.length := by
    have := (List.getElem?_eq_some_iff.1 hp).1
    simp at this
    omega
   subst hi'
   simp at hp
   subst hp
   exact ⟨⟨{ key := key, val := a.eval v, born := clock }, by rw [<- hl]; simp, rfl, hcell e3⟩, fun k' cs e => by
    simp only at e
    rw [e] at hcpl; cases hcpl⟩) (m4.push _ _)
 have hrun : (execOp a.eval o).run P w = .ok .skip { w with heap := w.heap.setIfInBounds (g.γ (.ob id)) (.map (es.push { key := key, val := a.eval v, born := clock }) (clock + 1)) } := by
  unfold execOp
  simp [ho, e1, e2, r1]
 unfold Oper.wp
 rw [hrun]
 exact hN _ _ _ h ⟨g, ⟨by cases o.dst <;> (simp [ST.put]; omega), by cases o.dst <;> exact hp2⟩, hset.put (AU hd) trivial⟩
theorem RU {src d el : TypeId} {x : Operand} {n q : Nat} {sl : Bool} {cells : List C} {ns : List Int} (hu1 : P.underlying src = some (.slice el)) (hu2 : P.underlying d = some .string) (hu3 : P.underlying el = some (.int .u8))
  (hd : Vu o st.n = true) (ho : o.op = .convert src d x) (hx : st.ev x = .a (.c (.s id n))) (hrow' : st.hp[id]? = some (.r ⟨q, 1, sl, cells⟩)) (hns : ns.length = n) (e1 : cells.take n = ns.map (fun m => C.v (.int .u8 m)))
  (h : K (st.put o.dst (.a (.c (.v (.string ⟨⟨ns.map fun (m : Int) => UInt8.ofNat m.toNat⟩⟩)))))) : Stp P o st K := by
 refine FY hd (fun g w ρ hr hR => ?_) h
 obtain ⟨dst, op, ty, pos, af, gd⟩ := o
 simp only at ho
 subst ho
 have e2 := hR x
 rw [hx] at e2
 obtain ⟨_, hn, A, e2, e3, _⟩ := e2
 refine ⟨.string ⟨⟨ns.map fun (m : Int) => UInt8.ofNat m.toNat⟩⟩, ?_, rfl⟩
 have hconv : (Conv.bytesToString (.slice A n (g.κ id))).run P w = .ok (.string ⟨⟨ns.map fun (m : Int) => UInt8.ofNat m.toNat⟩⟩) w := by
  rcases hr.row id _ hrow' with ⟨h0, h2⟩ | ⟨h0, _, arr, ha, hla, hs, _, hcells⟩
  ·have hn0 : n = 0 := by omega
   subst hn0
   have : ns = [] := List.eq_nil_of_length_eq_zero hns
   subst this
   cases A with
   | none => simp [Conv.bytesToString, ByteArray.empty, ByteArray.emptyWithCapacity]; rfl
   | some a => simp [Conv.bytesToString, loadCells, loadCellsFrom, ByteArray.empty, ByteArray.emptyWithCapacity]; rfl
  rw [e3 h0]
  have hload : (loadCells ⟨g.γ (.ob id), 0, none⟩ n).run P w = .ok (ns.map (Value.int .u8)).toArray w := by
   unfold loadCells
   rw [BS _ _ _ 0 (ns.map (Value.int .u8)) #[] (by simpa using hns) (fun q u hq => ?_)]
   ·simp
   rw [cell_of_row _ _ _ _ _ _ ha]
   rw [List.getElem?_map, Option.map_eq_some_iff] at hq
   obtain ⟨m, hm, rfl⟩ := hq
   have hlt : q < n := by rw [<- hns]; exact (List.getElem?_eq_some_iff.1 hm).1
   have hcq : cells[q]? = some (.v (.int .u8 m)) := by
    have : (cells.take n)[q]? = some (.v (.int .u8 m)) := by rw [e1]; simp [hm]
    rw [List.getElem?_take, if_pos hlt] at this
    exact this
   obtain ⟨u, f1, f2⟩ := hcells q _ hcq
   have f2 : u = .int .u8 m := f2
   subst f2
   simpa using f1
  simp only [Conv.bytesToString, Sem.run_bind, hload, Result.andThen_ok]
  rw [My (fun n s w => by simp)]
  simp [ByteArray.empty, ByteArray.emptyWithCapacity]
  rfl
 simp [execOp, convert, run_underlying hu1, run_underlying hu2, e2, run_underlying hu3, hconv]
end
def kb (n : Int) : List Int := [IntKind.u8.wrap (n.fdiv (2 ^ (24 : Int).toNat)), IntKind.u8.wrap (n.fdiv (2 ^ (16 : Int).toNat)), IntKind.u8.wrap (n.fdiv (2 ^ (8 : Int).toNat)), IntKind.u8.wrap n]
def Jx (xs : List Int) : List Int := xs.flatMap kb
def Jy (xs : List Int) : Value := .string ⟨⟨(Jx xs).map fun (m : Int) => UInt8.ofNat m.toNat⟩⟩
def XG (l : List Int) : List C := l.map fun m => C.v (.int .u8 m)
theorem Jz (l : List Int) : (XG l).length = l.length := by simp [XG]
theorem RW (f : List Nat) (l : List Int) : (XG l).map (C.ren f) = XG l := by simp [XG, C.ren, Function.comp_def]
theorem CV (xs : List Int) : (Jx xs).length = xs.length * 4 := by
 unfold Jx
 induction xs with
 | nil => rfl
 | cons x r ih => rw [List.flatMap_cons, List.length_append, ih, List.length_cons]; simp [kb]; omega
theorem NF (xs : List Int) (x : Int) : (XG (Jx xs)).take (xs.length * 4) ++ [C.v (.int .u8 (IntKind.u8.wrap (x.fdiv (2 ^ (24 : Int).toNat)))), C.v (.int .u8 (IntKind.u8.wrap (x.fdiv (2 ^ (16 : Int).toNat)))), C.v (.int .u8 (IntKind.u8.wrap (x.fdiv (2 ^ (8 : Int).toNat)))), C.v (.int .u8 (IntKind.u8.wrap x))] = XG (Jx (xs ++ [x])) := by
 rw [gE7 (by rw [Jz, CV]; exact Nat.le_refl _)]
 unfold Jx XG
 simp [kb]
theorem TQ (n : Int) : IntKind.u8.wrap n = n % 256 := by simp [IntKind.wrap, IntKind.signed, IntKind.bits]
theorem TR {x y : Int} (hx : 0 <= x /\ x < 2147483648) (hy : 0 <= y /\ y < 2147483648) (h : kb x = kb y) : x = y := by
 unfold kb at h
 simp only [List.cons.injEq, and_true, TQ] at h
 obtain ⟨h1, h2, h3, h4⟩ := h
 have e : ∀ z : Int, z.fdiv (2 ^ (24 : Int).toNat) = z / 16777216 /\ z.fdiv (2 ^ (16 : Int).toNat) = z / 65536 /\ z.fdiv (2 ^ (8 : Int).toNat) = z / 256 := fun z => ⟨Int.fdiv_eq_ediv_of_nonneg z (by decide), Int.fdiv_eq_ediv_of_nonneg z (by decide), Int.fdiv_eq_ediv_of_nonneg z (by decide)⟩
 rw [(e x).1, (e y).1] at h1
 rw [(e x).2.1, (e y).2.1] at h2
 rw [(e x).2.2, (e y).2.2] at h3
 omega
theorem TS (x : Int) : ∀ m ∈ kb x, 0 <= m /\ m < 256 := by
 intro m hm
 unfold kb at hm
 simp only [List.mem_cons, List.not_mem_nil, or_false, TQ] at hm
 rcases hm with rfl | rfl | rfl | rfl <;> omega
theorem KS : ∀ {xs ys : List Int}, (∀ x ∈ xs, 0 <= x /\ x < 2147483648) -> (∀ y ∈ ys, 0 <= y /\ y < 2147483648) -> Jx xs = Jx ys -> xs = ys
 | [], [], _, _, _ => rfl
 | [], y :: ys, _, _, h => by have := congrArg List.length h; rw [CV, CV] at this; simp at this
 | x :: xs, [], _, _, h => by have := congrArg List.length h; rw [CV, CV] at this; simp at this
 | x :: xs, y :: ys, hx, hy, h => by
  have h1 : kb x ++ Jx xs = kb y ++ Jx ys := h
  obtain ⟨h2, h3⟩ := List.append_inj h1 rfl
  rw [TR (hx x (by simp)) (hy y (by simp)) h2, KS (fun a ha => hx a (gEf _ ha)) (fun a ha => hy a (gEf _ ha)) h3]
theorem KT (xs : List Int) : ∀ m ∈ Jx xs, 0 <= m /\ m < 256 := by
 intro m hm
 obtain ⟨x, _, hx⟩ := List.mem_flatMap.1 hm
 exact TS x m hx
theorem H7 : ∀ {l m : List Int}, (∀ x ∈ l, 0 <= x /\ x < 256) -> (∀ x ∈ m, 0 <= x /\ x < 256) -> (l.map fun (m : Int) => UInt8.ofNat m.toNat) = (m.map fun (m : Int) => UInt8.ofNat m.toNat) -> l = m
 | [], [], _, _, _ => rfl
 | [], y :: ys, _, _, h => by simp at h
 | x :: xs, [], _, _, h => by simp at h
 | x :: xs, y :: ys, hx, hy, h => by
  simp only [List.map_cons, List.cons.injEq] at h
  have h1 := hx x (by simp)
  have h2 := hy y (by simp)
  have h3 := congrArg UInt8.toNat h.1
  simp only [UInt8.toNat_ofNat'] at h3
  have : x = y := by omega
  rw [this, H7 (fun a ha => hx a (gEf _ ha)) (fun a ha => hy a (gEf _ ha)) h.2]
theorem PK {xs ys : List Int} (hx : ∀ x ∈ xs, 0 <= x /\ x < 2147483648) (hy : ∀ y ∈ ys, 0 <= y /\ y < 2147483648) (h : Jy xs = Jy ys) : xs = ys := by
 unfold Jy at h
 injection h with h
 injection h with h
 injection h with h
 exact KS hx hy (H7 (KT _) (KT _) h)
set_option maxHeartbeats 1000000 in
theorem TT (xs : List Int) (hn : xs.length <= 100000000) : FC Tryz.prog 57 [Aq xs] [] (fun r o => o = [] /\ r = .a (.c (.v (Jy xs)))) := by
 refine A9 Tryz.func57 rfl (by rw [Tryz.ntmps57]; simp) ?_
 rw [Tryz.ntmps57]
 simp only [Bz, Aq]
 (refine Wf @Yi ?_;(repeat clear hK K);repeat refine kq fun K hK=>?_)
 refine A6 (fun k : Nat => { tm := [(3, .a (.c (.s 0 (k * 4)))), (10, .a (.c (.t 1 (Aa xs)))), (11, .i xs.length), (12, .i k)], hp := [.r ⟨5, 1, false, XG (Jx (xs.take k))⟩], n := 33, pin := 0 }) (fun k => k <= xs.length) (fun k => xs.length - k) 0 ?_ ?_ ?_
 ·omega
 ·simp only [show Int.toNat 0 = 0 from rfl, List.replicate_zero, List.take_zero, Jx, List.flatMap_nil, XG, List.map_nil, Nat.zero_mul]
  exact Wo
 rintro k hk K hK
 have htl : (xs.take k).length = k := by simp; omega
 by_cases hlt : k < xs.length
 ·have d1 : decide ((k : Int) < (xs.length : Int)) = true := by simpa using hlt
  have hg := Aj (gE1 hlt)
  have hp := NF (xs.take k) xs[k]
  rw [htl, <- gE8 hlt] at hp
  (refine Wf @d1 ?_;(repeat clear hK K);repeat refine kq fun K hK=>?_)
  refine Wl ?_
  (refine Wf (an @hg (an @Yi (an @Jz (an @CV (an @htl @hp))))) ?_;(repeat clear hK K);repeat refine kq fun K hK=>?_)
  refine Wn ?_
  refine hK _ (k + 1) (by omega) (by omega) ?_
  refine Le.trans (A8 [2] rfl rfl) ?_
  (try simp only [List.set_nil, List.take_nil, List.take_zero, List.map_append, go_sem])
  (try simp only [RW])
  have e4 : k * 4 + 4 = (k + 1) * 4 := by omega
  (try simp only [e4])
  exact Wo
 have d1 : decide ((k : Int) < (xs.length : Int)) = false := by simpa using hlt
 have hke : xs.take k = xs := gE7 (by omega)
 have hkl : k = xs.length := by omega
 rw [hke]
 (refine Wf @d1 ?_;(repeat clear hK K);repeat refine kq fun K hK=>?_)
 refine Wm ?_
 (refine Wi ?_;repeat clear hK K)
 (refine We ?_;(repeat clear hK K);repeat refine kq fun K hK=>?_)
 (refine Ad rfl ?_; intro K1 hK1; refine RU (id := 0) (n := k * 4) (q := 5) (sl := false) (cells := XG (Jx xs)) (ns := Jx xs) Tryz.underlying120 Tryz.underlying9 Tryz.underlying5 rfl rfl (by simp only [go_sem]) rfl (by rw [CV]; omega) (by rw [hkl, gE7 (by rw [Jz, CV]; exact Nat.le_refl _)]; rfl) ?_; simp only [go_sem]; refine hK1 _ ?_; clear hK1 K1)
 (refine We ?_;(repeat clear hK K);repeat refine kq fun K hK=>?_)
 ((try refine AF ?_); (try simp only [Ae, AJ]); refine Bm (A8 [] rfl rfl) ?_; (try simp only [List.set_nil, List.take_nil, List.take_zero, List.map_append, go_sem]); ((try refine AF ?_); (try refine Ab ?_); (try simp only [Ae, AJ]); refine BE (by first | exact .inl rfl | exact .inr rfl) rfl ?_; simp only [VE, EO, Em, EU, Tryz.results57, go_sem, true_and, and_true, Jy]))
theorem KU {P : Program} {o : Oper} {st : ST} {K : ST -> Prop} {t kt e : TypeId} {id : Nat} {kv : List (Value × C)} {x : Operand} {c : Call} (hu : P.underlying t = some (.map kt e)) (hd : Vu o st.n = true) (ho : o.op = .call c) (hc1 : c.callee = .builtin .len) (hc2 : c.args = #[x]) (hc3 : c.argTypes = #[t]) (hx : st.ev x = .a (.c (.m id))) (hm : st.hp[id]? = some (.m kv)) (hit : OR kv = false) (h : K (st.put o.dst (.i kv.length))) : Stp P o st K := by
 refine FY hd (fun g w ρ hr hR => ?_) h
 obtain ⟨dst, op, ty, pos, af, gd⟩ := o
 simp only at ho
 subst ho
 obtain ⟨callee, args, ts⟩ := c
 simp only at hc1 hc2 hc3
 subst hc1; subst hc2; subst hc3
 obtain ⟨es, clock, m1, m2, _⟩ := (hr.mp id kv hm).map0 hit
 have e1 := hR x
 rw [hx] at e1
 obtain ⟨_, e1⟩ := e1
 refine ⟨.int .i64 kv.length, ?_, rfl⟩
 simp only [execOp, resolve, invoke, builtin, Sem.run_bind, Sem.run_pure, Result.andThen_ok, List.map_toArray, List.map_cons, List.map_nil, e1]
 simp [Builtin.len_, run_underlying hu, MapKept.run_getObj_map m1, goInt, m2]
theorem QJ (M : List (Value × Value)) : OR (M.map fun p => (p.1, C.v p.2)) = false := by
 cases M <;> rfl
theorem LO {s : Ks} {key k : Value} {c : C} : ∀ (l : List (Value × C)) (i : Nat), BO s key (l ++ [(k, c)]) i = match BO s key l i with | some none => (match C0 s key k with | some true => some (some (i + l.length, c)) | some false => some none | none => none) | r => r := by
 intro l
 induction l with
 | nil =>
  intro i
  simp only [List.nil_append, BO, List.length_nil, Nat.add_zero]
  cases C0 s key k with
  | none => rfl
  | some b => cases b <;> rfl
 | cons p r ih =>
  intro i
  obtain ⟨k1, c1⟩ := p
  simp only [List.cons_append, BO]
  cases C0 s key k1 with
  | none => rfl
  | some b =>
   cases b with
   | true => rfl
   | false =>
    simp only
    rw [ih (i + 1), List.length_cons, show i + 1 + r.length = i + (r.length + 1) from by omega]
section
variable {α : Type} [DecidableEq α]
def T6 (ky : List Value) (g : Nat -> α) : Prop := ∀ a b, a < ky.length -> b < ky.length -> C0 .ks (ky.getD a (.int .i64 0)) (ky.getD b (.int .i64 0)) = some (decide (g a = g b))
def XH (ky : List Value) (g : Nat -> α) : Nat -> List (Value × C)
 | 0 => []
 | k + 1 => match (List.range k).find? (fun t => decide (g t = g k)) with
  | some _ => XH ky g k
  | none => XH ky g k ++ [(ky.getD k (.int .i64 0), .v (.int .i64 (Ww g k).2))]
theorem EL {ky : List Value} {g : Nat -> α} {k t : Nat} (h : (List.range k).find? (fun t => decide (g t = g k)) = some t) : XH ky g (k + 1) = XH ky g k := by rw [XH, h]
theorem EM {ky : List Value} {g : Nat -> α} {k : Nat} (h : (List.range k).find? (fun t => decide (g t = g k)) = none) : XH ky g (k + 1) = XH ky g k ++ [(ky.getD k (.int .i64 0), .v (.int .i64 (Ww g k).2))] := by rw [XH, h]
theorem TU (ky : List Value) (g : Nat -> α) (k : Nat) : (XH ky g k).all (fun p => p.2.pl) = true := by
 induction k with
 | zero => rfl
 | succ k ih =>
  cases h : (List.range k).find? (fun t => decide (g t = g k)) with
  | some t => rw [EL h]; exact ih
  | none => rw [EM h, List.all_append, ih]; rfl
theorem NG (ky : List Value) (g : Nat -> α) (k : Nat) : (XH ky g k).length = (Ww g k).2 := by
 induction k with
 | zero => rfl
 | succ k ih =>
  cases h : (List.range k).find? (fun t => decide (g t = g k)) with
  | some t => rw [EL h, Dm h]; exact ih
  | none => rw [EM h, Dn h, List.length_append, ih]; rfl
theorem HE (ky : List Value) (g : Nat -> α) (k : Nat) : ∃ M : List (Value × Value), XH ky g k = M.map fun p => (p.1, C.v p.2) := by
 induction k with
 | zero => exact ⟨[], rfl⟩
 | succ k ih =>
  obtain ⟨M, hM⟩ := ih
  cases h : (List.range k).find? (fun t => decide (g t = g k)) with
  | some t => exact ⟨M, by rw [EL h, hM]⟩
  | none => exact ⟨M ++ [(ky.getD k (.int .i64 0), .int .i64 (Ww g k).2)], by rw [EM h, hM]; simp⟩
theorem PL {ky : List Value} {g : Nat -> α} (h : T6 ky g) {s : Nat} (hs : s < ky.length) : ∀ k, k <= ky.length -> (∃ t, t < k /\ g t = g s /\ ∃ j, BO .ks (ky.getD s (.int .i64 0)) (XH ky g k) 0 = some (some (j, .v (.int .i64 ((Ww g k).1.getD t 0))))) \/ ((∀ t, t < k -> g t ≠ g s) /\ BO .ks (ky.getD s (.int .i64 0)) (XH ky g k) 0 = some none) := by
 intro k
 induction k with
 | zero => intro _; exact .inr ⟨fun t ht => by omega, rfl⟩
 | succ k ih =>
  intro hk
  have hkl : k < ky.length := hk
  have hlen := (Ca g k).len
  cases hf : (List.range k).find? (fun t => decide (g t = g k)) with
  | some t0 =>
   have h2 := List.find?_range_eq_some.1 hf
   have h3 : t0 < k := by simpa using h2.2.1
   have h4 : g t0 = g k := by simpa using h2.1
   rw [EL hf, Dm hf]
   rcases ih (by omega) with ⟨t, a1, a2, j, a3⟩ | ⟨a1, a2⟩
   ·refine .inl ⟨t, by omega, a2, j, ?_⟩
    rw [a3, CS (by omega)]
   refine .inr ⟨fun t ht => ?_, a2⟩
   rcases Nat.lt_or_ge t k with b | b
   ·exact a1 t b
   have : t = k := by omega
   subst this
   rw [<- h4]; exact a1 t0 h3
  | none =>
   rw [EM hf, Dn hf, LO, h s k hs hkl]
   rcases ih (by omega) with ⟨t, a1, a2, j, a3⟩ | ⟨a1, a2⟩
   ·refine .inl ⟨t, by omega, a2, j, ?_⟩
    rw [a3, CS (by omega)]
   rw [a2]
   by_cases e : g s = g k
   ·refine .inl ⟨k, by omega, e.symm, 0 + (XH ky g k).length, ?_⟩
    rw [gEg e, DE hlen.symm]
   refine .inr ⟨fun t ht => ?_, by rw [decide_eq_false e]⟩
   rcases Nat.lt_or_ge t k with b | b
   ·exact a1 t b
   have : t = k := by omega
   subst this
   exact Ne.symm e
theorem RX {ky : List Value} {g : Nat -> α} (h : T6 ky g) {s : Nat} (hs : s < ky.length) : Fq .ks (ky.getD s (.int .i64 0)) = true := by
 unfold Fq
 rw [h s s hs hs]
theorem ZB (L : List Int) (x : Int) {n : Nat} (h : L.length = n) : (A7 L).take n ++ [C.v (.int .i64 x)] = A7 (L ++ [x]) := by
 subst h
 rw [gE7 (by rw [A5]; exact Nat.le_refl _)]; simp [A7]
def XI (ky : List Value) : List C := ky.map C.v
theorem Gu (ky : List Value) : (XI ky).length = ky.length := by simp [XI]
theorem RY {ky : List Value} {s : Nat} (h : s < ky.length) : (XI ky)[s]? = some (.v (ky.getD s (.int .i64 0))) := by simp [XI, gE2, h]
theorem Fi (ky : List Value) (f : List Nat) : (XI ky).map (C.ren f) = XI ky := by simp [XI, C.ren, Function.comp_def]
theorem JA (ky : List Value) (s : Nat) (v : Value) : (XI ky).set s (.v v) = XI (ky.set s v) := by simp [XI, List.map_set]
set_option maxHeartbeats 2000000 in
theorem YH (ky : List Value) (g : Nat -> α) (h : T6 ky g) (hn : ky.length <= 1000000) : FC Tryz.prog 55 [.a (.c (.s 0 ky.length))] [.r ⟨9, 1, true, XI ky⟩] (fun r o => r = .tup [.c (.s 1 ky.length), .c (.v (.int .i64 (Ww g ky.length).2))] /\ o = [.r ⟨9, 1, true, XI ky⟩, Aw (Ww g ky.length).1]) := by
 refine A9 Tryz.func55 rfl (by rw [Tryz.ntmps55]; simp) ?_
 rw [Tryz.ntmps55]
 simp only [Bz]
 (refine We ?_;(repeat clear hK K);repeat refine kq fun K hK=>?_)
 refine Av (Dt 5 3 1 ?_) ?_
 ·simp only [go_sem]
 refine A6 (fun k : Nat => { tm := [(4, .a (.c (.m 1))), (5, .a (.c (.s 2 k))), (11, .a (.c (.s 0 ky.length))), (12, .i ky.length), (13, .i k)], hp := [.r ⟨9, 1, true, XI ky⟩, .m (XH ky g k), .r ⟨3, 1, true, A7 (Ww g k).1⟩], n := 39, pin := 1 }) (fun k => k <= ky.length) (fun k => ky.length - k) 0 ?_ ?_ ?_
 ·omega
 ·exact Wo
 rintro k hk K hK
 by_cases hlt : k < ky.length
 rotate_left
 ·have d1 : decide ((k : Int) < (ky.length : Int)) = false := by simpa using hlt
  have hke : k = ky.length := by omega
  have hkl := NG ky g k
  have hitk : OR (XH ky g k) = false := by obtain ⟨M, hM⟩ := HE ky g k; rw [hM]; exact QJ M
  rw [<- hke]
  rw [<- hke] at d1
  (refine Wf @d1 ?_;(repeat clear hK K);repeat refine kq fun K hK=>?_)
  refine Wm ?_
  (refine Wi ?_;repeat clear hK K)
  (refine We ?_;(repeat clear hK K);repeat refine kq fun K hK=>?_)
  (refine Ad rfl ?_; intro K1 hK1; refine KU (id := 1) (kv := XH ky g k) Tryz.underlying96 rfl rfl rfl rfl rfl (by simp only [go_sem]) rfl hitk ?_; simp only [go_sem, hkl]; refine hK1 _ ?_; clear hK1 K1)
  (refine We ?_;(repeat clear hK K);repeat refine kq fun K hK=>?_)
  ((try refine AF ?_); (try simp only [Ae, AJ]); refine Bm (A8 [0, 2] rfl rfl) ?_; (try simp only [List.set_nil, List.take_nil, List.take_zero, List.map_append, go_sem]); ((try refine AF ?_); (try refine Ab ?_); (try simp only [Ae, AJ]); refine BE (by first | exact .inl rfl | exact .inr rfl) rfl ?_; simp only [VE, EO, Em, EU, Tryz.results55, go_sem, true_and, and_true, Ak, Fi, Aw]))
  rw [hke]; exact ⟨rfl, rfl⟩
 have d1 : decide ((k : Int) < (ky.length : Int)) = true := by simpa using hlt
 have gk := RY hlt
 have hft := RX h hlt
 have hcl := (Ca g k).cnt
 have hpl := TU ky g k
 have hpl2 := TU ky g (k + 1)
 have hkl := NG ky g k
 have hnl := (Ca g k).len
 have hfd := PL h hlt k hk
 have hfd2 := PL h hlt (k + 1) hlt
 have hnq := (Ca g (k + 1)).eq
 (refine Wf (an @Gu @d1) ?_;(repeat clear hK K);repeat refine kq fun K hK=>?_)
 refine Wl ?_
 cases hf : (List.range k).find? (fun t => decide (g t = g k)) with
 | some t0 =>
  have h2 := List.find?_range_eq_some.1 hf
  have h3 : t0 < k := by simpa using h2.2.1
  have h4 : g t0 = g k := by simpa using h2.1
  have hkv : XH ky g (k + 1) = XH ky g k := EL hf
  have hng := Dm hf
  obtain ⟨t, a1, a2, j, a3⟩ : ∃ t, t < k /\ g t = g k /\ ∃ j, BO .ks (ky.getD k (.int .i64 0)) (XH ky g k) 0 = some (some (j, .v (.int .i64 ((Ww g k).1.getD t 0)))) := by
   rcases hfd with h | ⟨a1, _⟩
   ·exact h
   exact absurd h4 (a1 t0 h3)
  have he : (Ww g k).1.getD t 0 = (Ww g k).1.getD t0 0 := ((Ca g k).eq t t0 a1 h3).2 (a2.trans h4.symm)
  rw [he] at a3
  have cs := ZB (Ww g k).1 ((Ww g k).1.getD t0 0) hnl
  obtain ⟨M, hM⟩ := HE ky g k
  generalize XH ky g k = kv at *
  subst hM
  generalize Ww g k = p at *
  generalize ky.getD k (.int .i64 0) = kk at *
  (refine Wf (an @Gu @gk) ?_;(repeat clear hK K);repeat refine kq fun K hK=>?_)
  (refine Ad rfl ?_; intro K1 hK1; refine Cj (id := 1) (kv := M.map fun p => (p.1, C.v p.2)) (zv := .int .i64 0) Tryz.underlying96 (Jf Tryz.underlying9) rfl rfl rfl (by simp only [go_sem]) rfl hpl (by simp only [go_sem, EW]) hft a3 ?_; simp only [go_sem, XF]; refine hK1 _ ?_; clear hK1 K1)
  (refine Wf @Bool.not_true ?_;(repeat clear hK K);repeat refine kq fun K hK=>?_)
  refine Wm ?_
  (refine We ?_;(repeat clear hK K);repeat refine kq fun K hK=>?_)
  (refine Ad rfl ?_; intro K1 hK1; refine Cj (id := 1) (kv := M.map fun p => (p.1, C.v p.2)) (zv := .int .i64 0) Tryz.underlying96 (Jf Tryz.underlying9) rfl rfl rfl (by simp only [go_sem]) rfl hpl (by simp only [go_sem, EW]) hft a3 ?_; simp only [go_sem, XF]; refine hK1 _ ?_; clear hK1 K1)
  (refine Wf (an @cs (an @A5 @hnl)) ?_;(repeat clear hK K);repeat refine kq fun K hK=>?_)
  refine Wn ?_
  refine hK _ (k + 1) (by omega) (by omega) ?_
  refine Le.trans (A8 [0, 1, 4] rfl rfl) ?_
  (try simp only [List.set_nil, List.take_nil, List.take_zero, List.map_append, go_sem])
  (try simp only [Ak, Fi, List.map_map, Function.comp_def, List.map_append, List.map_cons, List.map_nil])
  rw [hkv, hng]
  exact Wo
 | none =>
  have hno := List.find?_range_eq_none.1 hf
  have hkv := EM (ky := ky) hf
  have hng := Dn hf
  have a2 : BO .ks (ky.getD k (.int .i64 0)) (XH ky g k) 0 = some none := by
   rcases hfd with ⟨t, a1, a2, _⟩ | ⟨_, a2⟩
   ·exact absurd a2 (by simpa using hno t a1)
   exact a2
  obtain ⟨j, a3⟩ : ∃ j, BO .ks (ky.getD k (.int .i64 0)) (XH ky g (k + 1)) 0 = some (some (j, .v (.int .i64 (Ww g k).2))) := by
   rcases hfd2 with ⟨t, a1, a2, j, a3⟩ | ⟨a1, _⟩
   rotate_left
   ·exact absurd rfl (a1 k (by omega))
   refine ⟨j, ?_⟩
   rw [a3, (hnq t k a1 (by omega)).2 a2, hng, DE hnl.symm]
  have cs := ZB (Ww g k).1 (Ww g k).2 hnl
  rw [hkv] at a3 hpl2
  obtain ⟨M, hM⟩ := HE ky g k
  generalize XH ky g k = kv at *
  subst hM
  generalize Ww g k = p at *
  generalize ky.getD k (.int .i64 0) = kk at *
  (refine Wf (an @Gu @gk) ?_;(repeat clear hK K);repeat refine kq fun K hK=>?_)
  (refine Ad rfl ?_; intro K1 hK1; refine Cj (id := 1) (kv := M.map fun p => (p.1, C.v p.2)) (zv := .int .i64 0) Tryz.underlying96 (Jf Tryz.underlying9) rfl rfl rfl (by simp only [go_sem]) rfl hpl (by simp only [go_sem, EW]) hft a2 ?_; simp only [go_sem, XF]; refine hK1 _ ?_; clear hK1 K1)
  (refine Wf @Bool.not_false ?_;(repeat clear hK K);repeat refine kq fun K hK=>?_)
  refine Wl ?_
  (refine We ?_;(repeat clear hK K);repeat refine kq fun K hK=>?_)
  (refine Ad rfl ?_; intro K1 hK1; refine KU (id := 1) (kv := M.map fun p => (p.1, C.v p.2)) Tryz.underlying96 rfl rfl rfl rfl rfl (by simp only [go_sem]) rfl (QJ _) ?_; simp only [go_sem, hkl]; refine hK1 _ ?_; clear hK1 K1)
  (refine We ?_;(repeat clear hK K);repeat refine kq fun K hK=>?_)
  (refine Ad rfl ?_; intro K1 hK1; refine H6 (id := 1) (kv := M.map fun p => (p.1, C.v p.2)) (c := .v (.int .i64 p.2)) Tryz.underlying96 (Jf Tryz.underlying9) rfl rfl (by simp only [go_sem]) rfl hpl (by simp only [go_sem, EW]) hft (by simp only [go_sem]) rfl a2 ?_; simp only [go_sem]; refine hK1 _ ?_; clear hK1 K1)
  (refine We ?_;(repeat clear hK K);repeat refine kq fun K hK=>?_)
  (refine Ad rfl ?_; intro K1 hK1; refine Cj (id := 1) (kv := (M.map fun p => (p.1, C.v p.2)) ++ [(kk, .v (.int .i64 p.2))]) (zv := .int .i64 0) Tryz.underlying96 (Jf Tryz.underlying9) rfl rfl rfl (by simp only [go_sem]) rfl hpl2 (by simp only [go_sem, EW]) hft a3 ?_; simp only [go_sem, XF]; refine hK1 _ ?_; clear hK1 K1)
  (refine Wf (an @cs (an @A5 @hnl)) ?_;(repeat clear hK K);repeat refine kq fun K hK=>?_)
  refine Wn ?_
  refine hK _ (k + 1) (by omega) (by omega) ?_
  refine Le.trans (A8 [0, 1, 4] rfl rfl) ?_
  (try simp only [List.set_nil, List.take_nil, List.take_zero, List.map_append, go_sem])
  (try simp only [Ak, Fi, List.map_map, Function.comp_def, List.map_append, List.map_cons, List.map_nil])
  rw [hkv, hng]
  exact Wo
end
def UJ (L : List Int) : Prop := ∀ x ∈ L, 0 <= x /\ x < 2147483648
theorem RZ {x y : List Int} (hx : UJ x) (hy : UJ y) : C0 .ks (Jy x) (Jy y) = some (decide (x = y)) := by
 show some _ = some _
 congr 1
 rw [Bool.eq_iff_iff, decide_eq_true_iff, MapKept.bytes_beq]
 exact ⟨fun h => PK hx hy (by unfold Jy; rw [h]), fun h => by rw [h]⟩
def ZC (l : List Ar) : List Int := l.flatMap fun a => [a.1, a.2]
theorem YI : ∀ {x y : List Ar}, ZC x = ZC y -> x = y
 | [], [], _ => rfl
 | [], b :: y, h => by simp [ZC] at h
 | a :: x, [], h => by simp [ZC] at h
 | a :: x, b :: y, h => by
  have h1 : ZC (a :: x) = a.1 :: a.2 :: ZC x := rfl
  have h2 : ZC (b :: y) = b.1 :: b.2 :: ZC y := rfl
  rw [h1, h2] at h
  injection h with h3 h4
  injection h4 with h5 h6
  rw [YI h6]
  congr 1
  rcases a with ⟨p, q⟩; rcases b with ⟨r, s⟩
  simp only at h3 h5
  rw [h3, h5]
theorem Z6 (l : List Ar) : (ZC l).length = l.length * 2 := by
 induction l with
 | nil => rfl
 | cons a r ih =>
  have h1 : ZC (a :: r) = a.1 :: a.2 :: ZC r := rfl
  rw [h1]; simp [ih]; omega
theorem YU (l : List Ar) (a : Ar) : ZC (l ++ [a]) = ZC l ++ [a.1, a.2] := by simp [ZC]
def ZD (O : List (List Ar)) (D nw : List Int) (s : Nat) : List Int := nw.getD s 0 :: ZC (O.getD (Xh D s) [])
def ZE (O : List (List Ar)) (D nw : List Int) (n : Nat) : List Value := (List.range n).map fun s => Jy (ZD O D nw s)
theorem YJ (O : List (List Ar)) (D nw : List Int) (n : Nat) : (ZE O D nw n).length = n := by simp [ZE]
theorem X0 {O : List (List Ar)} {D nw : List Int} {n s : Nat} (h : s < n) : (ZE O D nw n)[s]? = some (Jy (ZD O D nw s)) := by simp [ZE, h]
theorem Zg {X : List (List Ar)} {cl : List Int} (hv : BL X = true) (hc : Nrm X.length cl) (hn : X.length <= 100) : ∀ x ∈ XE cl X, (0 <= x.1 /\ x.1 < 2147483648) /\ 0 <= x.2 /\ x.2 < 2147483648 := by
 intro x hx
 have hlo : BK X = true := gEg (gE4 hv).1
 have hrng := hc.rng
 have hg : ∀ i, i < X.length -> 0 <= cl.getD i 0 /\ cl.getD i 0 < 2147483648 := fun i hi => by
  have hl := hc.len
  rw [gE2, gE1 (by omega), Option.getD_some]
  have := hrng _ (gE6 (show i < cl.length by omega))
  omega
 obtain ⟨s, hs, h⟩ := List.mem_flatMap.1 hx
 have hs : s < X.length := by simpa using hs
 rcases List.mem_cons.1 h with rfl | h
 ·exact ⟨by simp, hg s hs⟩
 obtain ⟨a, ha, e⟩ := List.mem_filterMap.1 h
 have hgd : X.getD s [] = X[s] := by rw [gE2, gE1 hs]; rfl
 rw [hgd] at ha
 have hb := (gE4 hlo).2.2.2 _ (gE6 hs) a ha
 unfold Xu at e
 split at e
 rotate_left
 ·cases e
 cases e
 exact ⟨by simp only; omega, hg _ (by omega)⟩
theorem Z0 {X : List (List Ar)} {D cl : List Int} {Q : List Nat} {O : List (List Ar)} {i : Nat} {f : Nat -> Nat} (hv : BL X = true) (hc : Nrm X.length cl) (hn : X.length <= 100) (hP : P3 f cl X Q i O) {s : Nat} (hs : s < X.length) : UJ (ZD O D cl s) := by
 intro x hx
 rcases List.mem_cons.1 hx with rfl | hx
 ·have hl := hc.len
  rw [gE2, gE1 (by omega), Option.getD_some]
  have := hc.rng _ (gE6 (show s < cl.length by omega))
  omega
 obtain ⟨a, ha, h⟩ := List.mem_flatMap.1 hx
 have hb := Zg hv hc hn _ (hP.sub _ _ ha)
 simp only [List.mem_cons, List.not_mem_nil, or_false] at h
 rcases h with rfl | rfl
 ·exact hb.1
 exact hb.2
theorem Zh {X : List (List Ar)} {D cl : List Int} {Q : List Nat} {O : List (List Ar)} (hv : BL X = true) (h : CpOk X D) (hQ : HB (Xa (Xh D) X X.length) X.length (Xh D) Q) (hc : Nrm X.length cl) (hn : X.length <= 100) (hP : P3 (Xh D) cl X Q Q.length O) : T6 (ZE O D cl X.length) (Wy (H5 X) cl) := by
 intro a b ha hb
 rw [YJ] at ha hb
 rw [gE2, X0 ha, gE2, X0 hb, Option.getD_some, Option.getD_some, RZ (Z0 hv hc hn hP ha) (Z0 hv hc hn hP hb)]
 congr 1
 rw [decide_eq_decide]
 unfold ZD Wy
 rw [P3.done hv h hQ hP ha, P3.done hv h hQ hP hb]
 constructor
 rotate_left
 ·intro e
  injection e with e1 e2
  rw [e1, e2]
 intro e
 injection e with e1 e2
 rw [e1, YI e2]
def XJ (kd ke : Value) (B : List Bool) (n k : Nat) : List Value := (List.range n).map fun s => if s < k /\ B.getD s false = true then kd else ke
theorem HF (kd ke : Value) (B : List Bool) (n k : Nat) : (XJ kd ke B n k).length = n := by simp [XJ]
theorem PM (kd ke : Value) (B : List Bool) (n : Nat) : XJ kd ke B n 0 = List.replicate n ke := by
 refine List.ext_getElem (by simp [XJ]) fun i h1 h2 => ?_
 simp [XJ]
theorem PN {kd ke : Value} {B : List Bool} {n k : Nat} (h : B.getD k false = true) : (XJ kd ke B n k).set k kd = XJ kd ke B n (k + 1) := by
 refine List.ext_getElem (by simp [XJ]) fun i h1 h2 => ?_
 rw [List.getElem_set]
 simp only [XJ, List.getElem_map, List.getElem_range]
 by_cases e : k = i
 ·subst e; rw [if_pos rfl, if_pos ⟨by omega, h⟩]
 rw [if_neg e]
 by_cases hb : B.getD i false = true
 rotate_left
 ·rw [if_neg (fun h => hb h.2), if_neg (fun h => hb h.2)]
 by_cases hk : i < k
 ·rw [if_pos ⟨hk, hb⟩, if_pos ⟨by omega, hb⟩]
 rw [if_neg (fun h => hk h.1), if_neg (fun h => by have := h.1; omega)]
theorem NH {kd ke : Value} {B : List Bool} {n k : Nat} (h : B.getD k false = false) : XJ kd ke B n (k + 1) = XJ kd ke B n k := by
 refine List.map_congr_left fun i _ => ?_
 by_cases hb : B.getD i false = true
 rotate_left
 ·rw [if_neg (fun h => hb h.2), if_neg (fun h => hb h.2)]
 by_cases e : i = k
 ·subst e; rw [h] at hb; cases hb
 by_cases hk : i < k
 ·rw [if_pos ⟨by omega, hb⟩, if_pos ⟨hk, hb⟩]
 rw [if_neg (fun h => by have := h.1; omega), if_neg (fun h => hk h.1)]
theorem TV {kd ke : Value} (h1 : C0 .ks kd kd = some true) (h2 : C0 .ks ke ke = some true) (h3 : C0 .ks kd ke = some false) (h4 : C0 .ks ke kd = some false) (B : List Bool) (n : Nat) : T6 (XJ kd ke B n n) (fun s => B.getD s false) := by
 intro a b ha hb
 rw [HF] at ha hb
 have g : ∀ s, s < n -> (XJ kd ke B n n).getD s (.int .i64 0) = if B.getD s false = true then kd else ke := fun s hs => by
  rw [gE2, gE1 (by rw [HF]; exact hs), Option.getD_some]
  simp only [XJ, List.getElem_map, List.getElem_range, hs, true_and]
 rw [g a ha, g b hb]
 show _ = some (decide (B.getD a false = B.getD b false))
 cases B.getD a false <;> cases B.getD b false <;> simp [h1, h2, h3, h4]
end Go.Proofs.YthnkailnoobdoaaGreatDoor
