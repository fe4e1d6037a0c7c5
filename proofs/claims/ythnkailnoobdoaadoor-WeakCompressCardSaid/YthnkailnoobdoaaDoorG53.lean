/- Lemmas. -/
import Derived.Test.YthnkailnoobdoaaDoorMG
import Derived.Test.YthnkailnoobdoaaDoorMK
import Derived.Test.YthnkailnoobdoaaDoorZk
import Derived.Test.YthnkailnoobdoaaDoorMF
import Derived.Test.YthnkailnoobdoaaDoorMit
import Derived.Test.YthnkailnoobdoaaDoorG70
import Derived.Lib.TrailingZeros
namespace Go.Proofs.YthnkailnoobdoaaDoor
set_option linter.unusedVariables false
set_option linter.unusedSimpArgs false
open Go.RowKit
set_option maxRecDepth 100000
attribute [local go_sem] lga C.pl C.one

section
variable {P : Program} {o : Oper} {st : ST} {K : ST -> Prop} {t kt e : TypeId} {s : Ks} {zv : Value} {id : Nat} {kv : List (Value × C)} {key : Value}
def Wl (zv : Value) (ok : Bool) : Option (Nat × C) -> AV
 | some (_, c) => match ok with
  | true => .tup [.c c, .c (.v (.bool true))]
  | false => .a (.c c)
 | none => match ok with
  | true => .tup [.c (.v zv), .c (.v (.bool false))]
  | false => .a (.c (.v zv))
theorem C6 {x ix : Operand} {ok : Bool} {r : Option (Nat × C)} (hu : P.underlying t = some (.map kt e)) (hK : KeyOk P kt s) (hze : (P.info? e).bind (·.zero) = some zv)
  (hd : Ue o st.n = true) (ho : o.op = .lookup t x ix ok) (hx : st.ev x = .a (.c (.m id))) (hm : st.hp[id]? = some (.m kv)) (hpl : kv.all (fun p => p.2.pl) = true) (hkey : Eu (st.ev ix) = some key) (hfit : ER s key = true) (hf : Bu s key kv 0 = some r)
  (h : K (st.put o.dst (Wl zv ok r))) : Stp P o st K := by
 refine GP hd (fun g w ρ hr hR => ?_) h
 obtain ⟨dst, op, ty, pos, af, gd⟩ := o
 simp only at ho
 subst ho
 have hz1 : ∀ w, (zeroValue e).run P w = .ok zv w := by
  intro w
  cases hi : P.info? e with
  | none => rw [hi] at hze; cases hze
  | some i =>
   rw [hi] at hze
   simp only [Option.bind_some] at hze
   simp [zeroValue, Cu hi, hze]
 obtain ⟨es, clock, m1, m2, m3, m4⟩ := (hr.mp id kv hm).map hf
 have e1 := hR x
 rw [hx] at e1
 obtain ⟨_, e1⟩ := e1
 have e2 := hR ix
 have e2 := Jr hkey e2
 have hKv : KvOk kv es.toList := ⟨by simpa using m2, fun i p hp => by
  obtain ⟨⟨e, f1, f2, _⟩, _⟩ := m3 i p hp
  exact ⟨e, by simpa using f1, f2⟩⟩
 obtain ⟨q, hq⟩ : ∃ q, BK s key key = some q := by
  unfold ER at hfit
  split at hfit
  ·exact ⟨_, ‹_›⟩
  cases hfit
 have hck := hK.ck key q hq es.isEmpty w
 cases r with
 | some p =>
  obtain ⟨j, c⟩ := p
  obtain ⟨h1, h2⟩ := II hK key w hKv hf
  obtain ⟨k', h3, h4⟩ := h2 j c rfl
  obtain ⟨⟨e, f1, f2, f3⟩, f4⟩ := m3 j _ h3
  have hc : CR g st.hp w c e.val := by
   have := List.all_eq_true.1 hpl _ (gE9 h3)
   exact CellR.cr this f3
  have hfnd : UD es.toList 0 (some (j, c)) = some (j, e.val) := by simp [UD, f1]
  rw [hfnd] at h1
  cases ok with
  | true =>
   refine ⟨.tuple #[e.val, .bool true], ?_, [e.val, .bool true], rfl, rfl, fun i a ha => ?_⟩
   ·simp [execOp, Instr.lookup, run_underlying hu, e1, MapKept.run_getObj_map m1, e2, hck, h1]
   match i, ha with
   | 0, ha => cases ha; exact ⟨_, rfl, hc⟩
   | 1, ha => cases ha; exact ⟨_, rfl, rfl⟩
  | false =>
   refine ⟨e.val, ?_, hc⟩
   simp [execOp, Instr.lookup, run_underlying hu, e1, MapKept.run_getObj_map m1, e2, hck, h1]
 | none =>
  obtain ⟨h1, _⟩ := II hK key w hKv hf
  have hfnd : UD es.toList 0 none = none := rfl
  rw [hfnd] at h1
  cases ok with
  | true =>
   refine ⟨.tuple #[zv, .bool false], ?_, [zv, .bool false], rfl, rfl, fun i a ha => ?_⟩
   ·simp [execOp, Instr.lookup, run_underlying hu, e1, MapKept.run_getObj_map m1, e2, hck, h1, hz1 w]
   match i, ha with
   | 0, ha => cases ha; exact ⟨_, rfl, rfl⟩
   | 1, ha => cases ha; exact ⟨_, rfl, rfl⟩
  | false =>
   refine ⟨zv, ?_, rfl⟩
   simp [execOp, Instr.lookup, run_underlying hu, e1, MapKept.run_getObj_map m1, e2, hck, h1, hz1 w]
theorem GC {m kx v : Operand} {c : C} (hu : P.underlying t = some (.map kt e)) (hK : KeyOk P kt s) (hd : Ue o st.n = true) (ho : o.op = .mapUpdate t m kx v) (hm : st.ev m = .a (.c (.m id))) (hmm : st.hp[id]? = some (.m kv)) (hpl : kv.all (fun p => p.2.pl) = true)
  (hkey : Eu (st.ev kx) = some key) (hfit : ER s key = true) (hv : st.ev v = .a (.c c)) (hone : c.one = true) (hf : Bu s key kv 0 = some none)
  (h : K ({ st with hp := st.hp.set id (.m (kv ++ [(key, c)])) }.put o.dst .u)) : Stp P o st K := by
 obtain ⟨q, hq⟩ : ∃ q, BK s key key = some q := by
  unfold ER at hfit
  split at hfit
  ·exact ⟨_, ‹_›⟩
  cases hfit
 have hcell : ∀ {g : Gh} {w : World} {u : Value}, CR g st.hp w c u -> CellR g st.hp w id 0 c u := fun h => EO hone h
 have hcpl : c.pl = true := by cases c <;> first | rfl | cases hone
 intro M0 w0 a w N Q hR hN
 obtain ⟨g, ⟨hp1, hp2⟩, hR⟩ := hR
 have e1 := hR.ev m
 rw [hm] at e1
 obtain ⟨_, e1⟩ := e1
 have e2 := hR.ev kx
 have e2 := Jr hkey e2
 have e3 := hR.ev v
 rw [hv] at e3
 obtain ⟨es, clock, m1, m2, m3, m4⟩ := (hR.hr.mp id kv hmm).map hf
 have hKv : KvOk kv es.toList := ⟨by simpa using m2, fun i p hp => by
  obtain ⟨⟨e, f1, f2, _⟩, _⟩ := m3 i p hp
  exact ⟨e, by simpa using f1, f2⟩⟩
 obtain ⟨h1, _⟩ := II hK key w hKv hf
 have hfnd : UD es.toList 0 none = none := rfl
 rw [hfnd] at h1
 have hl : es.size = kv.length := by simpa using hKv.1
 have r1 : (Instr.mapUpdate t (.map (some (g.γ (.ob id)))) key (a.eval v)).run P w = .ok () { w with heap := w.heap.setIfInBounds (g.γ (.ob id)) (.map (es.push { key := key, val := a.eval v, born := clock }) (clock + 1)) } := by
  simp [Instr.mapUpdate, run_underlying hu, MapKept.run_getObj_map m1, hK.ck key q hq, h1, MapKept.run_setObj_map _ m1]
 have hset := hR.mapset (es' := es.push { key := key, val := a.eval v, born := clock }) (clock := clock + 1) (kv' := kv ++ [(key, c)]) hmm (by simp [hl]) (fun i p hp => by
  rcases Nat.lt_or_ge i kv.length with hi | hi
  ·rw [gEa hi] at hp
   obtain ⟨⟨e', g1, g2, g3⟩, g4⟩ := m3 i p hp
   exact ⟨⟨e', by rw [Array.getElem?_push_lt (by omega)]; rw [<- g1]; simp [show i < es.size by omega], g2, g3⟩, g4⟩
  ·rw [gEb hi] at hp
   have hi' : i = kv.length := by
    have := (List.getElem?_eq_some_iff.1 hp).1
    simp at this
    omega
   subst hi'
   simp at hp
   subst hp
   exact ⟨⟨{ key := key, val := a.eval v, born := clock }, by rw [<- hl]; simp, rfl, hcell e3⟩, fun k' cs e => by
    simp only at e
    rw [e] at hcpl; cases hcpl⟩) (m4.push _ _)
 have hrun : (execOp a.eval o).run P w = .ok .skip { w with heap := w.heap.setIfInBounds (g.γ (.ob id)) (.map (es.push { key := key, val := a.eval v, born := clock }) (clock + 1)) } := by
  unfold execOp
  simp [ho, e1, e2, r1]
 unfold Oper.wp
 rw [hrun]
 exact hN _ _ _ h ⟨g, ⟨by cases o.dst <;> (simp [ST.put]; omega), by cases o.dst <;> exact hp2⟩, hset.put (AL hd) trivial⟩
theorem QT {src d el : TypeId} {x : Operand} {n q : Nat} {sl : Bool} {cells : List C} {ns : List Int} (hu1 : P.underlying src = some (.slice el)) (hu2 : P.underlying d = some .string) (hu3 : P.underlying el = some (.int .u8))
  (hd : Ue o st.n = true) (ho : o.op = .convert src d x) (hx : st.ev x = .a (.c (.s id n))) (hrow' : st.hp[id]? = some (.r ⟨q, 1, sl, cells⟩)) (hns : ns.length = n) (e1 : cells.take n = ns.map (fun m => C.v (.int .u8 m)))
  (h : K (st.put o.dst (.a (.c (.v (.string ⟨⟨ns.map fun (m : Int) => UInt8.ofNat m.toNat⟩⟩)))))) : Stp P o st K := by
 refine GP hd (fun g w ρ hr hR => ?_) h
 obtain ⟨dst, op, ty, pos, af, gd⟩ := o
 simp only at ho
 subst ho
 have e2 := hR x
 rw [hx] at e2
 obtain ⟨_, hn, A, e2, e3, _⟩ := e2
 refine ⟨.string ⟨⟨ns.map fun (m : Int) => UInt8.ofNat m.toNat⟩⟩, ?_, rfl⟩
 have hconv : (Conv.bytesToString (.slice A n (g.κ id))).run P w = .ok (.string ⟨⟨ns.map fun (m : Int) => UInt8.ofNat m.toNat⟩⟩) w := by
  rcases hr.row id _ hrow' with ⟨h0, h2⟩ | ⟨h0, _, arr, ha, hla, hs, _, hcells⟩
  ·have hn0 : n = 0 := by omega
   subst hn0
   have : ns = [] := List.eq_nil_of_length_eq_zero hns
   subst this
   cases A with
   | none => simp [Conv.bytesToString, ByteArray.empty, ByteArray.emptyWithCapacity]; rfl
   | some a => simp [Conv.bytesToString, loadCells, loadCellsFrom, ByteArray.empty, ByteArray.emptyWithCapacity]; rfl
  rw [e3 h0]
  have hload : (loadCells ⟨g.γ (.ob id), 0, none⟩ n).run P w = .ok (ns.map (Value.int .u8)).toArray w := by
   unfold loadCells
   rw [BA _ _ _ 0 (ns.map (Value.int .u8)) #[] (by simpa using hns) (fun q u hq => ?_)]
   ·simp
   rw [cell_of_row _ _ _ _ _ _ ha]
   rw [List.getElem?_map, Option.map_eq_some_iff] at hq
   obtain ⟨m, hm, rfl⟩ := hq
   have hlt : q < n := by rw [<- hns]; exact (List.getElem?_eq_some_iff.1 hm).1
   have hcq : cells[q]? = some (.v (.int .u8 m)) := by
    have : (cells.take n)[q]? = some (.v (.int .u8 m)) := by rw [e1]; simp [hm]
    rw [List.getElem?_take, if_pos hlt] at this
    exact this
   obtain ⟨u, f1, f2⟩ := hcells q _ hcq
   have f2 : u = .int .u8 m := f2
   subst f2
   simpa using f1
  simp only [Conv.bytesToString, Sem.run_bind, hload, Result.andThen_ok]
  rw [LH (fun n s w => by simp)]
  simp [ByteArray.empty, ByteArray.emptyWithCapacity]
  rfl
 simp [execOp, convert, run_underlying hu1, run_underlying hu2, e2, run_underlying hu3, hconv]
end
def kb (n : Int) : List Int := [IntKind.u8.wrap (n.fdiv (2 ^ (24 : Int).toNat)), IntKind.u8.wrap (n.fdiv (2 ^ (16 : Int).toNat)), IntKind.u8.wrap (n.fdiv (2 ^ (8 : Int).toNat)), IntKind.u8.wrap n]
def J4 (xs : List Int) : List Int := xs.flatMap kb
def J5 (xs : List Int) : Value := .string ⟨⟨(J4 xs).map fun (m : Int) => UInt8.ofNat m.toNat⟩⟩
def Wm (l : List Int) : List C := l.map fun m => C.v (.int .u8 m)
theorem J6 (l : List Int) : (Wm l).length = l.length := by simp [Wm]
theorem QU (f : List Nat) (l : List Int) : (Wm l).map (C.ren f) = Wm l := by simp [Wm, C.ren, Function.comp_def]
theorem Cz (xs : List Int) : (J4 xs).length = xs.length * 4 := by
 unfold J4
 induction xs with
 | nil => rfl
 | cons x r ih => rw [List.flatMap_cons, List.length_append, ih, List.length_cons]; simp [kb]; omega
theorem MB (xs : List Int) (x : Int) : (Wm (J4 xs)).take (xs.length * 4) ++ [C.v (.int .u8 (IntKind.u8.wrap (x.fdiv (2 ^ (24 : Int).toNat)))), C.v (.int .u8 (IntKind.u8.wrap (x.fdiv (2 ^ (16 : Int).toNat)))), C.v (.int .u8 (IntKind.u8.wrap (x.fdiv (2 ^ (8 : Int).toNat)))), C.v (.int .u8 (IntKind.u8.wrap x))] = Wm (J4 (xs ++ [x])) := by
 rw [gE7 (by rw [J6, Cz]; exact Nat.le_refl _)]
 unfold J4 Wm
 simp [kb]
theorem Sq (n : Int) : IntKind.u8.wrap n = n % 256 := by simp [IntKind.wrap, IntKind.signed, IntKind.bits]
theorem Sr {x y : Int} (hx : 0 <= x /\ x < 2147483648) (hy : 0 <= y /\ y < 2147483648) (h : kb x = kb y) : x = y := by
 unfold kb at h
 simp only [List.cons.injEq, and_true, Sq] at h
 obtain ⟨h1, h2, h3, h4⟩ := h
 have e : ∀ z : Int, z.fdiv (2 ^ (24 : Int).toNat) = z / 16777216 /\ z.fdiv (2 ^ (16 : Int).toNat) = z / 65536 /\ z.fdiv (2 ^ (8 : Int).toNat) = z / 256 := fun z => ⟨Int.fdiv_eq_ediv_of_nonneg z (by decide), Int.fdiv_eq_ediv_of_nonneg z (by decide), Int.fdiv_eq_ediv_of_nonneg z (by decide)⟩
 rw [(e x).1, (e y).1] at h1
 rw [(e x).2.1, (e y).2.1] at h2
 rw [(e x).2.2, (e y).2.2] at h3
 omega
theorem Ss (x : Int) : ∀ m ∈ kb x, 0 <= m /\ m < 256 := by
 intro m hm
 unfold kb at hm
 simp only [List.mem_cons, List.not_mem_nil, or_false, Sq] at hm
 rcases hm with rfl | rfl | rfl | rfl <;> omega
theorem K7 : ∀ {xs ys : List Int}, (∀ x ∈ xs, 0 <= x /\ x < 2147483648) -> (∀ y ∈ ys, 0 <= y /\ y < 2147483648) -> J4 xs = J4 ys -> xs = ys
 | [], [], _, _, _ => rfl
 | [], y :: ys, _, _, h => by have := congrArg List.length h; rw [Cz, Cz] at this; simp at this
 | x :: xs, [], _, _, h => by have := congrArg List.length h; rw [Cz, Cz] at this; simp at this
 | x :: xs, y :: ys, hx, hy, h => by
  have h1 : kb x ++ J4 xs = kb y ++ J4 ys := h
  obtain ⟨h2, h3⟩ := List.append_inj h1 rfl
  rw [Sr (hx x (by simp)) (hy y (by simp)) h2, K7 (fun a ha => hx a (gEf _ ha)) (fun a ha => hy a (gEf _ ha)) h3]
theorem K8 (xs : List Int) : ∀ m ∈ J4 xs, 0 <= m /\ m < 256 := by
 intro m hm
 obtain ⟨x, _, hx⟩ := List.mem_flatMap.1 hm
 exact Ss x m hx
theorem GD : ∀ {l m : List Int}, (∀ x ∈ l, 0 <= x /\ x < 256) -> (∀ x ∈ m, 0 <= x /\ x < 256) -> (l.map fun (m : Int) => UInt8.ofNat m.toNat) = (m.map fun (m : Int) => UInt8.ofNat m.toNat) -> l = m
 | [], [], _, _, _ => rfl
 | [], y :: ys, _, _, h => by simp at h
 | x :: xs, [], _, _, h => by simp at h
 | x :: xs, y :: ys, hx, hy, h => by
  simp only [List.map_cons, List.cons.injEq] at h
  have h1 := hx x (by simp)
  have h2 := hy y (by simp)
  have h3 := congrArg UInt8.toNat h.1
  simp only [UInt8.toNat_ofNat'] at h3
  have : x = y := by omega
  rw [this, GD (fun a ha => hx a (gEf _ ha)) (fun a ha => hy a (gEf _ ha)) h.2]
theorem OE {xs ys : List Int} (hx : ∀ x ∈ xs, 0 <= x /\ x < 2147483648) (hy : ∀ y ∈ ys, 0 <= y /\ y < 2147483648) (h : J5 xs = J5 ys) : xs = ys := by
 unfold J5 at h
 injection h with h
 injection h with h
 injection h with h
 exact K7 hx hy (GD (K8 _) (K8 _) h)
set_option maxHeartbeats 1000000 in
theorem St (xs : List Int) (hn : xs.length <= 100000000) : FC Tryd.prog 67 [AC xs] [] (fun r o => o = [] /\ r = .a (.c (.v (J5 xs)))) := by
 refine Af Tryd.func67 rfl (by rw [Tryd.ntmps67]; simp) ?_
 rw [Tryd.ntmps67]
 simp only [C2, AC]
 (refine UX @A2 ?_;(repeat clear hK K);repeat refine kq fun K hK=>?_)
 refine Ab (fun k : Nat => { tm := [(3, .a (.c (.s 0 (k * 4)))), (10, .a (.c (.t 1 (Ad xs)))), (11, .i xs.length), (12, .i k)], hp := [.r ⟨5, 1, false, Wm (J4 (xs.take k))⟩], n := 33, pin := 0 }) (fun k => k <= xs.length) (fun k => xs.length - k) 0 ?_ ?_ ?_
 ·omega
 ·simp only [show Int.toNat 0 = 0 from rfl, List.replicate_zero, List.take_zero, J4, List.flatMap_nil, Wm, List.map_nil, Nat.zero_mul]
  exact V7
 rintro k hk K hK
 have htl : (xs.take k).length = k := by simp; omega
 by_cases hlt : k < xs.length
 ·have d1 : decide ((k : Int) < (xs.length : Int)) = true := by simpa using hlt
  have hg := Ai (gE1 hlt)
  have hp := MB (xs.take k) xs[k]
  rw [htl, <- gE8 hlt] at hp
  (refine UX @d1 ?_;(repeat clear hK K);repeat refine kq fun K hK=>?_)
  refine V4 ?_
  (refine UX (an @hg (an @A2 (an @J6 (an @Cz (an @htl @hp))))) ?_;(repeat clear hK K);repeat refine kq fun K hK=>?_)
  refine V6 ?_
  refine hK _ (k + 1) (by omega) (by omega) ?_
  refine Le.trans (Ae [2] rfl rfl) ?_
  (try simp only [List.set_nil, List.take_nil, List.take_zero, List.map_append, go_sem])
  (try simp only [QU])
  have e4 : k * 4 + 4 = (k + 1) * 4 := by omega
  (try simp only [e4])
  exact V7
 have d1 : decide ((k : Int) < (xs.length : Int)) = false := by simpa using hlt
 have hke : xs.take k = xs := gE7 (by omega)
 have hkl : k = xs.length := by omega
 rw [hke]
 (refine UX @d1 ?_;(repeat clear hK K);repeat refine kq fun K hK=>?_)
 refine V5 ?_
 (refine V0 ?_;repeat clear hK K)
 (refine UW ?_;(repeat clear hK K);repeat refine kq fun K hK=>?_)
 (refine Aa rfl ?_; intro K1 hK1; refine QT (id := 0) (n := k * 4) (q := 5) (sl := false) (cells := Wm (J4 xs)) (ns := J4 xs) Tryd.underlying131 Tryd.underlying9 Tryd.underlying5 rfl rfl (by simp only [go_sem]) rfl (by rw [Cz]; omega) (by rw [hkl, gE7 (by rw [J6, Cz]; exact Nat.le_refl _)]; rfl) ?_; simp only [go_sem]; refine hK1 _ ?_; clear hK1 K1)
 (refine UW ?_;(repeat clear hK K);repeat refine kq fun K hK=>?_)
 ((try refine AM ?_); (try simp only [Ag, B6]); refine BG (Ae [] rfl rfl) ?_; (try simp only [List.set_nil, List.take_nil, List.take_zero, List.map_append, go_sem]); ((try refine AM ?_); (try refine A6 ?_); (try simp only [Ag, B6]); refine BP (by first | exact .inl rfl | exact .inr rfl) rfl ?_; simp only [Uo, Fy, F0, Ge, Tryd.results67, go_sem, true_and, and_true, J5]))
theorem K9 {P : Program} {o : Oper} {st : ST} {K : ST -> Prop} {t kt e : TypeId} {id : Nat} {kv : List (Value × C)} {x : Operand} {c : Call} (hu : P.underlying t = some (.map kt e)) (hd : Ue o st.n = true) (ho : o.op = .call c) (hc1 : c.callee = .builtin .len) (hc2 : c.args = #[x]) (hc3 : c.argTypes = #[t]) (hx : st.ev x = .a (.c (.m id))) (hm : st.hp[id]? = some (.m kv)) (hit : NC kv = false) (h : K (st.put o.dst (.i kv.length))) : Stp P o st K := by
 refine GP hd (fun g w ρ hr hR => ?_) h
 obtain ⟨dst, op, ty, pos, af, gd⟩ := o
 simp only at ho
 subst ho
 obtain ⟨callee, args, ts⟩ := c
 simp only at hc1 hc2 hc3
 subst hc1; subst hc2; subst hc3
 obtain ⟨es, clock, m1, m2, _⟩ := (hr.mp id kv hm).map0 hit
 have e1 := hR x
 rw [hx] at e1
 obtain ⟨_, e1⟩ := e1
 refine ⟨.int .i64 kv.length, ?_, rfl⟩
 simp only [execOp, resolve, invoke, builtin, Sem.run_bind, Sem.run_pure, Result.andThen_ok, List.map_toArray, List.map_cons, List.map_nil, e1]
 simp [Builtin.len_, run_underlying hu, MapKept.run_getObj_map m1, goInt, m2]
theorem PL (M : List (Value × Value)) : NC (M.map fun p => (p.1, C.v p.2)) = false := by
 cases M <;> rfl
theorem KX {s : Ks} {key k : Value} {c : C} : ∀ (l : List (Value × C)) (i : Nat), Bu s key (l ++ [(k, c)]) i = match Bu s key l i with | some none => (match BK s key k with | some true => some (some (i + l.length, c)) | some false => some none | none => none) | r => r := by
 intro l
 induction l with
 | nil =>
  intro i
  simp only [List.nil_append, Bu, List.length_nil, Nat.add_zero]
  cases BK s key k with
  | none => rfl
  | some b => cases b <;> rfl
 | cons p r ih =>
  intro i
  obtain ⟨k1, c1⟩ := p
  simp only [List.cons_append, Bu]
  cases BK s key k1 with
  | none => rfl
  | some b =>
   cases b with
   | true => rfl
   | false =>
    simp only
    rw [ih (i + 1), List.length_cons, show i + 1 + r.length = i + (r.length + 1) from by omega]
section
variable {α : Type} [DecidableEq α]
def RL (ky : List Value) (g : Nat -> α) : Prop := ∀ a b, a < ky.length -> b < ky.length -> BK .ks (ky.getD a (.int .i64 0)) (ky.getD b (.int .i64 0)) = some (decide (g a = g b))
def Wn (ky : List Value) (g : Nat -> α) : Nat -> List (Value × C)
 | 0 => []
 | k + 1 => match (List.range k).find? (fun t => decide (g t = g k)) with
  | some _ => Wn ky g k
  | none => Wn ky g k ++ [(ky.getD k (.int .i64 0), .v (.int .i64 (Vf g k).2))]
theorem Eo {ky : List Value} {g : Nat -> α} {k t : Nat} (h : (List.range k).find? (fun t => decide (g t = g k)) = some t) : Wn ky g (k + 1) = Wn ky g k := by rw [Wn, h]
theorem Ep {ky : List Value} {g : Nat -> α} {k : Nat} (h : (List.range k).find? (fun t => decide (g t = g k)) = none) : Wn ky g (k + 1) = Wn ky g k ++ [(ky.getD k (.int .i64 0), .v (.int .i64 (Vf g k).2))] := by rw [Wn, h]
theorem Su (ky : List Value) (g : Nat -> α) (k : Nat) : (Wn ky g k).all (fun p => p.2.pl) = true := by
 induction k with
 | zero => rfl
 | succ k ih =>
  cases h : (List.range k).find? (fun t => decide (g t = g k)) with
  | some t => rw [Eo h]; exact ih
  | none => rw [Ep h, List.all_append, ih]; rfl
theorem MC (ky : List Value) (g : Nat -> α) (k : Nat) : (Wn ky g k).length = (Vf g k).2 := by
 induction k with
 | zero => rfl
 | succ k ih =>
  cases h : (List.range k).find? (fun t => decide (g t = g k)) with
  | some t => rw [Eo h, Eh h]; exact ih
  | none => rw [Ep h, Ei h, List.length_append, ih]; rfl
theorem Hf (ky : List Value) (g : Nat -> α) (k : Nat) : ∃ M : List (Value × Value), Wn ky g k = M.map fun p => (p.1, C.v p.2) := by
 induction k with
 | zero => exact ⟨[], rfl⟩
 | succ k ih =>
  obtain ⟨M, hM⟩ := ih
  cases h : (List.range k).find? (fun t => decide (g t = g k)) with
  | some t => exact ⟨M, by rw [Eo h, hM]⟩
  | none => exact ⟨M ++ [(ky.getD k (.int .i64 0), .int .i64 (Vf g k).2)], by rw [Ep h, hM]; simp⟩
theorem OG {ky : List Value} {g : Nat -> α} (h : RL ky g) {s : Nat} (hs : s < ky.length) : ∀ k, k <= ky.length -> (∃ t, t < k /\ g t = g s /\ ∃ j, Bu .ks (ky.getD s (.int .i64 0)) (Wn ky g k) 0 = some (some (j, .v (.int .i64 ((Vf g k).1.getD t 0))))) \/ ((∀ t, t < k -> g t ≠ g s) /\ Bu .ks (ky.getD s (.int .i64 0)) (Wn ky g k) 0 = some none) := by
 intro k
 induction k with
 | zero => intro _; exact .inr ⟨fun t ht => by omega, rfl⟩
 | succ k ih =>
  intro hk
  have hkl : k < ky.length := hk
  have hlen := (BX g k).len
  cases hf : (List.range k).find? (fun t => decide (g t = g k)) with
  | some t0 =>
   have h2 := List.find?_range_eq_some.1 hf
   have h3 : t0 < k := by simpa using h2.2.1
   have h4 : g t0 = g k := by simpa using h2.1
   rw [Eo hf, Eh hf]
   rcases ih (by omega) with ⟨t, a1, a2, j, a3⟩ | ⟨a1, a2⟩
   ·refine .inl ⟨t, by omega, a2, j, ?_⟩
    rw [a3, Cw (by omega)]
   refine .inr ⟨fun t ht => ?_, a2⟩
   rcases Nat.lt_or_ge t k with b | b
   ·exact a1 t b
   have : t = k := by omega
   subst this
   rw [<- h4]; exact a1 t0 h3
  | none =>
   rw [Ep hf, Ei hf, KX, h s k hs hkl]
   rcases ih (by omega) with ⟨t, a1, a2, j, a3⟩ | ⟨a1, a2⟩
   ·refine .inl ⟨t, by omega, a2, j, ?_⟩
    rw [a3, Cw (by omega)]
   rw [a2]
   by_cases e : g s = g k
   ·refine .inl ⟨k, by omega, e.symm, 0 + (Wn ky g k).length, ?_⟩
    rw [gEg e, Di hlen.symm]
   refine .inr ⟨fun t ht => ?_, by rw [decide_eq_false e]⟩
   rcases Nat.lt_or_ge t k with b | b
   ·exact a1 t b
   have : t = k := by omega
   subst this
   exact Ne.symm e
theorem QV {ky : List Value} {g : Nat -> α} (h : RL ky g) {s : Nat} (hs : s < ky.length) : ER .ks (ky.getD s (.int .i64 0)) = true := by
 unfold ER
 rw [h s s hs hs]
def Wo (ky : List Value) : List C := ky.map C.v
theorem FY (ky : List Value) : (Wo ky).length = ky.length := by simp [Wo]
theorem QW {ky : List Value} {s : Nat} (h : s < ky.length) : (Wo ky)[s]? = some (.v (ky.getD s (.int .i64 0))) := by simp [Wo, gE2, h]
theorem EL (ky : List Value) (f : List Nat) : (Wo ky).map (C.ren f) = Wo ky := by simp [Wo, C.ren, Function.comp_def]
theorem J7 (ky : List Value) (s : Nat) (v : Value) : (Wo ky).set s (.v v) = Wo (ky.set s v) := by simp [Wo, List.map_set]
end
def Tm (L : List Int) : Prop := ∀ x ∈ L, 0 <= x /\ x < 2147483648
theorem QX {x y : List Int} (hx : Tm x) (hy : Tm y) : BK .ks (J5 x) (J5 y) = some (decide (x = y)) := by
 show some _ = some _
 congr 1
 rw [Bool.eq_iff_iff, decide_eq_true_iff, MapKept.bytes_beq]
 exact ⟨fun h => OE hx hy (by unfold J5; rw [h]), fun h => by rw [h]⟩
def Wp (kd ke : Value) (B : List Bool) (n k : Nat) : List Value := (List.range n).map fun s => if s < k /\ B.getD s false = true then kd else ke
theorem Hg (kd ke : Value) (B : List Bool) (n k : Nat) : (Wp kd ke B n k).length = n := by simp [Wp]
theorem OH (kd ke : Value) (B : List Bool) (n : Nat) : Wp kd ke B n 0 = List.replicate n ke := by
 refine List.ext_getElem (by simp [Wp]) fun i h1 h2 => ?_
 simp [Wp]
theorem OI {kd ke : Value} {B : List Bool} {n k : Nat} (h : B.getD k false = true) : (Wp kd ke B n k).set k kd = Wp kd ke B n (k + 1) := by
 refine List.ext_getElem (by simp [Wp]) fun i h1 h2 => ?_
 rw [List.getElem_set]
 simp only [Wp, List.getElem_map, List.getElem_range]
 by_cases e : k = i
 ·subst e; rw [if_pos rfl, if_pos ⟨by omega, h⟩]
 rw [if_neg e]
 by_cases hb : B.getD i false = true
 rotate_left
 ·rw [if_neg (fun h => hb h.2), if_neg (fun h => hb h.2)]
 by_cases hk : i < k
 ·rw [if_pos ⟨hk, hb⟩, if_pos ⟨by omega, hb⟩]
 rw [if_neg (fun h => hk h.1), if_neg (fun h => by have := h.1; omega)]
theorem MD {kd ke : Value} {B : List Bool} {n k : Nat} (h : B.getD k false = false) : Wp kd ke B n (k + 1) = Wp kd ke B n k := by
 refine List.map_congr_left fun i _ => ?_
 by_cases hb : B.getD i false = true
 rotate_left
 ·rw [if_neg (fun h => hb h.2), if_neg (fun h => hb h.2)]
 by_cases e : i = k
 ·subst e; rw [h] at hb; cases hb
 by_cases hk : i < k
 ·rw [if_pos ⟨by omega, hb⟩, if_pos ⟨hk, hb⟩]
 rw [if_neg (fun h => by have := h.1; omega), if_neg (fun h => hk h.1)]
theorem Sv {kd ke : Value} (h1 : BK .ks kd kd = some true) (h2 : BK .ks ke ke = some true) (h3 : BK .ks kd ke = some false) (h4 : BK .ks ke kd = some false) (B : List Bool) (n : Nat) : RL (Wp kd ke B n n) (fun s => B.getD s false) := by
 intro a b ha hb
 rw [Hg] at ha hb
 have g : ∀ s, s < n -> (Wp kd ke B n n).getD s (.int .i64 0) = if B.getD s false = true then kd else ke := fun s hs => by
  rw [gE2, gE1 (by rw [Hg]; exact hs), Option.getD_some]
  simp only [Wp, List.getElem_map, List.getElem_range, hs, true_and]
 rw [g a ha, g b hb]
 show _ = some (decide (B.getD a false = B.getD b false))
 cases B.getD a false <;> cases B.getD b false <;> simp [h1, h2, h3, h4]
def At (w : Nat) : List Int := ((List.range 64).filter fun i => w.testBit i).map Int.ofNat
def WS (w : Nat) (p : Nat -> Prop) : Prop := w < 2 ^ 64 /\ ∀ i, i < 64 -> (w.testBit i = true ↔ p i)
theorem WS.lt {w : Nat} {p : Nat -> Prop} (h : WS w p) : w < 18446744073709551616 := h.1
theorem Sw {w i : Nat} (h : w < 2 ^ 64) (hi : 64 <= i) : w.testBit i = false := Nat.testBit_lt_two_pow (Nat.lt_of_lt_of_le h (Nat.pow_le_pow_right (by decide) hi))
theorem PM {v w : Nat} (hv : v < 2 ^ 64) (hw : w < 2 ^ 64) (h : ∀ i, i < 64 -> v.testBit i = w.testBit i) : v = w := by
 refine Nat.eq_of_testBit_eq fun i => ?_
 rcases Nat.lt_or_ge i 64 with hi | hi
 ·exact h i hi
 rw [Sw hv hi, Sw hw hi]
theorem WS.uniq {v w : Nat} {p q : Nat -> Prop} (hv : WS v p) (hw : WS w q) (h : ∀ i, i < 64 -> (p i ↔ q i)) : v = w := by
 refine PM hv.1 hw.1 fun i hi => ?_
 rw [Bool.eq_iff_iff, hv.2 i hi, hw.2 i hi, h i hi]
theorem KY : At 0 = [] := by
 unfold At
 rw [List.filter_eq_nil_iff.2 (fun i _ => by simp)]
 rfl
theorem Cr (w : Nat) : (At w).length <= 64 := by
 unfold At
 rw [List.length_map]
 exact Nat.le_trans (List.length_filter_le _ _) (by simp)
theorem CQ {w : Nat} {x : Int} : x ∈ At w ↔ ∃ i, i < 64 /\ w.testBit i = true /\ x = (i : Int) := by
 unfold At
 simp only [List.mem_map, List.mem_filter, List.mem_range]
 constructor
 ·rintro ⟨i, ⟨h1, h2⟩, rfl⟩; exact ⟨i, h1, h2, rfl⟩
 rintro ⟨i, h1, h2, rfl⟩; exact ⟨i, ⟨h1, h2⟩, rfl⟩
theorem Ka {w : Nat} : ∀ x ∈ At w, 0 <= x /\ x < 64 := fun x hx => by
 obtain ⟨i, h1, _, rfl⟩ := CQ.1 hx
 omega
theorem Ib {v w : Nat} (hv : v < 2 ^ 64) (hw : w < 2 ^ 64) (h : At v = At w) : v = w := by
 refine PM hv hw fun i hi => ?_
 have key : ((i : Int) ∈ At v) ↔ ((i : Int) ∈ At w) := by rw [h]
 rw [CQ, CQ] at key
 have e : ∀ u : Nat, (∃ j, j < 64 /\ u.testBit j = true /\ (i : Int) = (j : Int)) ↔ u.testBit i = true := fun u => by
  constructor
  rotate_left
  ·intro h2; exact ⟨i, hi, h2, rfl⟩
  rintro ⟨j, _, h2, h3⟩
  have : i = j := by omega
  rw [this]; exact h2
 rw [e, e] at key
 rw [Bool.eq_iff_iff]; exact key
theorem Ic (w : Nat) : Vb (At w) := by
 unfold At Vb
 rw [List.pairwise_map]
 refine List.Pairwise.filter _ ?_
 refine List.pairwise_lt_range.imp fun {a b} h => ?_
 simp only [Int.ofNat_eq_natCast]; omega
theorem Kb (k m i : Nat) : (2 ^ k * (2 * m + 1)).testBit i = if i < k then false else if i = k then true else (2 * m).testBit (i - k) := by
 rw [Nat.testBit_two_pow_mul]
 by_cases h : i < k
 ·rw [if_pos h]; simp [show ¬ k <= i by omega]
 rw [if_neg h]
 by_cases e : i = k
 ·subst e; rw [if_pos rfl]; simp [Nat.testBit_zero]
 rw [if_neg e]
 obtain ⟨d, hd⟩ : ∃ d, i - k = d + 1 := ⟨i - k - 1, by omega⟩
 rw [hd, Nat.testBit_succ, Nat.testBit_succ]
 simp [show k <= i by omega, show (2 * m + 1) / 2 = m by omega]
theorem Hh (k m i : Nat) : (2 ^ k * (2 * m)).testBit i = if i < k then false else if i = k then false else (2 * m).testBit (i - k) := by
 rw [Nat.testBit_two_pow_mul]
 by_cases h : i < k
 ·rw [if_pos h]; simp [show ¬ k <= i by omega]
 rw [if_neg h]
 by_cases e : i = k
 ·subst e; rw [if_pos rfl]; simp [Nat.testBit_zero]
 rw [if_neg e]; simp [show k <= i by omega]
theorem OJ (k m : Nat) : (2 ^ k * (2 * m + 1)) &&& (2 ^ k * (2 * m + 1) - 1) = 2 ^ k * (2 * m) := by
 have hp : 0 < 2 ^ k := Nat.two_pow_pos k
 have e1 : 2 ^ k * (2 * m + 1) - 1 = 2 ^ k * (2 * m) + (2 ^ k - 1) := by
  rw [Nat.mul_add, Nat.mul_one]; omega
 refine Nat.eq_of_testBit_eq fun i => ?_
 rw [Nat.testBit_and, Kb, e1, Nat.testBit_two_pow_mul_add _ (by omega), Hh]
 by_cases h : i < k
 ·rw [if_pos h, if_pos h, if_pos h]; rfl
 rw [if_neg h, if_neg h, if_neg h]
 by_cases e : i = k
 ·subst e; rw [if_pos rfl, if_pos rfl]; simp [Nat.testBit_zero]
 rw [if_neg e, if_neg e]; simp
theorem ME {w : Nat} (h0 : 0 < w) (h : w < 2 ^ 64) : Lib.ctz 64 w < 64 /\ (w &&& (w - 1)) < w /\ At w = (Lib.ctz 64 w : Int) :: At (w &&& (w - 1)) := by
 obtain ⟨m, hm, hk⟩ := Lib.ctzFrom_spec 64 w h0 h
 have hc : Lib.ctz 64 w = Lib.ctzFrom 64 w := by unfold Lib.ctz; rw [if_neg (by omega)]
 rw [hc]
 generalize Lib.ctzFrom 64 w = k at *
 have ha : (w &&& (w - 1)) = 2 ^ k * (2 * m) := by rw [hm]; exact OJ k m
 have hp : 0 < 2 ^ k := Nat.two_pow_pos k
 have hlt : 2 ^ k * (2 * m) < w := by rw [hm, Nat.mul_add]; omega
 refine ⟨hk, by rw [ha]; exact hlt, ?_⟩
 rw [ha]
 refine IJ (Ic _) ?_ fun x => ?_
 ·unfold Vb
  refine List.pairwise_cons.2 ⟨fun x hx => ?_, Ic _⟩
  obtain ⟨i, h1, h2, rfl⟩ := CQ.1 hx
  rw [Hh] at h2
  by_cases h : i < k
  ·rw [if_pos h] at h2; cases h2
  rw [if_neg h] at h2
  by_cases e : i = k
  ·rw [if_pos e] at h2; cases h2
  omega
 rw [List.mem_cons, CQ, CQ]
 constructor
 ·rintro ⟨i, h1, h2, rfl⟩
  rw [hm, Kb] at h2
  by_cases h : i < k
  ·rw [if_pos h] at h2; cases h2
  rw [if_neg h] at h2
  by_cases e : i = k
  ·exact .inl (by rw [e])
  rw [if_neg e] at h2
  exact .inr ⟨i, h1, by rw [Hh, if_neg h, if_neg e]; exact h2, rfl⟩
 rintro (rfl | ⟨i, h1, h2, rfl⟩)
 ·exact ⟨k, hk, by rw [hm, Kb, if_neg (by omega), if_pos rfl], rfl⟩
 rw [Hh] at h2
 by_cases h : i < k
 ·rw [if_pos h] at h2; cases h2
 rw [if_neg h] at h2
 by_cases e : i = k
 ·rw [if_pos e] at h2; cases h2
 rw [if_neg e] at h2
 exact ⟨i, h1, by rw [hm, Kb, if_neg h, if_neg e]; exact h2, rfl⟩
theorem Sx {v w : Nat} (hv : v < 2 ^ 64) (hw : w < 2 ^ 64) : (v ||| w) < 2 ^ 64 := Nat.or_lt_two_pow hv hw
theorem QY {v w i : Nat} : (v ||| w).testBit i = true ↔ v.testBit i = true \/ w.testBit i = true := by rw [Nat.testBit_or]; simp
theorem Sy {k i : Nat} : (2 ^ k).testBit i = true ↔ k = i := by rw [Nat.testBit_two_pow]; simp
theorem Kc {k : Nat} (h : k < 64) : 2 ^ k < 2 ^ 64 := Nat.pow_lt_pow_right (by decide) h
def Fh (x : Int) (t : Nat) (V : List (Int × Nat)) : List Int := x :: ((At t).length : Int) :: (At t ++ V.flatMap fun p => p.1 :: ((At p.2).length : Int) :: At p.2)
theorem MF {α : Type} {a b c d : List α} (h : a ++ b = c ++ d) (hl : a.length = c.length) : a = c /\ b = d := List.append_inj h hl
theorem Kd : ∀ {V W : List (Int × Nat)}, (∀ p ∈ V, p.2 < 2 ^ 64) -> (∀ p ∈ W, p.2 < 2 ^ 64) -> (V.flatMap fun p => p.1 :: ((At p.2).length : Int) :: At p.2) = (W.flatMap fun p => p.1 :: ((At p.2).length : Int) :: At p.2) -> V = W
 | [], [], _, _, _ => rfl
 | [], q :: W, _, _, h => by simp at h
 | p :: V, [], _, _, h => by simp at h
 | p :: V, q :: W, hv, hw, h => by
  simp only [List.flatMap_cons, List.cons_append, List.cons.injEq] at h
  obtain ⟨h1, h2, h3⟩ := h
  obtain ⟨h4, h5⟩ := MF h3 (by omega)
  have h6 := Ib (hv p List.mem_cons_self) (hw q List.mem_cons_self) h4
  have h7 := Kd (fun p hp => hv p (gEf _ hp)) (fun p hp => hw p (gEf _ hp)) h5
  rw [h7]
  congr 1
  exact Prod.ext h1 h6
theorem OK {x y : Int} {s t : Nat} {V W : List (Int × Nat)} (hs : s < 2 ^ 64) (ht : t < 2 ^ 64) (hV : ∀ p ∈ V, p.2 < 2 ^ 64) (hW : ∀ p ∈ W, p.2 < 2 ^ 64) (h : Fh x s V = Fh y t W) : x = y /\ s = t /\ V = W := by
 unfold Fh at h
 simp only [List.cons.injEq] at h
 obtain ⟨h1, h2, h3⟩ := h
 obtain ⟨h4, h5⟩ := MF h3 (by omega)
 exact ⟨h1, Ib hs ht h4, Kd hV hW h5⟩
def RT (X : List (List Ar)) (cl : List Int) (c i : Nat) : Prop := ∃ u, u < X.length /\ Rc (Vo true X) c u /\ cl.getD u 0 = (i : Int)
def RV (X : List (List Ar)) (cl : List Int) (c : Nat) (e : Int) (i : Nat) : Prop := e ≠ 0 /\ ∃ u, u < X.length /\ Rc (Vo true X) c u /\ ∃ a ∈ X.getD u [], a.1 = e /\ RT X cl a.2.toNat i
theorem QZ {n : Nat} {B : List Bool} {x : Int} : x ∈ rL n B ↔ ∃ i, i < n /\ DI B i = true /\ x = (i : Int) := by
 unfold rL
 simp only [List.mem_map, List.mem_filter, List.mem_range]
 constructor
 ·rintro ⟨i, ⟨h1, h2⟩, rfl⟩; exact ⟨i, h1, h2, rfl⟩
 rintro ⟨i, h1, h2, rfl⟩; exact ⟨i, ⟨h1, h2⟩, rfl⟩
theorem MG {R : List (List Ar)} {s : Nat} {e x : Int} : x ∈ W6 R s e ↔ ∃ u, u < R.length /\ WA R s e u /\ x = (u : Int) := by
 obtain ⟨B, _, h2, h3⟩ := So R s e
 rw [h2, QZ]
 constructor
 ·rintro ⟨i, h4, h5, h6⟩; exact ⟨i, h4, (h3 i h4).1 h5, h6⟩
 rintro ⟨i, h4, h5, h6⟩; exact ⟨i, h4, (h3 i h4).2 h5, h6⟩
theorem D8 {X : List (List Ar)} (hv : AR X = true) {u : Nat} (hu : u < X.length) {a : Ar} (ha : a ∈ X.getD u []) : 0 <= a.1 /\ a.1 <= 1025 /\ 0 <= a.2 /\ a.2.toNat < X.length := by
 have hlo : Bd X = true := gEg (gE4 hv).1
 rw [gE2, gE1 hu, Option.getD_some] at ha
 have := (gE4 hlo).2.2.2 _ (gE6 hu) a ha
 exact ⟨this.1, by omega, this.2.2.1, by omega⟩
theorem B5 {X : List (List Ar)} (hv : AR X = true) {s : Nat} (hs : s < X.length) {a : Ar} : a ∈ (B1 X).getD s [] ↔ ∃ u, u < X.length /\ WA X s a.1 u /\ a.2 = (u : Int) := by
 have hlo : Bd X = true := gEg (gE4 hv).1
 have hE := Bv true hlo
 have hg : (B1 X).getD s [] = W9 X (VG X X.length) s := by simp [B1, Wa, gE2, hs]
 have hev := JX (R := X) (fun r hr a ha => by have := (gE4 hlo).2.2.2 r hr a ha; omega) X.length (Nat.le_refl _)
 rw [List.take_length] at hev
 rw [hg]
 unfold W9 W8
 rw [List.take_length, List.mem_flatMap]
 constructor
 ·rintro ⟨e, he, h⟩
  obtain ⟨x, hx, rfl⟩ := List.mem_map.1 h
  exact MG.1 hx
 rintro ⟨u, hu, h1, h2⟩
 have hmem : a.1 ∈ VG X X.length := by
  rcases h1 with ⟨h, _⟩ | ⟨_, t, ht, b, hb, h4, _⟩
  ·rw [h]; exact hev.2.2.1
  have htl := ht.lt hs hE
  rw [gE2, gE1 htl, Option.getD_some] at hb
  rw [<- h4]
  exact hev.2.2.2 _ (gE6 htl) b hb
 exact ⟨a.1, hmem, List.mem_map.2 ⟨a.2, MG.2 ⟨u, hu, h1, h2⟩, rfl⟩⟩
theorem Dl {X : List (List Ar)} (hv : AR X = true) {cl : List Int} {s : Nat} (hs : s < X.length) (i : Nat) : ((0 : Int), (i : Int)) ∈ Vg (B1 X) cl s ↔ RT X cl s i := by
 rw [Dj]
 constructor
 rotate_left
 ·rintro ⟨u, hu, h1, h2⟩
  exact ⟨(0, (u : Int)), (B5 hv hs).2 ⟨u, hu, .inl ⟨rfl, h1⟩, rfl⟩, by show (_, _) = (_, cl.getD ((u : Int)).toNat 0); rw [Int.toNat_natCast, h2]⟩
 rintro ⟨a, ha, e⟩
 obtain ⟨u, hu, h1, h2⟩ := (B5 hv hs).1 ha
 simp only [Prod.mk.injEq] at e
 obtain ⟨e1, e2⟩ := e
 rcases h1 with ⟨_, h1⟩ | ⟨h1, _⟩
 rotate_left
 ·exact absurd e1.symm h1
 refine ⟨u, hu, h1, ?_⟩
 rw [e2, h2]; simp
theorem CF {X : List (List Ar)} (hv : AR X = true) {cl : List Int} {s : Nat} (hs : s < X.length) {e : Int} (he : e ≠ 0) (i : Nat) : (e, (i : Int)) ∈ Vg (B1 X) cl s ↔ RV X cl s e i := by
 have hlo : Bd X = true := gEg (gE4 hv).1
 have hE := Bv true hlo
 rw [Dj]
 constructor
 rotate_left
 ·rintro ⟨_, t, htl, ht, b, hb, h3, u, hu, h4, h5⟩
  exact ⟨(e, (u : Int)), (B5 hv hs).2 ⟨u, hu, .inr ⟨he, t, ht, b, hb, h3, h4⟩, rfl⟩, by show (_, _) = (_, cl.getD ((u : Int)).toNat 0); rw [Int.toNat_natCast, h5]⟩
 rintro ⟨a, ha, e0⟩
 obtain ⟨u, hu, h1, h2⟩ := (B5 hv hs).1 ha
 simp only [Prod.mk.injEq] at e0
 obtain ⟨e1, e2⟩ := e0
 rcases h1 with ⟨h1, _⟩ | ⟨h1, t, ht, b, hb, h3, h4⟩
 ·exact absurd (e1.trans h1) he
 exact ⟨he, t, ht.lt hs hE, ht, b, hb, h3.trans e1.symm, u, hu, h4, by rw [e2, h2]; simp⟩
theorem Id {X : List (List Ar)} (hv : AR X = true) {cl : List Int} (hc : Nrm X.length cl) {s : Nat} (hs : s < X.length) {x : Ar} (hx : x ∈ Vg (B1 X) cl s) : ∃ i : Nat, i < X.length /\ x.2 = (i : Int) := by
 obtain ⟨a, ha, rfl⟩ := Dj.1 hx
 obtain ⟨u, hu, _, h2⟩ := (B5 hv hs).1 ha
 have hcl := hc.len
 have hm : cl.getD u 0 ∈ cl := by rw [gE2, gE1 (by omega)]; exact gE6 _
 have := hc.rng _ hm
 simp only [h2, Int.toNat_natCast]
 exact ⟨(cl.getD u 0).toNat, by omega, by omega⟩
structure KeyOf (X : List (List Ar)) (cl : List Int) (s : Nat) (L : List Int) : Prop where
 ex : ∃ (t : Nat) (V : List (Int × Nat)), L = Fh (cl.getD s 0) t V /\ WS t (RT X cl s) /\ Vb (V.map (·.1)) /\ (∀ p ∈ V, (0 <= p.1 /\ p.1 <= 1025) /\ WS p.2 (RV X cl s p.1) /\ ∃ i, RV X cl s p.1 i) /\ ∀ e i, RV X cl s e i -> e ∈ V.map (·.1)
theorem Tn {X : List (List Ar)} (_hv : AR X = true) {cl : List Int} (hc : Nrm X.length cl) {s : Nat} {e : Int} {i : Nat} (h : RV X cl s e i) : i < X.length := by
 obtain ⟨_, _, _, _, _, _, _, u, hu, _, h2⟩ := h
 have hcl := hc.len
 have hm : cl.getD u 0 ∈ cl := by rw [gE2, gE1 (by omega)]; exact gE6 _
 have := hc.rng _ hm
 omega
theorem KeyOf.iff {X : List (List Ar)} (hv : AR X = true) (hn : X.length <= 64) {cl : List Int} (hc : Nrm X.length cl) {s t : Nat} (hs : s < X.length) (ht : t < X.length) {L M : List Int} (h1 : KeyOf X cl s L) (h2 : KeyOf X cl t M) : L = M ↔ Vh (B1 X) cl s = Vh (B1 X) cl t := by
 obtain ⟨τ, V, rfl, a1, a2, a3, a4⟩ := h1.ex
 obtain ⟨σ, W, rfl, b1, b2, b3, b4⟩ := h2.ex
 unfold Vh
 constructor
 rotate_left
 ·intro h
  simp only [Prod.mk.injEq] at h
  obtain ⟨c1, c2⟩ := h
  have et : ∀ i, RT X cl s i ↔ RT X cl t i := fun i => by rw [<- Dl hv hs, <- Dl hv ht, c2]
  have ev : ∀ e i, RV X cl s e i ↔ RV X cl t e i := fun e i => by
   by_cases he : e = 0
   rotate_left
   ·rw [<- CF hv hs he, <- CF hv ht he, c2]
   constructor
   ·rintro ⟨h, _⟩; exact absurd he h
   rintro ⟨h, _⟩; exact absurd he h
  have e1 : τ = σ := a1.uniq b1 fun i _ => et i
  have e2 : V.map (·.1) = W.map (·.1) := by
   refine IJ a2 b2 fun e => ?_
   constructor
   ·intro he
    obtain ⟨p, hp, rfl⟩ := List.mem_map.1 he
    obtain ⟨i, hi⟩ := (a3 p hp).2.2
    exact b4 _ i ((ev _ i).1 hi)
   intro he
   obtain ⟨p, hp, rfl⟩ := List.mem_map.1 he
   obtain ⟨i, hi⟩ := (b3 p hp).2.2
   exact a4 _ i ((ev _ i).2 hi)
  have e3 : V = W := by
   have hl : V.length = W.length := by have := congrArg List.length e2; simpa using this
   refine List.ext_getElem hl fun j h1 h2 => ?_
   have hj : V[j].1 = W[j].1 := by
    have h3 : (V.map (·.1))[j]? = (W.map (·.1))[j]? := by rw [e2]
    simpa [h1, h2] using h3
   refine Prod.ext hj ((a3 _ (gE6 h1)).2.1.uniq (b3 _ (gE6 h2)).2.1 fun i _ => ?_)
   rw [hj]; exact ev _ i
  rw [c1, e1, e3]
 intro h
 obtain ⟨c1, c2, c3⟩ := OK a1.1 b1.1 (fun p hp => (a3 p hp).2.1.1) (fun p hp => (b3 p hp).2.1.1) h
 subst c2; subst c3
 refine Prod.ext c1 ?_
 refine BQ (Ay _) (Ay _) fun x => ?_
 show x ∈ Vg (B1 X) cl s ↔ x ∈ Vg (B1 X) cl t
 have key : ∀ u, u < X.length -> u = s \/ u = t -> (x ∈ Vg (B1 X) cl u ↔ ∃ i : Nat, i < 64 /\ x.2 = (i : Int) /\ ((x.1 = 0 /\ τ.testBit i = true) \/ (x.1 ≠ 0 /\ ∃ w, (x.1, w) ∈ V /\ w.testBit i = true))) := by
  intro u hu hst
  have wt : WS τ (RT X cl u) := by rcases hst with rfl | rfl <;> assumption
  have wv : ∀ p ∈ V, WS p.2 (RV X cl u p.1) := fun p hp => by
   rcases hst with rfl | rfl
   ·exact (a3 p hp).2.1
   exact (b3 p hp).2.1
  have wc : ∀ e i, RV X cl u e i -> e ∈ V.map (·.1) := by rcases hst with rfl | rfl <;> assumption
  obtain ⟨e, y⟩ := x
  constructor
  rotate_left
  ·rintro ⟨i, hi, hy, h⟩
   simp only at hy h
   subst hy
   rcases h with ⟨rfl, h⟩ | ⟨he, w, hw, h⟩
   ·exact (Dl hv hu i).2 ((wt.2 i hi).1 h)
   exact (CF hv hu he i).2 (((wv _ hw).2 i hi).1 h)
  intro hx
  obtain ⟨i, hi, hy⟩ := Id hv hc hu hx
  simp only at hy ⊢
  subst hy
  refine ⟨i, by omega, rfl, ?_⟩
  by_cases he : e = 0
  ·subst he
   exact .inl ⟨rfl, (wt.2 i (by omega)).2 ((Dl hv hu i).1 hx)⟩
  have hr := (CF hv hu he i).1 hx
  obtain ⟨p, hp, e1⟩ := List.mem_map.1 (wc e i hr)
  refine .inr ⟨he, p.2, ?_, ((wv p hp).2 i (by omega)).2 (by rw [e1]; exact hr)⟩
  rw [<- e1]; exact hp
 rw [key s hs (.inl rfl), key t ht (.inr rfl)]
end Go.Proofs.YthnkailnoobdoaaDoor
