/- The runner, fourth part: steps, code, and that its answers hold. -/
import Derived.Test.YtglchakimolfdaaDoorAm30
namespace Go.Proofs.YtglchakimolfdaaDoor
set_option linter.unusedVariables false
set_option linter.unusedSimpArgs false
open Go.RowKit

def rLoad (T : Tb) (rs : RS) (t : TypeId) (x : Operand) : Option AV :=
 match asc T.ty t, rs.ev x with
 | some y, .a (.c (.p id off)) => match rs.hp.get id with
  | some (.r ⟨_, _, _, cells⟩) => bif y.agg then (bif Nat.ble (off + y.size) cells.length && Nat.blt 0 y.size then some (.a (.g ((cells.drop off).take y.size))) else none) else (cells[off]?).map fun c => .a (.c c)
  | _ => none
 | some y, .a (.c (.q cs off)) => bif y.agg then (bif Nat.ble (off + y.size) cs.length then some (.a (.g (((cs.drop off).take y.size).map C.ofTr))) else none) else (cs[off]?).map fun t => .a (.c (C.ofTr t))
 | _, _ => none
def rStore (T : Tb) (rs : RS) (t : TypeId) (x v : Operand) (k : RS → Ans) : Ans :=
 match asc T.ty t, rs.ev x, rs.ev v with
 | some y, .a (.c (.p id off)), .a vv => match rs.hp.get id with
  | some (.r ⟨e, z, sl, cells⟩) => bif vv.ones && (vv.cells.all C.one && (vv.cells.length.beq y.size && (Nat.blt 0 y.size && Nat.ble (off + y.size) cells.length))) then rs.upd id (.r ⟨e, z, sl, setC cells off vv.cells⟩) k else .bad [20]
  | _ => .bad [21]
 | _, _, _ => .bad [22]
def rBox (T : Tb) (ev : Operand → AV) (op : Op) : Option (Ob × (Nat → AV)) :=
 match op with
 | .box e x => match ev x with
  | .a x => bif x.ones && (Nat.blt 0 x.cells.length && x.cells.all C.pl) then some (.r ⟨e, x.cells.length, false, x.cells⟩, fun id => .a (.c (.p id 0))) else none
  | _ => none
 | .alloc e => match asc T.ty e with
  | some y => bif Nat.blt 0 y.zero.length then some (.r ⟨e, y.zero.length, false, y.zero.map .v⟩, fun id => .a (.c (.p id 0))) else none
  | none => none
 | .buildSlice t len parts => match asc T.ty t with
  | some y => match y.kind, asc T.ty y.elem with
   | 1, some z => match fillA (fun i => some (i * z.size, z.size)) (List.replicate len (z.zero.map C.v)).flatten (parts.toList.map fun p => (p.1, ev p.2)) with
    | some cs => bif Nat.blt 0 z.size && (Nat.ble len 1000 && (Nat.ble z.size 1000 && (z.zero.length.beq z.size && (cs.all C.pl && cs.length.beq (len * z.size))))) then some (.r ⟨y.elem, z.size, true, cs⟩, fun id => .a (.c (.s id len))) else none
    | none => none
   | _, _ => none
  | none => none
 | .makeMap _ none => some (.m [], fun id => .a (.c (.m id)))
 | _ => none
def rMake (T : Tb) (ev : Operand → AV) (t : TypeId) (l c : Operand) : Option (Ob × (Nat → AV)) :=
 match asc T.ty t with
 | some y => match y.kind, asc T.ty y.elem with
  | 1, some z => match ev l, ev c with
   | .a (.c (.v (.int _ n))), .a (.c (.v (.int _ m))) => bif Nat.blt 0 z.size && (z.zero.length.beq z.size && (decide (0 ≤ n) && (decide (n ≤ m) && (decide (m * z.bytes ≤ 140737488355328) && decide (m ≤ 140737488355328))))) then
     some (.r ⟨y.elem, z.size, sameT l c, rep n.toNat (z.zero.map C.v)⟩, fun id => .a (.c (.s id n.toNat))) else none
   | _, _ => none
  | _, _ => none
 | none => none
def rSrc (k : Nat) (rs : RS) : AV → Option (List C × Nat)
 | .a (.c (.v (.slice none 0 0))) => some ([], 0)
 | .a (.c (.s id m)) => match rs.hp.get id with
  | some (.r ⟨_, z, _, cells⟩) => bif z.beq k && (Nat.ble (m * k) cells.length && (cells.take (m * k)).all C.one) then some (cells.take (m * k), m) else none
  | _ => none
 | .a (.c (.t k' cs)) => bif k'.beq k then some (cs.map C.ofTr, cs.length / k) else none
 | _ => none
def rAppend (T : Tb) (rs : RS) (dst : Option Nat) (c : Call) (k : RS → Ans) : Ans :=
 match c.args, c.argTypes with
 | ⟨[s, x]⟩, ⟨[t, t']⟩ => bif Nat.beq t t' then (match asc T.ty t with
  | some y => match y.kind, asc T.ty y.elem with
   | 1, some z => match rs.ev x, rs.ev s with
    | .a (.c (.v (.slice none 0 0))), .a (.c (.v (.slice none 0 0))) => rs.put dst (.a (.c (.v (.slice none 0 0)))) k
    | .a (.c (.v (.slice none 0 0))), .a (.c (.s id n)) => rs.put dst (.a (.c (.s id n))) k
    | .a (.c (.s _ 0)), .a (.c (.v (.slice none 0 0))) => rs.put dst (.a (.c (.v (.slice none 0 0)))) k
    | .a (.c (.s _ 0)), .a (.c (.s id n)) => rs.put dst (.a (.c (.s id n))) k
    | .a (.c (.t (_ + 1) [])), .a (.c (.v (.slice none 0 0))) => rs.put dst (.a (.c (.v (.slice none 0 0)))) k
    | .a (.c (.t (_ + 1) [])), .a (.c (.s id n)) => rs.put dst (.a (.c (.s id n))) k
    | vx, .a (.c (.v (.slice none 0 0))) => (match rSrc z.size rs vx with
     | some (news, m) => bif Nat.blt 0 z.size && (z.zero.length.beq z.size && (Nat.ble (m * z.bytes) 140737488355328 && Nat.ble m 140737488355328)) then
       fN rs.hn fun hn => rs.push (.r ⟨y.elem, z.size, true, news⟩) fun rs => rs.put dst (.a (.c (.s hn m))) k else .bad [30]
     | none => .bad [31])
    | vx, .a (.c (.s id n)) => (match rSrc z.size rs vx, rs.hp.get id with
     | some (news, m), some (.r ⟨e, q, sl, cells⟩) => bif Nat.blt 0 z.size && (z.zero.length.beq z.size && (Nat.ble ((n + m) * z.bytes) 140737488355328 && (Nat.ble (n + m) 140737488355328 &&
       (e.beq y.elem && (q.beq z.size && (Nat.ble (n * z.size) cells.length && Nat.blt 0 (n + m))))))) then
       fN rs.hn fun hn => rs.upd id .d fun rs => rs.push (.r ⟨e, q, sl, cells.take (n * z.size) ++ news⟩) fun rs => rs.put dst (.a (.c (.s hn (n + m)))) k else .bad [32]
     | _, _ => .bad [33])
    | _, _ => .bad [34]
   | _, _ => .bad [35]
  | none => .bad [36]) else .bad [37]
 | _, _ => .bad [38]
def rNil (T : Tb) (rs : RS) (dst : Option Nat) (op : BinOp) (t : TypeId) (x : Operand) (k : RS → Ans) : Ans :=
 match asc T.ty t with
 | some y => match y.kind, op with
  | 1, .eql => (match rs.ev x with
   | .a (.c (.v (.slice none 0 0))) => rs.put dst (.b true) k
   | .a (.c (.w _ _ _ _)) => rs.put dst (.b false) k
   | .a (.c (.s _ (_ + 1))) => rs.put dst (.b false) k
   | .a (.c (.s _ 0)) => (rs.put dst (.b true) k).and fun _ => rs.put dst (.b false) k
   | .a (.c (.t _ [])) => (rs.put dst (.b true) k).and fun _ => rs.put dst (.b false) k
   | .a (.c (.t _ (_ :: _))) => rs.put dst (.b false) k
   | _ => .bad [40])
  | 1, .neq => (match rs.ev x with
   | .a (.c (.v (.slice none 0 0))) => rs.put dst (.b false) k
   | .a (.c (.w _ _ _ _)) => rs.put dst (.b true) k
   | .a (.c (.s _ (_ + 1))) => rs.put dst (.b true) k
   | .a (.c (.s _ 0)) => (rs.put dst (.b true) k).and fun _ => rs.put dst (.b false) k
   | .a (.c (.t _ [])) => (rs.put dst (.b true) k).and fun _ => rs.put dst (.b false) k
   | .a (.c (.t _ (_ :: _))) => rs.put dst (.b true) k
   | _ => .bad [41])
  | _, _ => .bad [42]
 | none => .bad [43]
def intX (op : BinOp) (k k' : IntKind) (a b : Int) : Option Value :=
 match op with
 | .shl => bif decide (0 ≤ b) then some (.int k (k.wrap (a * 2 ^ min b.toNat k.bits))) else none
 | .shr => bif decide (0 ≤ b) then some (.int k (a.fdiv (2 ^ min b.toNat k.bits))) else none
 | .add => bif decide (k = k') then some (.int k (k.wrap (a + b))) else none
 | .sub => bif decide (k = k') then some (.int k (k.wrap (a - b))) else none
 | .mul => bif decide (k = k') then some (.int k (k.wrap (a * b))) else none
 | .and => bif decide (k = k') then some (.int k (k.wrap (BitVec.ofInt k.bits a &&& BitVec.ofInt k.bits b).toNat)) else none
 | .or => bif decide (k = k') then some (.int k (k.wrap (BitVec.ofInt k.bits a ||| BitVec.ofInt k.bits b).toNat)) else none
 | .xor => bif decide (k = k') then some (.int k (k.wrap (BitVec.ofInt k.bits a ^^^ BitVec.ofInt k.bits b).toNat)) else none
 | _ => none
def rE (T : Tb) (op : Op) (ev : Operand → AV) : Option AV :=
 match op with
 | .binOp op t x y _ => match ev x, ev y with
  | .a (.c (.v (.int k a))), .a (.c (.v (.int k' b))) => (intX op k k' a b).map fun v => .a (.c (.v v))
  | .a (.c (.v (.bool a))), .a (.c (.v (.bool b))) => (match op, asc T.bl t with
   | .eql, some _ => some (.b (a == b))
   | .neq, some _ => some (.b (!(a == b)))
   | _, _ => none)
  | _, _ => none
 | .slice t x (some l) none none => match rEl T t, ev x, ev l with
  | some (z + 1), .a (.c (.s _ n)), .a (.c (.v (.int _ i))) => bif decide (i = n) then some (.a (.c (.t (z + 1) []))) else none
  | some (z + 1), .a (.c (.v (.slice none 0 0))), .a (.c (.v (.int _ i))) => bif decide (i = 0) then some (.a (.c (.t (z + 1) []))) else none
  | _, _, _ => none
 | .slice t x none (some h) none => match rEl T t, ev x, ev h with
  | some _, .a (.c (.v (.slice none 0 0))), .a (.c (.v (.int _ i))) => bif decide (i = 0) then some (.a (.c (.v (.slice none 0 0)))) else none
  | _, _, _ => none
 | .index t x i => match asc T.ty t, ev x, ev i with
  | some y, .a (.c (.v (.string s))), .a (.c (.v (.int _ i))) => bif y.kind.beq 4 && decide (0 ≤ i) then (s[i.toNat]?).map fun b => .a (.c (.v (.int .u8 b.toNat))) else none
  | _, _, _ => none
 | _ => none
def rDE (T : Tb) (op : Op) (ev : Operand → AV) : Option AV :=
 match rD T op ev with
 | some v => some v
 | none => rE T op ev
def cVals : List C → Option (List Value)
 | [] => some []
 | .v v :: r => match cVals r with
  | some l => some (v :: l)
  | none => none
 | _ => none
def keyOf : AV → Option Value
 | .a (.c (.v v)) => some v
 | .a (.g xs) => match cVals xs with
  | some vs => some (.agg ⟨vs⟩)
  | none => none
 | _ => none
def kvFind (s : Ks) (key : Value) : List (Value × C) → Nat → Option (Option (Nat × C))
 | [], _ => some none
 | (k, c) :: r, i => match keyEq s key k with
  | some true => some (some (i, c))
  | some false => kvFind s key r (i + 1)
  | none => none
def keyFit (s : Ks) (key : Value) : Bool := match keyEq s key key with
 | some _ => true
 | none => false
def rLookup (T : Tb) (rs : RS) (t : TypeId) (x ix : Operand) (ok : Bool) : Option AV :=
 match asc T.mp t with
 | some (s, zv) => match rs.ev x, keyOf (rs.ev ix) with
  | .a (.c (.m id)), some key => match rs.hp.get id, keyFit s key with
   | some (.m kv), true => match kvFind s key kv 0 with
    | some (some (_, c)) => some (match ok with | true => .tup [.c c, .c (.v (.bool true))] | false => .a (.c c))
    | some none => some (match ok with | true => .tup [.c (.v zv), .c (.v (.bool false))] | false => .a (.c (.v zv)))
    | none => none
   | _, _ => none
  | _, _ => none
 | none => none
def isIt : List (Value × C) → Bool
 | [(_, .it _ _ _ _)] => true
 | _ => false
def rLenM (T : Tb) (rs : RS) (c : Call) : Option AV :=
 match c.callee, c.args, c.argTypes with
 | .builtin .len, ⟨[x]⟩, ⟨[t]⟩ => match asc T.mp t, rs.ev x with
  | some _, .a (.c (.m id)) => match rs.hp.get id with
   | some (.m kv) => match isIt kv with
    | true => none
    | false => some (.i kv.length)
   | _ => none
  | _, _ => none
 | _, _, _ => none
def rMapUpd (T : Tb) (rs : RS) (t : TypeId) (m kx v : Operand) (k : RS → Ans) : Ans :=
 match asc T.mp t, rs.ev m, keyOf (rs.ev kx), rs.ev v with
 | some (s, _), .a (.c (.m id)), some key, .a (.c c) => match rs.hp.get id, keyFit s key, c.one with
  | some (.m kv), true, true => match kvFind s key kv 0 with
   | some (some (i, _)) => rs.upd id (.m (kv.set i (key, c))) k
   | some none => rs.upd id (.m (kv ++ [(key, c)])) k
   | none => .bad [100]
  | _, _, _ => .bad [101]
 | _, _, _, _ => .bad [102]
def rWin (k : Nat) : AV → Option (Nat × Nat × Nat)
 | .a (.c (.s id n)) => some (id, 0, n)
 | .a (.c (.w id off n z)) => bif z.beq k then some (id, off, n) else none
 | _ => none
def rCopy (T : Tb) (rs : RS) (dst : Option Nat) (c : Call) (k : RS → Ans) : Ans :=
 match c.args, c.argTypes with
 | ⟨[d, s]⟩, ⟨[t, _]⟩ => match asc T.ty t with
  | some y => match y.kind, asc T.ty y.elem with
   | 1, some z => match rWin z.size (rs.ev d), rWin z.size (rs.ev s) with
    | some (i, o, n), some (j, p, m) => match rs.hp.get i, rs.hp.get j with
     | some (.r ⟨e, q, sl, cells⟩), some (.r ⟨_, q', _, src⟩) =>
      let w := min m n
      let cs := (src.drop (p * z.size)).take (w * z.size)
      bif Nat.blt 0 w && (Nat.blt 0 z.size && (q.beq z.size && (q'.beq z.size && (cs.all C.one && (cs.length.beq (w * z.size) && Nat.ble (o * z.size + w * z.size) cells.length))))) then
       rs.upd i (.r ⟨e, q, sl, setC cells (o * z.size) cs⟩) fun rs => rs.put dst (.i w) k else .bad [110]
     | _, _ => .bad [111]
    | _, _ => .bad [112]
   | _, _ => .bad [113]
  | none => .bad [114]
 | _, _ => .bad [115]
def rClear (T : Tb) (rs : RS) (dst : Option Nat) (c : Call) (k : RS → Ans) : Ans :=
 match c.args, c.argTypes with
 | ⟨[x]⟩, ⟨[t]⟩ => match asc T.ty t with
  | some y => match y.kind, asc T.ty y.elem, rs.ev x with
   | 1, some _, .a (.c (.t (_ + 1) [])) => rs.put dst .u k
   | 1, some z, .a (.c (.w id off n q)) => match rs.hp.get id, z.zero with
    | some (.r ⟨e, q', sl, cells⟩), [zv] => bif Nat.blt 0 n && (q.beq 1 && ((C.v zv).one && Nat.ble (off * q + n * q) cells.length)) then
      rs.upd id (.r ⟨e, q', sl, setC cells (off * q) (List.replicate n (.v zv))⟩) fun rs => rs.put dst .u k else .bad [120]
    | some (.r ⟨e, q', sl, cells⟩), [.int .i64 0, .int .i64 0] => bif Nat.blt 0 n && (q.beq 2 && Nat.ble (off * q + n * q) cells.length) then
      rs.upd id (.r ⟨e, q', sl, setC cells (off * q) (List.replicate (n * 2) (.v (.int .i64 0)))⟩) fun rs => rs.put dst .u k else .bad [121]
    | _, _ => .bad [122]
   | _, _, _ => .bad [123]
  | none => .bad [124]
 | _, _ => .bad [125]
def bytesOf : List C → Option (List UInt8)
 | [] => some []
 | .v (.int .u8 n) :: r => match bytesOf r with
  | some l => some (UInt8.ofNat n.toNat :: l)
  | none => none
 | _ => none
def rStr (T : Tb) (rs : RS) (s d : TypeId) (x : Operand) : Option AV :=
 match asc T.ty s, asc T.ty d, rs.ev x with
 | some y, some z, .a (.c (.s id n)) => match y.kind, z.kind, asc T.ik y.elem, rs.hp.get id with
  | 1, 4, some .u8, some (.r ⟨_, q, _, cells⟩) => bif q.beq 1 && Nat.ble n cells.length then (bytesOf (cells.take n)).map fun l => .a (.c (.v (.string ⟨⟨l⟩⟩))) else none
  | _, _, _, _ => none
 | _, _, _ => none
def rArgs : List AV → Nat → Bt AV → (Bt AV → Ans) → Ans
 | [], _, t, k => k t
 | x :: r, i, t, k => fAV x fun x => Bt.set 30 t i x fun t => rArgs r (i + 1) t k
def rResV (T : Tb) (rs : RS) : ResultVar → Option A0
 | .tmp t => match (rs.tm.get t).getD .u with
  | .a x => some x
  | _ => none
 | .cell a t => match rLoad T rs t (.tmp a) with
  | some (.a x) => some x
  | _ => none
def rResL (T : Tb) (rs : RS) : List ResultVar → Option (List A0)
 | [] => some []
 | v :: r => match rResV T rs v, rResL T rs r with
  | some x, some xs => some (x :: xs)
  | _, _ => none
def rRes (T : Tb) (rs : RS) (l : List ResultVar) : Option AV :=
 match rResL T rs l with
 | some [x] => some (.a x)
 | some xs => some (.tup xs)
 | none => none
abbrev RC := Nat → Code → RS → (Exit → RS → Ans) → Ans
def rOr (T : Tb) (f : Nat) (args : List AV) : Option AV :=
 match asc T.orc f with
 | some g => g args
 | none => none
def rEnter (T : Tb) (rc : RC) (rs : RS) (dst : Option Nat) (f : FuncId) (args : List AV) (k : RS → Ans) : Ans :=
 match asc T.fn f with
 | some fn => match fn.body with
  | some c => match rs with
   | ⟨tm, hp, hn, n, pin⟩ => bif (match dst with | none => true | some d => Nat.blt d n) && Nat.ble args.length fn.ntmps then rArgs args 0 .e fun tm' => rc f c ⟨tm', hp, hn, fn.ntmps, hn⟩ fun e rs' =>
     bif (match e with | .ret => true | .normal => true | _ => false) && rs'.pin.beq hn then (match rRes T rs' fn.results.toList with
      | some r => RS.put ⟨tm, rs'.hp, rs'.hn, n, pin⟩ dst r k
      | none => .bad [51, f]) else .bad [52, f]
    else .bad [53, f]
  | none => .bad [54, f]
 | none => .bad [55, f]
def memN (i : Nat) : List Nat → Bool
 | [] => false
 | j :: r => bif i.beq j then true else memN i r
def leftN (seen : List Nat) : Nat → List Nat → List Nat
 | 0, acc => acc
 | n + 1, acc => bif memN n seen then leftN seen n acc else leftN seen n (n :: acc)
def rRange (T : Tb) (rs : RS) (dst : Option Nat) (t : TypeId) (x : Operand) (k : RS → Ans) : Ans :=
 match asc T.mp t, rs.ev x with
 | some _, .a (.c (.m id)) => match rs.hp.get id with
  | some (.m kv) => bif isIt kv then .bad [90] else fN kv.length fun len => fN rs.hn fun hn => rs.push (.m (itKV (some id) len [] len)) fun rs => rs.put dst (.a (.c (.p hn 0))) k
  | _ => .bad [91]
 | _, _ => .bad [92]
def rNextL (rs : RS) (dst : Option Nat) (id mid since : Nat) (seen : List Nat) (kv : List (Value × C)) (len : Nat) (k : RS → Ans) : List Nat → Ans
 | [] => .ok
 | i :: r => match kv[i]? with
  | some p => (match rs.upd id (.m (itKV (some mid) since (seen ++ [i]) len)) fun rs => rs.put dst (.tup [.c (.v (.bool true)), .c (.v p.1), .c p.2]) k with
   | .ok => rNextL rs dst id mid since seen kv len k r
   | a => a)
  | none => .bad [93]
def rNext (rs : RS) (dst : Option Nat) (x : Operand) (k : RS → Ans) : Ans :=
 match rs.ev x with
 | .a (.c (.p id 0)) => match rs.hp.get id with
  | some (.m [(.bool true, .it (some mid) since seen last)]) => match rs.hp.get mid with
   | some (.m kv) => bif isIt kv then .bad [94] else fN kv.length fun len => bif Nat.ble len since && Nat.ble since last then (match leftN seen len [] with
     | [] => rs.put dst (.tup [.c (.v (.bool false))]) k
     | l => rNextL rs dst id mid since seen kv len k l) else .bad [95]
   | _ => .bad [96]
  | _ => .bad [97]
 | _ => .bad [98]
def lastN : List Nat → Option (List Nat × Nat)
 | [] => none
 | [i] => some ([], i)
 | j :: r => match lastN r with
  | some (l, i) => some (j :: l, i)
  | none => none
def rEntry (rs : RS) (x : Operand) : Option AV :=
 match rs.ev x with
 | .a (.c (.p id 0)) => match rs.hp.get id with
  | some (.m [(.bool true, .it (some mid) _ seen last)]) => match rs.hp.get mid, lastN seen with
   | some (.m kv), some (_, i) => match isIt kv, kv[i]? with
    | false, some p => bif Nat.beq kv.length last then some (.tup [.c (.v p.1), .c p.2]) else none
    | _, _ => none
   | _, _ => none
  | _ => none
 | _ => none
def rStep (T : Tb) (rc : RC) (loc : List Nat) (o : Oper) (rs : RS) (k : RS → Ans) : Ans :=
 match o.op with
 | .load t x => match rLoad T rs t x with
  | some v => rs.put o.dst v k
  | none => .bad (10 :: loc)
 | .store t x v => rStore T rs t x v fun rs => rs.put o.dst .u k
 | .box e x => match rBox T rs.ev (.box e x) with
  | some (ob, f) => fN rs.hn fun hn => rs.push ob fun rs => rs.put o.dst (f hn) k
  | none => .bad (11 :: loc)
 | .alloc e => match rBox T rs.ev (.alloc e) with
  | some (ob, f) => fN rs.hn fun hn => rs.push ob fun rs => rs.put o.dst (f hn) k
  | none => .bad (12 :: loc)
 | .buildSlice t len parts => match rBox T rs.ev (.buildSlice t len parts) with
  | some (ob, f) => fN rs.hn fun hn => rs.push ob fun rs => rs.put o.dst (f hn) k
  | none => .bad (13 :: loc)
 | .makeMap t r => match rBox T rs.ev (.makeMap t r) with
  | some (ob, f) => fN rs.hn fun hn => rs.push ob fun rs => rs.put o.dst (f hn) k
  | none => .bad (14 :: loc)
 | .makeSlice t l c => match rMake T rs.ev t l c with
  | some (ob, f) => fN rs.hn fun hn => rs.push ob fun rs => rs.put o.dst (f hn) k
  | none => .bad (15 :: loc)
 | .binOp op t x (.const (.slice none 0 0)) _ => rNil T rs o.dst op t x k
 | .call c => match c with
  | ⟨.builtin .append, _, _⟩ => rAppend T rs o.dst c k
  | ⟨.value fop, args, _⟩ => match rs.ev fop with
   | .a (.c (.f f ids)) => match rOr T f (args.toList.map rs.ev ++ clos ids) with
    | some r => rs.put o.dst r k
    | none => rEnter T rc rs o.dst f (args.toList.map rs.ev ++ clos ids) k
   | _ => .bad (16 :: loc)
  | ⟨.builtin .copy, _, _⟩ => rCopy T rs o.dst c k
  | ⟨.builtin .clear, _, _⟩ => rClear T rs o.dst c k
  | _ => match rD T o.op rs.ev with
   | some v => rs.put o.dst v k
   | none => match rLenM T rs c with
    | some v => rs.put o.dst v k
    | none => .bad (17 :: loc)
 | .lookup t x ix ok => match rLookup T rs t x ix ok with
  | some v => rs.put o.dst v k
  | none => .bad (19 :: loc)
 | .mapUpdate t m kx v => rMapUpd T rs t m kx v fun rs => rs.put o.dst .u k
 | .insert t m kx v => rMapUpd T rs t m kx v fun rs => rs.put o.dst .u k
 | .range t x => rRange T rs o.dst t x k
 | .next x false => rNext rs o.dst x k
 | .entry x => match rEntry rs x with
  | some v => rs.put o.dst v k
  | none => .bad (99 :: loc)
 | op => match rD T op rs.ev with
  | some v => rs.put o.dst v k
  | none => match rE T op rs.ev with
   | some v => rs.put o.dst v k
   | none => match op with
    | .convert s d x => match rStr T rs s d x with
     | some v => rs.put o.dst v k
     | none => .bad (18 :: loc)
    | _ => .bad (18 :: loc)
def rLst (T : Tb) (rc : RC) (loc : List Nat) (ops : Array Oper) : List Oper → RS → (RS → Ans) → Ans
 | [], rs, k => k rs
 | o :: r, rs, k => match o.guard with
  | none => rStep T rc (o.dst.getD 999 :: loc) o rs fun rs => rLst T rc loc ops r rs k
  | some (j, want) => match (ops[j]?).bind (·.dst) with
   | some d => match (rs.tm.get d).getD .u with
    | .a (.c (.v (.bool t))) => bif t == want then (bif dok o rs.n then rStep T rc (o.dst.getD 999 :: loc) o rs fun rs => rLst T rc loc ops r rs k else .bad (62 :: loc)) else rs.put o.dst (.a (.c (.v undef))) fun rs => rLst T rc loc ops r rs k
    | .a (.c (.v (.tuple _))) => rs.put o.dst (.a (.c (.v undef))) fun rs => rLst T rc loc ops r rs k
    | _ => .bad (60 :: loc)
   | none => .bad (61 :: loc)
def rKind (o : Op) : Nat :=
 match o with
 | .load _ _ => 1
 | .box _ _ => 3
 | .alloc _ => 3
 | .buildSlice _ _ _ => 3
 | .makeSlice _ _ _ => 3
 | .makeMap _ _ => 3
 | .store _ _ _ => 2
 | .lookup _ _ _ _ => 2
 | .mapUpdate _ _ _ _ => 2
 | .range _ _ => 2
 | .next _ _ => 2
 | .entry _ => 2
 | .call c => match c.callee with
  | .builtin .len => 0
  | .builtin .min => 0
  | .builtin .max => 0
  | _ => 2
 | _ => 0
def rWant (ops : Array Oper) (rs : RS) (o : Oper) : Option Bool :=
 match o.guard with
 | none => some true
 | some (j, want) => match (ops[j]?).bind (·.dst) with
  | some d => match (rs.tm.get d).getD .u with
   | .a (.c (.v (.bool t))) => some (t == want)
   | .a (.c (.v (.tuple _))) => some false
   | _ => none
  | none => none
/-! regions in all orders -/
inductive Od where
 | nil
 | pu (i : Nat) (r : Od)
 | fk (i : Nat) (r rest : Od)
 | al (i j p : Nat) (r : Od)
 | no
def Od.ids : Od → List Nat
 | .fk i _ rest => i :: rest.ids
 | _ => []
def chkO (ops : Array Oper) : Od → Bool → Nat → Array Bool → Bool
 | .nil, c, n, listed => !c && (n.beq 0 && (Region.ready .any ops listed).isEmpty)
 | .pu i r, c, n, listed => match n with
  | m + 1 => !c && (Region.free .any ops listed i && ((Region.ready .any ops listed).contains i && chkO ops r false m (listed.setIfInBounds i true)))
  | 0 => false
 | .fk i r rest, c, n, listed => match n with
  | m + 1 => (c || Region.ready .any ops listed == i :: rest.ids) && (chkO ops r false m (listed.setIfInBounds i true) && chkO ops rest true (m + 1) listed)
  | 0 => false
 | .al i j p r, c, n, listed => match n with
  | m + 3 => !c && (Region.ready .any ops listed == [i, j] &&
    (Region.free .any ops (listed.setIfInBounds i true) p && ((Region.ready .any ops (listed.setIfInBounds i true)).contains p && (Region.ready .any ops ((listed.setIfInBounds i true).setIfInBounds p true) == [j] &&
     (chkO ops r false m (((listed.setIfInBounds i true).setIfInBounds p true).setIfInBounds j true) && (Region.ready .any ops (listed.setIfInBounds j true) == [i] &&
      (Region.free .any ops ((listed.setIfInBounds j true).setIfInBounds i true) p && ((Region.ready .any ops ((listed.setIfInBounds j true).setIfInBounds i true)).contains p &&
       chkO ops r false m (((listed.setIfInBounds j true).setIfInBounds i true).setIfInBounds p true)))))))))
  | _ => false
 | .no, c, _, _ => c
def isNew (o : Op) : Bool := match o with
 | .makeSlice _ _ _ => true
 | _ => false
def notDst (d : Option Nat) : Operand → Bool
 | .tmp t => match d with
  | some e => !(Nat.beq e t)
  | none => true
 | _ => true
def opAt (ops : Array Oper) (i : Nat) : Op := match ops[i]? with
 | some o => o.op
 | none => .move (.const undef)
def planT (ops : Array Oper) : Nat → Array Bool → Od
 | 0, _ => .nil
 | n + 1, listed =>
  let rd := Region.ready .any ops listed
  match rd.find? fun i => (rKind (opAt ops i)).beq 0 && Region.free .any ops listed i with
  | some i => .pu i (planT ops n (listed.setIfInBounds i true))
  | none => match rd with
   | [i, j] => bif isNew (opAt ops i) && isNew (opAt ops j) then
     (match (Region.ready .any ops (listed.setIfInBounds i true)).find? (fun q => q != j) with
      | some p => .al i j p (planT ops (n - 2) (((listed.setIfInBounds i true).setIfInBounds p true).setIfInBounds j true))
      | none => .fk i (planT ops n (listed.setIfInBounds i true)) (.fk j (planT ops n (listed.setIfInBounds j true)) .no)) else
     .fk i (planT ops n (listed.setIfInBounds i true)) (.fk j (planT ops n (listed.setIfInBounds j true)) .no)
   | rd => rd.foldr (fun i rest => .fk i (planT ops n (listed.setIfInBounds i true)) rest) .no
def eqIL : List Value → List Value → Bool
 | [], [] => true
 | .int k a :: r, .int l b :: s => decide (k = l) && (a == b && eqIL r s)
 | _, _ => false
def eqV : Value → Value → Bool
 | .int k a, .int k' b => decide (k = k') && a == b
 | .bool a, .bool b => a == b
 | .slice none a b, .slice none c d => a.beq c && b.beq d
 | .string ⟨⟨a⟩⟩, .string ⟨⟨b⟩⟩ => a == b
 | .tuple ⟨[]⟩, .tuple ⟨[]⟩ => true
 | .agg ⟨l⟩, .agg ⟨m⟩ => eqIL l m
 | .pointer none, .pointer none => true
 | .map none, .map none => true
 | .nilFunc, .nilFunc => true
 | _, _ => false
def eqL {α : Type} (f : α → α → Bool) : List α → List α → Bool
 | [], [] => true
 | a :: r, b :: s => f a b && eqL f r s
 | _, _ => false
def eqC : C → C → Bool
 | .u, .u => true
 | .v a, .v b => eqV a b
 | .s a b, .s c d => a.beq c && b.beq d
 | .p a b, .p c d => a.beq c && b.beq d
 | .m a, .m b => a.beq b
 | .w a b c d, .w a' b' c' d' => a.beq a' && (b.beq b' && (c.beq c' && d.beq d'))
 | .t a [], .t b [] => a.beq b
 | .f a l, .f b m => Nat.beq a b && eqL Nat.beq l m
 | .it (some a) s l c, .it (some b) s' l' c' => a.beq b && (s.beq s' && (c.beq c' && eqL Nat.beq l l'))
 | _, _ => false
def eqA : A0 → A0 → Bool
 | .c a, .c b => eqC a b
 | .g l, .g m => eqL eqC l m
 | _, _ => false
def eqAV : AV → AV → Bool
 | .a x, .a y => eqA x y
 | .tup l, .tup m => eqL eqA l m
 | _, _ => false
def eqO : Ob → Ob → Bool
 | .x, .x => true
 | .d, .d => true
 | .r ⟨e, z, s, l⟩, .r ⟨e', z', s', l'⟩ => Nat.beq e e' && (z.beq z' && (s == s' && eqL eqC l l'))
 | .m l, .m l' => eqL (fun p q => eqV p.1 q.1 && eqC p.2 q.2) l l'
 | _, _ => false
def eqBt {α : Type} (f : α → α → Bool) : Bt α → Bt α → Bool
 | .e, .e => true
 | .n none l r, .n none l' r' => eqBt f l l' && eqBt f r r'
 | .n (some x) l r, .n (some x') l' r' => f x x' && (eqBt f l l' && eqBt f r r')
 | _, _ => false
def eqRS : RS → RS → Bool
 | ⟨a, b, c, d, e⟩, ⟨a', b', c', d', e'⟩ => eqBt eqAV a a' && (eqBt eqO b b' && (c.beq c' && (d.beq d' && e.beq e')))
def rotL (n a b : Nat) : List Nat := ((List.range n).filter fun i => !(i.beq b)).take a ++ b :: ((List.range n).filter fun i => !(i.beq b)).drop a
def Bt.map {α β : Type} (f : α → β) : Bt α → Bt β
 | .e => .e
 | .n none l r => .n none (l.map f) (r.map f)
 | .n (some x) l r => .n (some (f x)) (l.map f) (r.map f)
def bFrom : List Ob → Nat → Bt Ob → (Bt Ob → Ans) → Ans
 | [], _, t, k => k t
 | ob :: r, i, t, k => fO ob fun ob => bif okOb ob then Bt.set 30 t i ob fun t => bFrom r (i + 1) t k else .bad [6]
def pickRS (ρ : List Nat) (rs : RS) (k : RS → Ans) : Ans :=
 bif distinct ρ && fixes rs.pin ρ then bFrom (ρ.map fun id => ((rs.hp.get id).getD .d).ren ρ) 0 .e fun hp => k ⟨rs.tm.map (AV.ren ρ), hp, ρ.length, rs.n, rs.pin⟩ else .bad [7]
def idOf : AV → Option Nat
 | .a (.c (.m i)) => some i
 | .a (.c (.p i _)) => some i
 | .a (.c (.s i _)) => some i
 | _ => none
def rotOf (r rs : RS) : List Nat → Option (Nat × Nat)
 | [] => none
 | d :: l => match idOf ((r.tm.get d).getD .u), idOf ((rs.tm.get d).getD .u) with
  | some a, some b => bif a.beq b then rotOf r rs l else some (a, b)
  | _, _ => rotOf r rs l
def slotsOf (ops : Array Oper) : List Nat := ops.toList.filterMap fun o => match rKind o.op with
 | 3 => o.dst
 | _ => none
def whyV : Value → Nat
 | .int _ _ => 201
 | .bool _ => 202
 | .slice none _ _ => 203
 | .slice _ _ _ => 204
 | .string _ => 205
 | .tuple _ => 206
 | .agg _ => 207
 | .pointer _ => 208
 | .map _ => 210
 | .nilFunc => 211
 | _ => 299
def whyC : C → Nat
 | .u => 1
 | .v x => whyV x
 | .t _ _ => 3
 | .s _ _ => 4
 | .p _ _ => 5
 | .q _ _ => 6
 | .o _ _ => 7
 | .b _ _ _ => 8
 | .m _ => 9
 | .w _ _ _ _ => 10
 | .f _ _ => 11
 | .it _ _ _ _ => 12
def whyB : Ob → List Nat
 | .r ⟨e, z, _, l⟩ => 6000 :: e :: z :: l.map whyC
 | .m l => 6001 :: l.map fun p => whyC p.2
 | _ => [6002]
def whyO (a b : Bt Ob) : Nat → List Nat
 | 0 => []
 | n + 1 => match a.get n, b.get n with
  | some u, some v => bif eqO u v then whyO a b n else n :: whyB u ++ whyO a b n
  | none, none => whyO a b n
  | _, _ => (1000 + n) :: whyO a b n
def whyT (a b : Bt AV) : Nat → List Nat
 | 0 => []
 | n + 1 => match a.get n, b.get n with
  | some x, some y => bif eqAV x y then whyT a b n else n :: whyT a b n
  | none, none => whyT a b n
  | _, _ => (1000 + n) :: whyT a b n
def whyRS : RS → RS → List Nat
 | ⟨a, b, c, d, _⟩, ⟨a', b', c', _, _⟩ => 7000 :: whyT a a' d ++ 8000 :: whyO b b' c ++ [9000, c, c']
def eqTo (loc : List Nat) (al : List Nat) (r rs : RS) : Ans :=
 match eqRS rs r with
 | true => .ok
 | false => match rotOf r rs al with
  | some (a, b) => pickRS (rotL rs.hn a b) rs fun rs' => bif eqRS rs' r then .ok else .bad (84 :: loc)
  | none => .bad (85 :: loc ++ whyRS rs r)
def rOp (T : Tb) (rc : RC) (loc : List Nat) (ops : Array Oper) (i : Nat) (rs : RS) (k : RS → Ans) : Ans :=
 match ops[i]? with
 | some o => match rWant ops rs o with
  | some true => rStep T rc (i :: loc) o rs k
  | some false => rs.put o.dst (.a (.c (.v undef))) k
  | none => .bad (85 :: i :: loc)
 | none => .bad (86 :: i :: loc)
def rPu (T : Tb) (loc : List Nat) (ops : Array Oper) (i : Nat) (rs : RS) (k : RS → Ans) : Ans :=
 match ops[i]? with
 | some o => match rWant ops rs o with
  | some true => match rDE T o.op rs.ev with
   | some v => rs.put o.dst v k
   | none => .bad (87 :: i :: loc)
  | some false => rs.put o.dst (.a (.c (.v undef))) k
  | none => .bad (88 :: i :: loc)
 | none => .bad (89 :: i :: loc)
def rT (T : Tb) (rc : RC) (loc : List Nat) (ops : Array Oper) : Od → RS → (RS → Ans) → Ans
 | .nil, rs, k => k rs
 | .pu i r, rs, k => rPu T loc ops i rs fun rs => rT T rc loc ops r rs k
 | .fk i r rest, rs, k => match rest with
  | .no => rOp T rc loc ops i rs fun rs => rT T rc loc ops r rs k
  | rest => match rOp T rc loc ops i rs fun rs => rT T rc loc ops r rs .st with
   | .st f => (rOp T rc loc ops i rs fun rs => rT T rc loc ops r rs (eqTo loc (slotsOf ops) f)).and fun _ => (rT T rc loc ops rest rs (eqTo loc (slotsOf ops) f)).and fun _ => k f
   | .bad l => .bad l
   | .ok => .bad (83 :: loc)
 | .al i j p r, rs, k => match ops[i]?, ops[j]?, ops[p]? with
  | some ⟨some d, .makeSlice t l c, _, _, _, none⟩, some ⟨some d', .makeSlice t' l' c', _, _, _, none⟩, some ⟨some e, .assign (.tmp d2), _, _, _, none⟩ => match rMake T rs.ev t l c, rMake T rs.ev t' l' c' with
   | some (ob, f), some (ob', f') => bif Nat.beq d d2 && (!(Nat.beq d d') && (!(Nat.beq e d) && (!(Nat.beq e d') && (notDst (some d) l' && (notDst (some d) c' && (notDst (some d') l && (notDst (some d') c && (notDst (some e) l' && notDst (some e) c')))))))) then
     fN rs.hn fun hn => rs.push ob fun rs => rs.put (some d) (f hn) fun rs => rs.put (some e) (f hn) fun rs => fN rs.hn fun hn => rs.push ob' fun rs => rs.put (some d') (f' hn) fun rs => rT T rc loc ops r rs k else .bad (80 :: loc)
   | _, _ => .bad (81 :: loc)
  | _, _, _ => .bad (78 :: loc)
 | .no, _, _ => .ok
def markE (m : Array Bool) : List Edge → Array Bool
 | [] => m
 | e :: r => markE (match Region.binds .any e with
  | true => m.setIfInBounds e.on true
  | false => m) r
def closW (ops : Array Oper) : Nat → Array Bool → Array Bool
 | 0, m => m
 | k + 1, m => closW ops k (match m.getD k false, ops[k]? with
  | true, some o => markE m o.after.toList
  | _, _ => m)
def waits (ops : Array Oper) (j i : Nat) : Bool := (closW ops ops.size ((Array.replicate ops.size false).setIfInBounds j true)).getD i false
def chkG (ops : Array Oper) : List (Nat × Nat × Nat) → List Nat → Array Bool → Bool
 | [], _, listed => (Region.ready .any ops listed).isEmpty
 | (i, 0, _) :: r, stops, listed => Region.free .any ops listed i && ((Region.ready .any ops listed).contains i && (!stops.contains i && chkG ops r stops (listed.setIfInBounds i true)))
 | (i, 1, s) :: r, stops, listed => Region.free .any ops listed i && ((Region.ready .any ops listed).contains i && (waits ops s i && (i != s && (!stops.contains i && chkG ops r (s :: stops) (listed.setIfInBounds i true)))))
 | (i, _, _) :: r, stops, listed => (Region.ready .any ops listed == [i]) && (decide (i < listed.size) && chkG ops r stops (listed.setIfInBounds i true))
def stopOf (ops : Array Oper) (i : Nat) : List Nat → Option Nat
 | [] => none
 | j :: r => match (Nat.ble 2 (rKind (opAt ops j)) || (j + 1).beq ops.size) && waits ops j i && j != i with
  | true => some j
  | false => stopOf ops i r
def planG (ops : Array Oper) : Nat → Array Bool → List (Nat × Nat × Nat)
 | 0, _ => []
 | n + 1, listed =>
  let rd := Region.ready .any ops listed
  match rd.find? fun i => (i + 1) != ops.size && ((rKind (opAt ops i)).beq 0 && Region.free .any ops listed i) with
  | some i => (i, 0, 0) :: planG ops n (listed.setIfInBounds i true)
  | none => match rd.find? fun i => (i + 1) != ops.size && ((rKind (opAt ops i)).beq 1 && (Region.free .any ops listed i && (stopOf ops i (List.range ops.size)).isSome)) with
   | some i => (i, 1, (stopOf ops i (List.range ops.size)).getD 0) :: planG ops n (listed.setIfInBounds i true)
   | none => match rd with
    | i :: _ => (i, 2, 0) :: planG ops n (listed.setIfInBounds i true)
    | [] => []
def detC : C → Bool
 | .v _ => true
 | .s _ (_ + 1) => true
 | .p _ _ => true
 | .m _ => true
 | .w _ _ _ _ => true
 | .f _ _ => true
 | _ => false
def detB : AV → Bool
 | .a (.c c) => detC c
 | .a (.g l) => l.all detC
 | _ => false
abbrev Fl := Nat × Option (Nat × TypeId × Operand × AV)
def flDst (d : Option Nat) : List Fl → Bool
 | [] => true
 | (_, none) :: r => flDst d r
 | (_, some (e, _, x, _)) :: r => (match d with | some d => !(Nat.beq d e) | none => true) && (notDst d x && flDst d r)
def flOk (T : Tb) (rs : RS) (done : List Nat) : List Fl → Bool
 | [] => true
 | (_, none) :: r => flOk T rs done r
 | (s, some (e, t, x, v)) :: r => (done.contains s || ((match rLoad T rs t x with | some u => eqAV u v | none => false) && eqAV ((rs.tm.get e).getD .u) v)) && flOk T rs done r
def rG (T : Tb) (rc : RC) (loc : List Nat) (ops : Array Oper) : List (Nat × Nat × Nat) → List Nat → List Fl → RS → (RS → Ans) → Ans
 | [], _, _, rs, k => k rs
 | (i, 0, _) :: r, done, fl, rs, k => match ops[i]? with
  | some o => bif flDst o.dst fl then rPu T loc ops i rs fun rs => rG T rc loc ops r done fl rs k else .bad (64 :: loc)
  | none => .bad (65 :: loc)
 | (i, 1, s) :: r, done, fl, rs, k => match ops[i]? with
  | some o => bif flDst o.dst fl then (match rWant ops rs o with
   | some true => match o.op, o.dst with
    | .load t x, some d => (match rLoad T rs t x with
     | some v => bif detB v && (notDst (some d) x && Nat.blt d rs.n) then fAV v fun v => rs.put o.dst v fun rs => rG T rc loc ops r done ((s, some (d, t, x, v)) :: fl) rs k else .bad (66 :: i :: loc)
     | none => .bad (67 :: i :: loc))
    | _, _ => .bad (68 :: loc)
   | some false => rs.put o.dst (.a (.c (.v undef))) fun rs => rG T rc loc ops r done ((s, none) :: fl) rs k
   | none => .bad (69 :: loc)) else .bad (64 :: loc)
  | none => .bad (65 :: loc)
 | (i, _, _) :: r, done, fl, rs, k => match ops[i]? with
  | some o => bif flDst o.dst fl then rOp T rc loc ops i rs fun rs => bif flOk T rs (i :: done) fl then rG T rc loc ops r (i :: done) fl rs k else .bad (63 :: i :: loc) else .bad (64 :: loc)
  | none => .bad (65 :: loc)
def run (T : Tb) : Nat → Nat → Code → RS → (Exit → RS → Ans) → Ans
 | 0, _, _, _, _ => .bad [0]
 | n + 1, f, c, rs, Q => match c with
  | .skip => Q .normal rs
  | .region id ops false => rLst T (run T n) [id, f] ops ops.toList rs (Q .normal)
  | .region id ops true => match Region.noSelect ops && (chkG ops (planG ops ops.size (Array.replicate ops.size false)) [] (Array.replicate ops.size false) && (planG ops ops.size (Array.replicate ops.size false)).length.beq ops.size) with
   | true => rG T (run T n) [id, f] ops (planG ops ops.size (Array.replicate ops.size false)) [] [] rs (Q .normal)
   | false => match Region.noSelect ops && chkO ops (planT ops ops.size (Array.replicate ops.size false)) false ops.size (Array.replicate ops.size false) with
    | true => rT T (run T n) [id, f] ops (planT ops ops.size (Array.replicate ops.size false)) rs (Q .normal)
    | false => .bad [79, id, f]
  | .seq x y => run T n f x rs fun e rs => match e with
   | .normal => run T n f y rs Q
   | e => Q e rs
  | .cond op x y => match rs.ev op with
   | .a (.c (.v (.bool t))) => (match t with
    | true => run T n f x rs Q
    | false => run T n f y rs Q)
   | _ => .bad [81, f]
  | .block id c => run T n f c rs fun e rs => match e with
   | .exit i => bif Nat.beq i id then Q .normal rs else Q (.exit i) rs
   | e => Q e rs
  | .loop c => run T n f c rs fun e rs => match e with
   | .normal => run T n f (.loop c) rs Q
   | e => Q e rs
  | .exit id => Q (.exit id) rs
  | .ret => Q .ret rs
  | .scope c => run T n f c rs fun e rs => match e with
   | .goto _ => .bad [83, f]
   | e => Q e rs
  | .label _ => Q .normal rs
  | _ => .bad [82, f]
end Go.Proofs.YtglchakimolfdaaDoor
