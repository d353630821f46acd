/-
  The abstract machine, part A.
-/
import Derived.Calls
set_option linter.all false
namespace Go.VM

/-- Abstract values. 'slc': a slice by value (its elements, each as its cells); the Bool says that its holder alone may append to it. 'ptr': into a heap object of this machine; 'iptr': into cells that never change. -/
inductive AV where
  | int (k : IntKind) (n : Int)
  | bool (b : Bool)
  | str (s : ByteArray)
  | slc (u : Bool) (es : List (List AV))
  | arr (id ver off n : Nat)
  | ptr (id off : Nat)
  | aptr (id ver i j : Nat)
  | iptr (cs : List AV) (off : Nat)
  | nilp
  | map (id : Nat)
  | vmap (ks vs : List AV)
  | func (f : FuncId) (fst cap : List AV)
  | nilf
  | iface (t : TypeId) (v : AV)
  | nili
  | agg (cs : List AV)
  | tup (vs : List AV)
  | poison
  deriving Inhabited

/-- Heap objects. 'arr': a row that is written in place; its number of turn tells old references from new ones. -/
inductive AO where
  | dead
  | box (cs : List AV)
  | arr (ver : Nat) (es : List (List AV))
  | map (ks vs : List AV)
  deriving Inhabited

abbrev Env := List (Nat × AV)
def Env.get (e : Env) (t : Nat) : AV :=
  match e with
  | [] => .poison
  | (u, v) :: r => if u = t then v else Env.get r t
def Env.set (e : Env) (t : Nat) (v : AV) : Env := (t, v) :: e
def Env.keep (e : Env) (ts : List Nat) : Env := ts.map fun t => (t, e.get t)

def AV.strip : AV → AV
  | .slc _ es => .slc false es
  | v => v
def AV.cells : AV → List AV
  | .agg cs => cs.map AV.strip
  | v => [v]
def AV.one : AV → Bool
  | .agg _ | .tup _ | .poison => false
  | _ => true

/-! ### what the types say -/
section
variable (P : Program) (t : TypeId)
def szOf : Nat := match P.info? t with | some i => i.size | none => 0
def byOf : Nat := match P.info? t with | some i => i.bytes | none => 0
def aggOf : Option Bool := match P.underlying t with | some (.struct _) => some true | some (.array _ _) => some true | some _ => some false | none => none
def fldOf (f : Nat) : Option (Nat × TypeId) := match P.underlying t with | some (.struct fs) => (fs[f]?).map fun x => (x.offset, x.type) | _ => none
def structOf : Bool := match P.underlying t with | some (.struct fs) => fs.all fun f => (P.info? f.type).isSome | _ => false
def selOf : Option TypeId := match P.underlying t with | some (.slice e) => some e | _ => none
def arrOf : Option (Nat × TypeId) := match P.underlying t with | some (.array n e) => some (n, e) | _ => none
def strOf : Bool := match P.underlying t with | some .string => true | _ => false
def mapOf : Option (TypeId × TypeId) := match P.underlying t with | some (.map k e) => some (k, e) | _ => none
def intOf : Option IntKind := match P.underlying t with | some (.int k) => some k | _ => none
end

/-- A closed value of the program text (or of a type's zero). Top-level nil slices may be appended to. -/
def ofCell : Value → AV
  | .int k n => .int k n
  | .bool b => .bool b
  | .string s => .str s
  | .pointer none => .nilp
  | .slice none 0 0 => .slc false []
  | .map none => .vmap [] []
  | .nilFunc => .nilf
  | .nilIface => .nili
  | _ => .poison
def ofConst : Value → AV
  | .agg cs => if cs.toList.all (fun v => (ofCell v).one) then .agg (cs.toList.map ofCell) else .poison
  | .slice none 0 0 => .slc true []
  | .tuple vs => if vs.size = 0 then .tup [] else .poison
  | v => ofCell v
def flagNil : AV → AV
  | .slc false [] => .slc true []
  | v => v
def zrOf (P : Program) (t : TypeId) : Option (List AV) :=
  match P.info? t with
  | some i => match i.zero with | some z => if z.cells.toList.all (fun v => (ofCell v).one) && z.cells.size == i.size then some (z.cells.toList.map ofCell) else none | none => none
  | none => none

/-- The zero value as a value. -/
def zvOf (P : Program) (t : TypeId) : Option AV :=
  match P.info? t with
  | some i =>
    (match i.zero with
     | some (.agg cs) => if cs.toList.all (fun v => (ofCell v).one) then some (.agg (cs.toList.map ofCell)) else none
     | some v => if (ofCell v).one then some (ofCell v) else none
     | none => none)
  | none => none

/-! ### which heap objects a value leads to -/
mutual
def clo (p : Nat → Bool) : AV → Bool
  | .slc _ es => cloLL p es
  | .iptr cs _ => cloL p cs
  | .vmap ks vs => cloL p ks && cloL p vs
  | .func _ a b => cloL p a && cloL p b
  | .iface _ v => clo p v
  | .agg cs => cloL p cs
  | .tup vs => cloL p vs
  | .arr id _ _ _ => p id
  | .ptr id _ => p id
  | .aptr id _ _ _ => p id
  | .map id => p id
  | _ => true
def cloL (p : Nat → Bool) : List AV → Bool
  | [] => true
  | x :: xs => clo p x && cloL p xs
def cloLL (p : Nat → Bool) : List (List AV) → Bool
  | [] => true
  | x :: xs => cloL p x && cloLL p xs
end
/-- May these values be stored into object id? Whoever will drop the objects from b on asks that what lies below leads nowhere above. -/
def okPut (bs : List Nat) (id : Nat) (news : List AV) : Bool := bs.all fun b => decide (b ≤ id) || cloL (fun i => decide (i < b)) news
/-- What is handed out of a heap whose objects from n on are dropped: what can't be written any more is told by value. -/
def reifyP (n : Nat) (H : List AO) : AV → AV
  | .ptr id off => if n ≤ id then (match H[id]? with | some (.box cs) => .iptr (cs.map AV.strip) off | _ => .poison) else .ptr id off
  | .map id => if n ≤ id then (match H[id]? with | some (.map ks vs) => .vmap ks vs | _ => .poison) else .map id
  | .arr id ver off m => if n ≤ id then (match H[id]? with | some (.arr v es) => if v = ver ∧ off + m ≤ es.length then .slc false (es.extract off (off + m)) else .poison | _ => .poison) else .arr id ver off m
  | v => v
def reify (n : Nat) (H : List AO) : AV → AV
  | .func f a c => .func f (a.map (reifyP n H)) (c.map (reifyP n H))
  | v => reifyP n H v
def reifyR (n : Nat) (H : List AO) : AV → AV
  | .tup vs => .tup (vs.map (reify n H))
  | v => reify n H v

/-! ### what an operation asks of the heap -/
inductive Req where
  | val (v : AV)
  | new (o : AO) (v : AV)
  | new2 (o o' : AO) (v : AV)
  | upd (id : Nat) (wr : Bool) (news : List AV) (k : AO → Option (AV × AO))
  | call (f : FuncId) (args : List AV)

/-- Annotations: no claim of theirs is trusted; they only choose among sound ways. mv: temporaries that carry the right to append. ar: temporaries whose slices are heap arrays. -/
structure Ann where
  mv : List Nat := []
  ar : List Nat := []
  live : List (Nat × List Nat) := []
  head : List (Nat × List Nat) := []
  deriving Inhabited
def Ann.mem (l : List Nat) (t : Option Nat) : Bool := match t with | some t => l.contains t | none => false
def lookN (l : List (Nat × List Nat)) (k : Nat) : Option (List Nat) := match l with | [] => none | (i, ts) :: r => if i = k then some ts else lookN r k

def intCmpAV (op : BinOp) (x y : Int) : Option AV :=
  match op with
  | .eql => some (.bool (x == y))
  | .neq => some (.bool (x != y))
  | .lss => some (.bool (x < y))
  | .leq => some (.bool (x ≤ y))
  | .gtr => some (.bool (x > y))
  | .geq => some (.bool (x ≥ y))
  | _ => none
def strCmpAV (op : BinOp) (x y : ByteArray) : Option AV :=
  match op with
  | .eql => some (.bool (x.toList == y.toList))
  | .neq => some (.bool !(x.toList == y.toList))
  | .lss => some (.bool (Op.bytesLess x.toList y.toList))
  | .leq => some (.bool (Op.bytesLess x.toList y.toList || x.toList == y.toList))
  | .gtr => some (.bool !(Op.bytesLess x.toList y.toList || x.toList == y.toList))
  | .geq => some (.bool !(Op.bytesLess x.toList y.toList))
  | .add => if x.size + y.size ≤ 9223372036854775807 then some (.str (x ++ y)) else none
  | _ => none

/-- '==' on values made of whole numbers, bools, strings (also structs of them): the kinds of a type's cells. -/
inductive EqK where
  | i (k : IntKind) | b | s
def eqFs (P : Program) (rec : TypeId → Option (List EqK)) : Nat → List Field → Option (List EqK)
  | _, [] => some []
  | off, f :: fs =>
    if f.name ≠ "_" ∧ f.offset = off then
      (match rec f.type with
       | some ks => (match eqFs P rec (off + ks.length) fs with | some r => some (ks ++ r) | none => none)
       | none => none)
    else none
def eqK (P : Program) : Nat → TypeId → Option (List EqK)
  | 0, _ => none
  | d + 1, t =>
    match P.underlying t with
    | some (.int k) => some [.i k]
    | some .bool => some [.b]
    | some .string => some [.s]
    | some (.struct fs) =>
      if P.stoodInHeld t = true then none else
      (match eqFs P (eqK P d) 0 fs.toList with
       | some ks => if ks.length = szOf P t then some ks else none
       | none => none)
    | _ => none
def eqTy (P : Program) (t : TypeId) : Option (List EqK) := match eqK P 8 t with | some ks => if P.eqGuardType P.depth t then none else some ks | none => none
def eqCell : EqK → AV → AV → Option Bool
  | .i k, .int k1 a, .int k2 b => if k = k1 ∧ k = k2 then some (a == b) else none
  | .b, .bool a, .bool b => some (a == b)
  | .s, .str a, .str b => some (a == b)
  | _, _, _ => none
def eqCells : List EqK → List AV → List AV → Option Bool
  | [], [], [] => some true
  | k :: ks, x :: xs, y :: ys => match eqCell k x y, eqCells ks xs ys with | some b, some c => some (b && c) | _, _ => none
  | _, _, _ => none
def eqAV (P : Program) (t : TypeId) (x y : AV) : Option Bool :=
  match eqTy P t, aggOf P t with
  | some ks, some true => (match x, y with | .agg xs, .agg ys => eqCells ks xs ys | _, _ => none)
  | some [k], some false => eqCell k x y
  | _, _ => none

def intBinAV (op : BinOp) (k : IntKind) (a b : Int) : Option AV :=
  match op with
  | .add => some (.int k (k.wrap (a + b)))
  | .sub => some (.int k (k.wrap (a - b)))
  | .mul => some (.int k (k.wrap (a * b)))
  | .quo => if b = 0 then none else some (.int k (k.wrap (a.tdiv b)))
  | .rem => if b = 0 then none else some (.int k (a.tmod b))
  | .and => some (.int k (k.wrap (BitVec.ofInt k.bits a &&& BitVec.ofInt k.bits b).toNat))
  | .or => some (.int k (k.wrap (BitVec.ofInt k.bits a ||| BitVec.ofInt k.bits b).toNat))
  | .xor => some (.int k (k.wrap (BitVec.ofInt k.bits a ^^^ BitVec.ofInt k.bits b).toNat))
  | .shl => if 0 ≤ b then some (.int k (k.wrap (a * 2 ^ (min b.toNat k.bits)))) else none
  | .shr => if 0 ≤ b then some (.int k (a.fdiv (2 ^ (min b.toNat k.bits)))) else none
  | .eql => some (.bool (a == b))
  | .neq => some (.bool (a != b))
  | .lss => some (.bool (decide (a < b)))
  | .leq => some (.bool (decide (a ≤ b)))
  | .gtr => some (.bool (decide (a > b)))
  | .geq => some (.bool (decide (a ≥ b)))
  | _ => none
def binAV (P : Program) (op : BinOp) (t : TypeId) (x y : AV) : Option AV :=
  match x, y with
  | .int k a, .int k' b => if k = k' then intBinAV op k a b else none
  | .str a, .str b => strCmpAV op a b
  | x, y =>
    (match op with
     | .eql => match eqAV P t x y with | some b => some (.bool b) | none => none
     | .neq => match eqAV P t x y with | some b => some (.bool !b) | none => none
     | _ => none)

/-- The cells of a value that is stored: as many as the type has, each of one cell. -/
def fitCells (P : Program) (t : TypeId) (x : AV) : Option (List AV) :=
  let cs := x.cells
  if cs.length = szOf P t ∧ cs.length ≠ 0 ∧ cs.all AV.one = true then some cs else none
def splice {α : Type} (cs : List α) (off : Nat) (news : List α) : List α := cs.take off ++ news ++ cs.drop (off + news.length)
/-- A value of type t out of a row of cells. -/
def readCells (P : Program) (t : TypeId) (cs : List AV) (off : Nat) : Option AV :=
  match aggOf P t with
  | some true => if off + szOf P t ≤ cs.length then some (.agg ((cs.extract off (off + szOf P t)).map AV.strip)) else none
  | some false => (cs[off]?).map AV.strip
  | none => none
def loadBox (P : Program) (t : TypeId) (off : Nat) (mv : Bool) : AO → Option (AV × AO)
  | .box cs =>
    if mv && aggOf P t == some false then (match cs[off]? with | some c => some (c, .box (cs.set off c.strip)) | none => none)
    else (readCells P t cs off).map fun v => (v, .box cs)
  | _ => none
def storeBox (off : Nat) (news : List AV) : AO → Option (AV × AO)
  | .box cs => if off + news.length ≤ cs.length then some (.poison, .box (splice cs off news)) else none
  | _ => none
def buildCells (P : Program) (t : TypeId) : List (Nat × AV) → List AV → Option (List AV)
  | [], cs => some cs
  | (i, v) :: r, cs =>
    match fldOf P t i with
    | some (off, ft) =>
      (match fitCells P ft v with
       | some news => if off + news.length ≤ cs.length then buildCells P t r (splice cs off news) else none
       | none => none)
    | none => none
def buildElems (P : Program) (e : TypeId) : List (Nat × AV) → List (List AV) → Option (List (List AV))
  | [], es => some es
  | (i, v) :: r, es => match fitCells P e v with | some news => if i < es.length then buildElems P e r (es.set i news) else none | none => none
def lowOf (x : Option AV) : Option Nat := match x with | none => some 0 | some (.int _ n) => if 0 ≤ n then some n.toNat else none | _ => none
def highOf (len : Nat) (x : Option AV) : Option Nat := match x with | none => some len | some (.int _ n) => if 0 ≤ n ∧ n ≤ len then some n.toNat else none | _ => none
def findAV (P : Program) (kt : TypeId) (k : AV) : List AV → Nat → Option (Option Nat)
  | [], _ => some none
  | x :: xs, i => match eqAV P kt k x with | some true => some (some i) | some false => findAV P kt k xs (i + 1) | none => none
def keyOk (P : Program) (kt : TypeId) (k : AV) : Bool := match eqAV P kt k k with | some _ => true | none => false
def lookAV (P : Program) (kt et : TypeId) (k : AV) (ok : Bool) (ks vs : List AV) : Option AV :=
  if !keyOk P kt k then none else
  match findAV P kt k ks 0 with
  | some (some i) => match vs[i]? with | some v => some (if ok then .tup [v, .bool true] else v) | none => none
  | some none => (match zvOf P et with | some zv => some (if ok then .tup [zv, .bool false] else zv) | none => none)
  | none => none
def updMap (P : Program) (kt : TypeId) (k v : AV) : AO → Option (AV × AO)
  | .map ks vs =>
    if !keyOk P kt k then none else
    (match findAV P kt k ks 0 with
     | some (some i) => some (.poison, .map (ks.set i k) (vs.set i v))
     | some none => some (.poison, .map (ks ++ [k]) (vs ++ [v]))
     | none => none)
  | _ => none
def uni (sz : Nat) (es : List (List AV)) : Bool := es.all fun e => e.length == sz

/-! rows that are written in place -/
def lenArr (ver n : Nat) : AO → Option (AV × AO)
  | .arr v es => if v = ver then some (.int .i64 n, .arr v es) else none
  | _ => none
def refArr (ver i : Nat) (r : AV) : AO → Option (AV × AO)
  | .arr v es => if v = ver ∧ i < es.length then some (r, .arr v es) else none
  | _ => none
def atArr (id ver off n sz : Nat) (i : Int) : AO → Option (AV × AO)
  | .arr v es => if v = ver ∧ 0 ≤ i ∧ i < n ∧ off + n ≤ es.length ∧ uni sz es = true ∧ sz ≠ 0 then some (.aptr id ver (off + i.toNat) 0, .arr v es) else none
  | _ => none
def loadArr (P : Program) (t : TypeId) (ver i j : Nat) : AO → Option (AV × AO)
  | .arr v es => if v = ver then (match es[i]? with | some e => (match readCells P t e j with | some x => some (x.strip, .arr v es) | none => none) | none => none) else none
  | _ => none
def storeArr (ver i j : Nat) (news : List AV) : AO → Option (AV × AO)
  | .arr v es => if v = ver then (match es[i]? with | some e => if j + news.length ≤ e.length then some (.poison, .arr v (es.set i (splice e j news))) else none | none => none) else none
  | _ => none
def sliceArr (sz id ver off n ll hh : Nat) : AO → Option (AV × AO)
  | .arr v es => if v = ver ∧ ll ≤ hh ∧ hh ≤ n ∧ off + n ≤ es.length ∧ uni sz es = true ∧ sz ≠ 0 then some (if ll = 0 then .arr id ver off hh else if ll = hh then .slc false [] else .arr id ver (off + ll) (hh - ll), .arr v es) else none
  | _ => none
/-- append to a row that begins where its block does. -/
def appArr (sz by_ id ver n : Nat) (ys : List (List AV)) : AO → Option (AV × AO)
  | .arr v es =>
    if v = ver ∧ n ≤ es.length ∧ uni sz es = true then
      (if ys.isEmpty then some (.arr id ver 0 n, .arr v es)
       else if uni sz ys && decide ((n + ys.length) * by_ ≤ 140737488355328) && decide (n + ys.length ≤ 140737488355328) then some (.arr id (ver + 1) 0 (n + ys.length), .arr (ver + 1) (es.take n ++ ys))
       else none)
    else none
  | _ => none
/-- append of such a row to a slice by value. -/
def appOf (sz by_ : Nat) (u : Bool) (es : List (List AV)) (ver off n : Nat) : AO → Option (AV × AO)
  | .arr v ys =>
    if v = ver ∧ off + n ≤ ys.length ∧ n ≠ 0 ∧ u = true ∧ uni sz es = true ∧ uni sz ys = true ∧ (es.length + n) * by_ ≤ 140737488355328 ∧ es.length + n ≤ 140737488355328
    then some (.slc true (es ++ ys.extract off (off + n)), .arr v ys)
    else if v = ver ∧ n = 0 then some (.slc u es, .arr v ys) else none
  | _ => none
/-- Operations that only reckon, and read what never changes. -/
def plainOp : Op → Bool
  | .buildSlice .. => false
  | .call c => match c.callee with | .builtin .append => false | _ => true
  | _ => true
/-- What one operation does, out of its operands' values. nid: the number that a new object would get. mv: does the destination carry the right to append? -/
def reqCall (P : Program) (c : Call) : List AV → Option Req
  | ins =>
    match c.callee with
    | .builtin .len =>
      (match ins, c.argTypes.toList with
       | [.slc _ es], [t] => if (selOf P t).isSome then some (.val (.int .i64 es.length)) else none
       | [.str s], [t] => if strOf P t then some (.val (.int .i64 s.size)) else none
       | [.vmap ks _], [t] => if (mapOf P t).isSome then some (.val (.int .i64 ks.length)) else none
       | [.arr id ver _ n], [t] => if (selOf P t).isSome then some (.upd id false [] (lenArr ver n)) else none
       | [.map id], [t] => if (mapOf P t).isSome then some (.upd id false [] fun o => match o with | .map ks vs => some (.int .i64 ks.length, .map ks vs) | _ => none) else none
       | _, _ => none)
    | .builtin .append =>
      (match c.argTypes.toList with
       | [t, t'] =>
         if t = t' then
           (match selOf P t with
            | some e =>
              if szOf P e ≠ 0 ∧ (zrOf P e).isSome then
                (match ins with
                 | [.slc u es, .slc _ ys] =>
                   if ys.isEmpty then some (.val (.slc u es))
                   else if u && uni (szOf P e) es && uni (szOf P e) ys && decide ((es.length + ys.length) * byOf P e ≤ 140737488355328) && decide (es.length + ys.length ≤ 140737488355328)
                     then some (.val (.slc true (es ++ ys)))
                   else none
                 | [.slc u es, .arr id ver off n] => some (.upd id false [] (appOf (szOf P e) (byOf P e) u es ver off n))
                 | [.arr id ver 0 n, .slc _ ys] => some (.upd id true ys.flatten (appArr (szOf P e) (byOf P e) id ver n ys))
                 | _ => none)
              else none
            | none => none)
         else none
       | _ => none)
    | .value _ =>
      (match ins with
       | .func f fst cap :: args => some (.call f (fst ++ args ++ cap))
       | _ => none)
    | _ => none
def nilConst : Operand → Bool
  | .const (.slice none 0 0) => true
  | _ => false
def req (P : Program) (an : Ann) (nid : Nat) (d : Option Tmp) (o : Op) (ins : List AV) : Option Req :=
  match o with
  | .move y => match ins with | [x] => if Ann.mem an.ar d && nilConst y then some (.new (.arr 0 []) (.arr nid 0 0 0)) else some (.val x) | _ => none
  | .assign y => match ins with | [x] => if Ann.mem an.ar d && nilConst y then some (.new (.arr 0 []) (.arr nid 0 0 0)) else some (.val x) | _ => none
  | .pick .. => match ins with | [.bool c, a, b] => some (.val (if c then a else b)) | _ => none
  | .alloc t =>
    if Ann.mem an.ar d then (match zrOf P t with | some [.slc false []] => some (.new2 (.arr 0 []) (.box [.arr nid 0 0 0]) (.ptr (nid + 1) 0)) | _ => none) else
    match zrOf P t with | some z => if z.length = szOf P t then some (.new (.box (if aggOf P t == some true then z else z.map flagNil)) (.ptr nid 0)) else none | none => none
  | .box t _ => match ins with | [x] => (match fitCells P t x with | some cs => some (.new (.box cs) (.ptr nid 0)) | none => none) | _ => none
  | .build t ps =>
    if ins.length = ps.size ∧ structOf P t = true then
      (match zrOf P t with
       | some z => if z.length = szOf P t then (match buildCells P t ((ps.toList.map (·.1)).zip ins) z with | some cs => some (.val (.agg cs)) | none => none) else none
       | none => none)
    else none
  | .buildSlice t n ps =>
    if ins.length = ps.size then
      (match selOf P t with
       | some e =>
         (match zrOf P e with
          | some z =>
            if z.length = szOf P e ∧ szOf P e ≠ 0 ∧ n * szOf P e ≤ 16777216 then
              (match buildElems P e ((ps.toList.map (·.1)).zip ins) (List.replicate n z) with
               | some es => if Ann.mem an.ar d then some (.new (.arr 0 es) (.arr nid 0 0 n)) else some (.val (.slc true es))
               | none => none)
            else none
          | none => none)
       | none => none)
    else none
  | .load t _ =>
    (match ins with
     | [.ptr id off] => some (.upd id (Ann.mem an.mv d && aggOf P t == some false) [] (loadBox P t off (Ann.mem an.mv d)))
     | [.iptr cs off] => match readCells P t cs off with | some v => some (.val v) | none => none
     | [.aptr id ver i j] => some (.upd id false [] (loadArr P t ver i j))
     | _ => none)
  | .store t _ _ =>
    (match ins with
     | [.ptr id off, x] => match fitCells P t x with | some cs => some (.upd id true cs (storeBox off cs)) | none => none
     | [.aptr id ver i j, x] => match fitCells P t x with | some cs => some (.upd id true cs (storeArr ver i j cs)) | none => none
     | _ => none)
  | .nilCheck _ =>
    (match ins with
     | [.ptr id off] => some (.val (.ptr id off))
     | [.iptr cs off] => some (.val (.iptr cs off))
     | [.func f a b] => some (.val (.func f a b))
     | [.aptr id ver i j] => some (.upd id false [] (refArr ver i (.aptr id ver i j)))
     | _ => none)
  | .binOp op t _ _ _ => match ins with | [x, y] => (match binAV P op t x y with | some v => some (.val v) | none => none) | _ => none
  | .unOp op _ _ =>
    (match op, ins with
     | .not, [.bool b] => some (.val (.bool !b))
     | .neg, [.int k n] => some (.val (.int k (k.wrap (0 - n))))
     | _, _ => none)
  | .convert src dst _ =>
    (match ins with
     | [.int _ n] => match intOf P src, intOf P dst with | some _, some k => some (.val (.int k (k.wrap n))) | _, _ => none
     | [.str s] => if strOf P src && strOf P dst then some (.val (.str s)) else none
     | _ => none)
  | .makeFunc fn fst cap =>
    (match fn with
     | .func f => if ins.length = fst.size + cap.size then some (.val (.func f (ins.take fst.size) (ins.drop fst.size))) else none
     | _ => none)
  | .makeMap t r => match r, ins with | none, [] => some (.new (.map [] []) (.map nid)) | some _, [.int _ _] => if (mapOf P t).isSome then some (.new (.map [] []) (.map nid)) else none | _, _ => none
  | .slice t _ lo hi mx =>
    (match mx with
     | some _ => none
     | none =>
       match ins with
       | x :: b =>
         let l := if lo.isSome then b.head? else none
         let h := if hi.isSome then (if lo.isSome then b.tail.head? else b.head?) else none
         if lo.isSome && l.isNone || hi.isSome && h.isNone then none else
         match x with
         | .str s => match highOf s.size h with | some hh => (match lowOf l with | some ll => if ll ≤ hh ∧ strOf P t = true then some (.val (.str (s.extract ll hh))) else none | none => none) | none => none
         | .slc _ es =>
           match selOf P t with
           | some e => match highOf es.length h with | some hh => (match lowOf l with | some ll => if ll ≤ hh ∧ uni (szOf P e) es = true ∧ szOf P e ≠ 0 then some (.val (.slc false ((es.take hh).drop ll))) else none | none => none) | none => none
           | none => none
         | .arr id ver off n =>
           match selOf P t with
           | some e => match highOf n h with | some hh => (match lowOf l with | some ll => some (.upd id false [] (sliceArr (szOf P e) id ver off n ll hh)) | none => none) | none => none
           | none => none
         | _ => none
       | [] => none)
  | .fieldAddr t _ f =>
    (match ins, fldOf P t f with
     | [.ptr id off], some (fo, ft) => if szOf P ft = 0 then none else some (.val (.ptr id (off + fo)))
     | [.iptr cs off], some (fo, ft) => if szOf P ft = 0 then none else some (.val (.iptr cs (off + fo)))
     | [.aptr id ver i j], some (fo, ft) => if szOf P ft = 0 then none else some (.upd id false [] (refArr ver i (.aptr id ver i (j + fo))))
     | _, _ => none)
  | .field t _ f =>
    (match ins, fldOf P t f with
     | [.agg cs], some (fo, ft) => match readCells P ft cs fo with | some v => some (.val v) | none => none
     | _, _ => none)
  | .indexAddr t _ _ =>
    (match ins with
     | [.slc _ es, .int _ i] =>
       (match selOf P t with
        | some e => if 0 ≤ i then (match es[i.toNat]? with | some c => if c.length = szOf P e then some (.val (.iptr c 0)) else none | none => none) else none
        | none => none)
     | [.arr id ver off n, .int _ i] => (match selOf P t with | some e => some (.upd id false [] (atArr id ver off n (szOf P e) i)) | none => none)
     | [.ptr id off, .int _ i] =>
       (match arrOf P t with
        | some (n, e) => if 0 ≤ i ∧ i < n ∧ szOf P e ≠ 0 then some (.val (.ptr id (off + i.toNat * szOf P e))) else none
        | none => none)
     | [.iptr cs off, .int _ i] =>
       (match arrOf P t with
        | some (n, e) => if 0 ≤ i ∧ i < n ∧ szOf P e ≠ 0 then some (.val (.iptr cs (off + i.toNat * szOf P e))) else none
        | none => none)
     | _ => none)
  | .index t _ _ =>
    (match ins with
     | [.str s, .int _ i] => if strOf P t = true ∧ 0 ≤ i then (if h : i.toNat < s.size then some (.val (.int .u8 (s[i.toNat]'h).toNat)) else none) else none
     | [.agg cs, .int _ i] =>
       (match arrOf P t with
        | some (n, e) => if 0 ≤ i ∧ i < n ∧ szOf P e ≠ 0 then (match readCells P e cs (i.toNat * szOf P e) with | some v => some (.val v) | none => none) else none
        | none => none)
     | _ => none)
  | .lookup t _ _ ok =>
    (match ins, mapOf P t with
     | [.map id, k], some (kt, et) => some (.upd id false [] fun o => match o with | .map ks vs => (match lookAV P kt et k ok ks vs with | some v => some (v, .map ks vs) | none => none) | _ => none)
     | [.vmap ks vs, k], some (kt, et) => match lookAV P kt et k ok ks vs with | some v => some (.val v) | none => none
     | _, _ => none)
  | .mapUpdate t _ _ _ | .insert t _ _ _ =>
    (match ins, mapOf P t with
     | [.map id, k, v], some (kt, _) => some (.upd id true [k, v] (updMap P kt k v))
     | _, _ => none)
  | .extract _ i => match ins with | [.tup vs] => (match vs[i]? with | some v => some (.val v) | none => none) | _ => none
  | .call c => reqCall P c ins
  | _ => none

/-! ### the evaluator -/
abbrev CallF := FuncId → List AV → List Nat → List AO → Option (AV × List AO)

def evOpd (e : Env) : Operand → AV
  | .tmp t => e.get t
  | .const v => ofConst v
  | .func f => .func f [] []
  | .global _ => .poison
/-- Does this operand hand its right on? -/
def hands (an : Ann) (d : Option Tmp) (o : Op) (t : Tmp) : Bool :=
  match o with
  | .move _ => Ann.mem an.mv d
  | .assign _ => an.mv.contains t
  | .store _ _ v => (match v with | .tmp s => s == t && an.mv.contains t | _ => false)
  | .call c => (match c.callee, c.args.toList with | .builtin .append, .tmp s :: r => s == t && an.mv.contains t && r.all (fun x => match x with | .tmp u => u != t | _ => true) | _, _ => false)
  | _ => false
def inOf (an : Ann) (d : Option Tmp) (o : Op) (e : Env) : Operand → AV
  | .tmp t => if hands an d o t then e.get t else (e.get t).strip
  | x => evOpd e x
def handT (an : Ann) (d : Option Tmp) (o : Op) : Operand → Option Tmp
  | .tmp t => if hands an d o t then some t else none
  | _ => none
/-- The temporaries after an operation that handed rights on. -/
def gives (an : Ann) (d : Option Tmp) (o : Op) (e : Env) : Env :=
  match o.operands.toList.filterMap (handT an d o) with
  | [] => e
  | t :: _ => (match e.get t with | .slc true es => e.set t (.slc false es) | _ => e)
def putD (e : Env) (d : Option Tmp) (v : AV) : Env := match d with | some t => e.set t v | none => e
/-- A request, met at a heap. -/
def meet (C : CallF) (bs : List Nat) (H : List AO) : Req → Option (AV × List AO)
  | .val v => some (v, H)
  | .new o v => some (v, H ++ [o])
  | .new2 o o' v => some (v, H ++ [o, o'])
  | .upd id wr news k =>
    (match H[id]? with
     | some o => (match k o with | some (v, o') => if wr then (if okPut bs id news then some (v, H.set id o') else none) else some (v, H) | none => none)
     | none => none)
  | .call f args => C f args bs H
/-- Operations whose result may carry a right. -/
def flagOp : Op → Bool
  | .move _ | .assign _ | .buildSlice .. | .load .. | .call _ => true
  | _ => false
def tidy (o : Op) (v : AV) : AV := if flagOp o then v else v.strip
def evOp (P : Program) (an : Ann) (C : CallF) (bs : List Nat) (o : Oper) (e : Env) (H : List AO) : Option (Env × List AO) :=
  match req P an H.length o.dst o.op (o.op.operands.toList.map (inOf an o.dst o.op e)) with
  | some r => (match meet C bs H r with | some (v, H') => some (putD (gives an o.dst o.op e) o.dst (tidy o.op v), H') | none => none)
  | none => none
def wants (ops : Array Oper) (e : Env) (o : Oper) : Option Bool :=
  match o.guard with
  | none => some true
  | some (j, want) => match (ops[j]?).bind (·.dst) with | some t => (match e.get t with | .bool b => some (b == want) | .tup _ => some false | _ => none) | none => none
def evOps (P : Program) (an : Ann) (C : CallF) (bs : List Nat) (ops : Array Oper) : List Oper → Env → List AO → Option (Env × List AO)
  | [], e, H => some (e, H)
  | o :: r, e, H =>
    match wants ops e o with
    | some true => (match evOp P an C bs o e H with | some (e', H') => evOps P an C bs ops r e' H' | none => none)
    | some false => evOps P an C bs ops r (putD e o.dst (.tup [])) H
    | none => none

/-! ### a region whose order is open: new objects at places that are kept for them, the old ones looked at one by one -/
def newsOf (an : Ann) (o : Oper) : Nat :=
  match o.op with
  | .alloc _ => if Ann.mem an.ar o.dst then 2 else 1
  | .box .. | .makeMap .. => 1
  | .buildSlice .. => if Ann.mem an.ar o.dst then 1 else 0
  | .move y | .assign y => if Ann.mem an.ar o.dst && nilConst y then 1 else 0
  | _ => 0
/-- What an operation touched: an object, or (none) all of them; did it write? -/
abbrev Foot := List (Option Nat × Bool)
noncomputable def meetD (C : CallF) (bs : List Nat) (b rk : Nat) (K : List AO) : Req → Option (AV × List AO × Foot)
  | .val v => some (v, K, [])
  | .new o v => some (v, K.set (b + rk) o, [(some (b + rk), true)])
  | .new2 o o' v => some (v, (K.set (b + rk) o).set (b + rk + 1) o', [(some (b + rk), true), (some (b + rk + 1), true)])
  | .upd id wr news k =>
    (match K[id]? with
     | some o =>
       (match k o with
        | some (v, o') => if wr then (if okPut bs id news then some (v, K.set id o', [(some id, true)]) else none) else some (v, K, [(some id, false)])
        | none => none)
     | none => none)
  | .call f args =>
    if cloL (fun i => decide (i < b)) args then
      (match C f args bs (K.take b) with
       | some (v, H') => open Classical in if H' = K.take b then some (v, K, [(none, false)]) else none
       | none => none)
    else none
noncomputable def evOpD (P : Program) (an : Ann) (C : CallF) (bs : List Nat) (b rk : Nat) (o : Oper) (e : Env) (K : List AO) : Option (Env × List AO × Foot) :=
  match req P an (b + rk) o.dst o.op (o.op.operands.toList.map (inOf an o.dst o.op e)) with
  | some r => (match meetD C bs b rk K r with | some (v, K', ft) => some (putD (gives an o.dst o.op e) o.dst (tidy o.op v), K', ft) | none => none)
  | none => none
/-- The operations in the text's order, each with its place and with how many new objects stand ahead of it; what each touched. -/
noncomputable def evOpsD (P : Program) (an : Ann) (C : CallF) (bs : List Nat) (ops : Array Oper) (b : Nat) : List (Oper × Nat × Nat) → Env → List AO → Option (Env × List AO × List (Nat × Foot))
  | [], e, K => some (e, K, [])
  | (o, i, rk) :: r, e, K =>
    match wants ops e o with
    | some true =>
      (match evOpD P an C bs b rk o e K with
       | some (e', K', ft) => (match evOpsD P an C bs ops b r e' K' with | some (e2, K2, fs) => some (e2, K2, (i, ft) :: fs) | none => none)
       | none => none)
    | some false => (match evOpsD P an C bs ops b r (putD e o.dst (.tup [])) K with | some (e2, K2, fs) => some (e2, K2, (i, []) :: fs) | none => none)
    | none => none
def numbered (an : Ann) : List Oper → Nat → Nat → List (Oper × Nat × Nat)
  | [], _, _ => []
  | o :: r, i, rk => (o, i, rk) :: numbered an r (i + 1) (rk + newsOf an o)
def newsIn (an : Ann) : List Oper → Nat
  | [] => 0
  | o :: r => newsOf an o + newsIn an r
def clash (b : Nat) (x y : Option Nat × Bool) : Bool :=
  (x.2 || y.2) && (match x.1, y.1 with | some i, some j => i == j | some i, none => decide (i < b) | none, some j => decide (j < b) | none, none => true)
/-- Does operation i stand ahead of operation j in every order? (A few edges are followed.) -/
def prec (ops : Array Oper) : Nat → Nat → Nat → Bool
  | 0, _, _ => false
  | n + 1, j, i =>
    match ops[j]? with
    | some o => o.after.toList.any (fun e => Region.binds .any e && e.on == i) || o.after.toList.any (fun e => Region.binds .any e && decide (i < e.on) && prec ops n e.on i)
    | none => false
/-- Two operations that met at an object (one of them wrote) stand in order. -/
def apartF (b : Nat) (f g : Foot) : Bool := f.all fun x => g.all fun y => !clash b x y
def footsOk (ops : Array Oper) (b : Nat) : List (Nat × Foot) → Bool
  | [] => true
  | (i, f) :: r => (r.all fun x => apartF b f x.2 || prec ops 4 x.1 i) && footsOk ops b r
noncomputable def evDraw (P : Program) (an : Ann) (C : CallF) (bs : List Nat) (ops : Array Oper) (e : Env) (H : List AO) : Option (Env × List AO) :=
  match evOpsD P an C (H.length :: bs) ops H.length (numbered an ops.toList 0 0) e (H ++ List.replicate (newsIn an ops.toList) .dead) with
  | some (e', K, fs) => if footsOk ops H.length fs then some (e', K) else none
  | none => none

inductive Ex where
  | normal | exit (id : Nat) | ret
  deriving DecidableEq
abbrev Out := Ex × Env × List AO
def headId : Code → Option Nat
  | .region id _ _ => some id
  | .seq a b => match headId a with | some i => some i | none => headId b
  | .block _ c => headId c
  | .cond _ a b => match headId a with | some i => some i | none => headId b
  | .loop c => headId c
  | .scope c => headId c
  | _ => none
def keepAt (l : List (Nat × List Nat)) (k : Option Nat) (e : Env) : Env :=
  match k with | some k => (match lookN l k with | some ts => e.keep ts | none => e) | none => e
def cloEnv (n : Nat) : Env → Bool
  | [] => true
  | (_, v) :: r => clo (fun i => decide (i < n)) v && cloEnv n r
/-- The loops: at most n rounds. At each round's head what is kept leads to the objects below len alone, and the others are dropped. -/
def iter (c : Env → Env) (len : Nat) (g : Env → List AO → Option Out) : Nat → Env → List AO → Option Out
  | 0, _, _ => none
  | n + 1, e, H =>
    if cloEnv len (c e) ∧ len ≤ H.length then
      (match g (c e) (H.take len) with | some (.normal, e', H') => iter c len g n e' H' | r => r)
    else none
/-- How loops are run. -/
abbrev LoopF := (Env → Env) → Nat → (Env → List AO → Option Out) → Env → List AO → Option Out
def iterN (n : Nat) : LoopF := fun c len g e H => iter c len g n e H
/-- The code. bs: see 'okPut'. -/
noncomputable def ev (P : Program) (an : Ann) (C : CallF) (it : LoopF) : Code → List Nat → Env → List AO → Option Out
  | .skip, _, e, H => some (.normal, e, H)
  | .region id ops dr, bs, e, H =>
    (match (if dr then evDraw P an C bs ops e H else evOps P an C bs ops ops.toList e H) with
     | some (e', H') => some (.normal, keepAt an.live (some id) e', H')
     | none => none)
  | .seq a b, bs, e, H => match ev P an C it a bs e H with | some (.normal, e', H') => ev P an C it b bs e' H' | r => r
  | .cond c a b, bs, e, H => match evOpd e c with | .bool true => ev P an C it a bs e H | .bool false => ev P an C it b bs e H | _ => none
  | .block id c, bs, e, H => match ev P an C it c bs e H with | some (.exit i, e', H') => if i = id then some (.normal, e', H') else some (.exit i, e', H') | r => r
  | .loop c, bs, e, H => it (keepAt an.head (headId c)) H.length (ev P an C it c (H.length :: bs)) e H
  | .exit id, _, e, H => some (.exit id, e, H)
  | .ret, _, e, H => some (.ret, e, H)
  | .label _, _, e, H => some (.normal, e, H)
  | _, _, _, _ => none

/-! ### what is asked of a function's text beside (closed facts) -/
/-- The temporaries that an operation looks at, and those that it writes. -/
def looksAt (ops : Array Oper) (o : Oper) : List Tmp :=
  (o.op.operands.toList.filterMap fun x => match x with | .tmp t => some t | _ => none) ++ (match o.guard with | some (j, _) => ((ops[j]?).bind (·.dst)).toList | none => [])
def writesTo (an : Ann) (o : Oper) : List Tmp := o.dst.toList ++ o.op.operands.toList.filterMap (handT an o.dst o.op)
def freeOf (an : Ann) (ops : Array Oper) (x y : Oper) : Bool :=
  (writesTo an x).all (fun t => !(looksAt ops y).contains t && !(writesTo an y).contains t) && (writesTo an y).all (fun t => !(looksAt ops x).contains t)
def drawOk (an : Ann) (ops : Array Oper) : Bool :=
  ((List.range ops.size).all fun j => (List.range j).all fun i =>
    match ops[i]?, ops[j]? with | some x, some y => freeOf an ops x y || prec ops 4 j i | _, _ => true) &&
  (List.range ops.size).all fun j => match ops[j]? with | some o => o.after.toList.all (fun e => !Region.binds .any e || decide (e.on < j)) | none => true
def codeOk (an : Ann) (n : Nat) : Code → Bool
  | .region _ ops dr => ops.all (fun o => match o.dst with | some d => decide (d < n) | none => true) && (!dr || drawOk an ops)
  | .seq a b => codeOk an n a && codeOk an n b
  | .cond _ a b => codeOk an n a && codeOk an n b
  | .block _ c => codeOk an n c
  | .loop c => codeOk an n c
  | _ => true

/-! ### functions -/
def resOf (P : Program) (n : Nat) (e : Env) (H : List AO) : ResultVar → Option AV
  | .tmp t => some (e.get t)
  | .cell a t =>
    (match e.get a with
     | .ptr id off => match H[id]? with | some (.box cs) => (match aggOf P t with | some true => readCells P t cs off | some false => (cs[off]?).map fun c => if n ≤ id then c else c.strip | none => none) | _ => none
     | .iptr cs off => readCells P t cs off
     | _ => none)
def resAll (P : Program) (n : Nat) (e : Env) (H : List AO) : List ResultVar → Option (List AV)
  | [] => some []
  | r :: rs => match resOf P n e H r, resAll P n e H rs with | some v, some vs => some (v :: vs) | _, _ => none
def outOf (P : Program) (fn : Func) (n : Nat) (e : Env) (H : List AO) : Option AV :=
  match resAll P n e H fn.results.toList with
  | some [v] => some v
  | some vs => some (.tup (vs.map AV.strip))
  | none => none
def params (args : List AV) (i : Nat) : Env := match args with | [] => [] | v :: r => (i, v.strip) :: params r (i + 1)
/-- What is known of the program's functions beside their text: annotations; functions that are answered by a rule of their own. -/
structure Ctx where
  P : Program
  an : FuncId → Ann
  prim : FuncId → Option (List AV → List Nat → List AO → Option (AV × List AO))
  ok : FuncId → Bool
noncomputable def runBody (X : Ctx) (C : CallF) (it : LoopF) (f : FuncId) (args : List AV) (bs : List Nat) (H : List AO) : Option (AV × List AO) :=
  match X.P.funcs[f]? with
  | some fn =>
    (match fn.body with
     | some c =>
       if args.length ≤ fn.ntmps ∧ X.ok f = true then
         (match ev X.P (X.an f) C it c (H.length :: bs) (params args 0) H with
          | some (.exit _, _, _) => none
          | some (_, e, H') =>
            (match outOf X.P fn H.length e H' with
             | some v =>
               let r := reifyR H.length H' v
               if clo (fun i => decide (i < H.length)) r ∧ H.length ≤ H'.length then some (r, H'.take H.length) else none
             | none => none)
          | none => none)
       else none
     | none => none)
  | none => none
noncomputable def callN (X : Ctx) : Nat → CallF
  | 0, _, _, _, _ => none
  | k + 1, f, args, bs, H => match X.prim f with | some p => p args bs H | none => runBody X (callN X k) (iterN k) f args bs H
end Go.VM
