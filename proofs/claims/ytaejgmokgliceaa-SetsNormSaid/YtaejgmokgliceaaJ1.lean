/- What several laws of this seat need, part 1: an abstract machine for the program's code, that it is sound, and what it tells of the layer's functions. -/
import Derived.WalkKit
import Derived.LoopN
import Derived.Orders
import Derived.Laws.IdiomCopy
import Derived.Laws.StructEq
import Derived.Lib.Strings
import Derived.Laws.BytesArg
import Derived.Lib.ConvBytes
import Derived.MapKept
/- The abstract machine VAM: Go code over values instead of memory. Definitions alone; that it is sound is shown in the texts behind. -/



namespace Go.Vam

/-- Abstract values. 'sl': a slice of which nothing is written any more, as the list of its elements' cells; 'hs': a slice of a heap object; 'ptr': an address in a heap object (object, element, cell); 'ip': an address in memory that is not written. -/
inductive AV where
  | junk
  | int (k : IntKind) (n : Int)
  | bool (b : Bool)
  | str (s : List UInt8)
  | agg (xs : List AV)
  | tup (xs : List AV)
  | sl (es : List (List AV))
  | hs (id i n : Nat)
  | nils
  | ptr (id i j : Nat)
  | ip (cs : List AV)
  | nilp
  | fn (f : Nat) (cap : List AV)
  | nilf
  | mp (id : Nat)
  | nilm
  | pm (es : List (AV × AV))
  | it (id : Nat)

/-- Heap objects. 'arr ty ap fz es': elements of type ty, the first fz of which are written no more; ap: may it be appended to. -/
inductive AO where
  | arr (ty : TypeId) (ap : Bool) (fz : Nat) (es : List (List AV))
  | map (es : List (AV × AV))
  | siter (s : List UInt8) (pos : Nat)
  | raw (o : Obj)
  | dead

abbrev Slots := Nat → AV
abbrev AHeap := List AO
def upd (s : Slots) (d : Nat) (v : AV) : Slots := fun t => if t = d then v else s t

/-- How code is left. -/
inductive AX where
  | nrm
  | ext (id : Nat)
  | ret

abbrev AR := Option (AX × Slots × AHeap)
abbrev ARun := Slots → AHeap → AR
abbrev ACall := FuncId → List AV → AHeap → Option (AV × AHeap)

structure Cx where
  P : Program
  call : ACall
  loop : ARun → ARun
  pure : FuncId → Bool

/-! ### the program's tables -/
def szOf (P : Program) (t : TypeId) : Option Nat := (P.info? t).map (·.size)
def bytesT (P : Program) (t : TypeId) : Option Nat := (P.info? t).map (·.bytes)
def aggT (P : Program) (t : TypeId) : Option Bool :=
  match P.underlying t with
  | some (.struct _) | some (.array _ _) => some true
  | some _ => some false
  | none => none
def sliceT (P : Program) (t : TypeId) : Option TypeId :=
  match P.underlying t with
  | some (.slice e) => some e
  | _ => none
def arrT (P : Program) (t : TypeId) : Option (Nat × TypeId) :=
  match P.underlying t with
  | some (.array n e) => some (n, e)
  | _ => none
def strT (P : Program) (t : TypeId) : Bool :=
  match P.underlying t with
  | some .string => true
  | _ => false
def intT (P : Program) (t : TypeId) : Option IntKind :=
  match P.underlying t with
  | some (.int k) => some k
  | _ => none
def mapT (P : Program) (t : TypeId) : Option (TypeId × TypeId) :=
  match P.underlying t with
  | some (.map k e) => some (k, e)
  | _ => none
/-- Where a field begins, its type. -/
def fldT (P : Program) (t : TypeId) (f : Nat) : Option (Nat × TypeId) :=
  match P.underlying t with
  | some (.struct fs) => (fs[f]?).map fun x => (x.offset, x.type)
  | _ => none

def ofConst : Value → AV
  | .int k n => .int k n
  | .bool b => .bool b
  | .string s => .str s.data.toList
  | .pointer none => .nilp
  | .slice none 0 0 => .nils
  | .map none => .nilm
  | .nilFunc => .nilf
  | _ => .junk
def ofZero : Value → List AV
  | .agg cs => cs.toList.map ofConst
  | v => [ofConst v]
def AV.cells : AV → List AV
  | .agg xs => xs
  | v => [v]
/-- May it lie in one cell? -/
def AV.isCell : AV → Bool
  | .junk | .agg _ | .tup _ => false
  | _ => true
def zeroT (P : Program) (t : TypeId) : Option (List AV) :=
  match (P.info? t).bind (·.zero) with
  | some z => if (ofZero z).all AV.isCell && (szOf P t == some (ofZero z).length) && !(ofZero z).isEmpty then some (ofZero z) else none
  | none => none
def zeroV (P : Program) (t : TypeId) : Option AV :=
  match (P.info? t).bind (·.zero) with
  | some (.agg cs) => some (.agg (cs.toList.map ofConst))
  | some v => some (ofConst v)
  | none => none

def ev (s : Slots) : Operand → AV
  | .tmp t => s t
  | .const v => ofConst v
  | .func f => .fn f []
  | .global _ => .junk

/-! ### operations -/
/-- A value of a type out of cells. -/
def ldCells (P : Program) (t : TypeId) (cs : List AV) : Option AV :=
  match aggT P t, szOf P t, cs with
  | some true, some n, cs => if n ≤ cs.length then some (.agg (cs.take n)) else none
  | some false, _, c :: _ => some c
  | _, _, _ => none
def aload (P : Program) (t : TypeId) (p : AV) (H : AHeap) : Option AV :=
  match p with
  | .ip cs => ldCells P t cs
  | .ptr id i j =>
    match H[id]? with
    | some (.arr _ _ _ es) =>
      match es[i]? with
      | some e => ldCells P t (e.drop j)
      | none => none
    | _ => none
  | _ => none
def astore (P : Program) (t : TypeId) (p x : AV) (H : AHeap) : Option AHeap :=
  match p with
  | .ptr id i j =>
    match H[id]? with
    | some (.arr ty ap fz es) =>
      match es[i]? with
      | some e => if fz ≤ i ∧ szOf P t = some x.cells.length ∧ x.cells.all AV.isCell = true ∧ j + x.cells.length ≤ e.length then
          some (H.set id (.arr ty ap fz (es.set i (e.take j ++ x.cells ++ e.drop (j + x.cells.length))))) else none
      | none => none
    | _ => none
  | _ => none
/-- A new object of one element. -/
def anew (t : TypeId) (cs : List AV) (H : AHeap) : AV × AHeap := (.ptr H.length 0 0, H ++ [.arr t true 0 [cs]])
def abox (P : Program) (t : TypeId) (x : AV) (H : AHeap) : Option (AV × AHeap) :=
  if szOf P t = some x.cells.length ∧ x.cells.all AV.isCell = true ∧ x.cells ≠ [] then some (anew t x.cells H) else none
def afill (P : Program) (t : TypeId) : List (Nat × AV) → List AV → Option (List AV)
  | [], cs => some cs
  | (f, x) :: rest, cs =>
    match fldT P t f with
    | some (off, ty) =>
      if szOf P ty = some x.cells.length ∧ x.cells.all AV.isCell = true ∧ off + x.cells.length ≤ cs.length then
        afill P t rest (cs.take off ++ x.cells ++ cs.drop (off + x.cells.length)) else none
    | none => none
/-- A struct all of whose fields' sizes are known. -/
def structT (P : Program) (t : TypeId) : Bool :=
  match P.underlying t with
  | some (.struct fs) => fs.toList.all fun f => (szOf P f.type).isSome
  | _ => false
def abuild (P : Program) (t : TypeId) (parts : List (Nat × AV)) : Option AV :=
  if structT P t then
    match zeroT P t with
    | some z => (afill P t parts z).map .agg
    | none => none
  else none
def afillS (n : Nat) : List (Nat × AV) → List (List AV) → Option (List (List AV))
  | [], es => some es
  | (i, x) :: rest, es => if i < es.length ∧ x.cells.length = n ∧ x.cells.all AV.isCell = true then afillS n rest (es.set i x.cells) else none
def abuildSlice (P : Program) (t : TypeId) (len : Nat) (parts : List (Nat × AV)) (H : AHeap) : Option (AV × AHeap) :=
  match sliceT P t with
  | some e =>
    match zeroT P e with
    | some z => if len * z.length ≤ 16777216 then (afillS z.length parts (List.replicate len z)).map fun es => (.hs H.length 0 len, H ++ [.arr e true 0 es]) else none
    | none => none
  | none => none
def abinInt (op : BinOp) (k : IntKind) (a b : Int) : Option AV :=
  match op with
  | .add => some (.int k (k.wrap (a + b)))
  | .sub => some (.int k (k.wrap (a - b)))
  | .mul => some (.int k (k.wrap (a * b)))
  | .quo => if b = 0 then none else some (.int k (k.wrap (a.tdiv b)))
  | .rem => if b = 0 then none else some (.int k (a.tmod b))
  | .eql => some (.bool (decide (a = b)))
  | .neq => some (.bool (!decide (a = b)))
  | .lss => some (.bool (decide (a < b)))
  | .leq => some (.bool (decide (a ≤ b)))
  | .gtr => some (.bool (decide (b < a)))
  | .geq => some (.bool (decide (b ≤ a)))
  | .shl => if 0 ≤ b ∧ b ≤ 64 then some (.int k (k.wrap (a * 2 ^ min b.toNat k.bits))) else none
  | .shr => if 0 ≤ b ∧ b ≤ 64 then some (.int k (a.fdiv (2 ^ min b.toNat k.bits))) else none
  | .or => some (.int k (k.wrap ((BitVec.ofInt k.bits a ||| BitVec.ofInt k.bits b).toNat)))
  | .and => some (.int k (k.wrap ((BitVec.ofInt k.bits a &&& BitVec.ofInt k.bits b).toNat)))
  | _ => none
def abinStr (op : BinOp) (a b : List UInt8) : Option AV :=
  match op with
  | .add => if a.length + b.length ≤ 9223372036854775807 then some (.str (a ++ b)) else none
  | .eql => some (.bool (a == b))
  | .neq => some (.bool !(a == b))
  | .lss => some (.bool (Op.bytesLess a b))
  | .leq => some (.bool (Op.bytesLess a b || a == b))
  | .gtr => some (.bool !(Op.bytesLess a b || a == b))
  | .geq => some (.bool !(Op.bytesLess a b))
  | _ => none
/-- '==' of cells that are numbers, bools or texts. -/
def cellEq : AV → AV → Option Bool
  | .int k a, .int k' b => if k = k' then some (decide (a = b)) else none
  | .bool a, .bool b => some (a == b)
  | .str a, .str b => some (a == b)
  | _, _ => none
def cellsEq : List AV → List AV → Option Bool
  | [], [] => some true
  | x :: xs, y :: ys =>
    match cellEq x y, cellsEq xs ys with
    | some a, some b => some (a && b)
    | _, _ => none
  | _, _ => none
/-- Is it a struct whose fields are numbers, bools and texts, a cell each, one behind the other? -/
def plainFields (P : Program) : Nat → List Field → Bool
  | _, [] => true
  | i, f :: fs => f.name != "_" && f.offset == i && (match P.underlying f.type with | some (.int _) | some .bool | some .string => true | _ => false) && plainFields P (i + 1) fs
def plainT (P : Program) (t : TypeId) : Bool :=
  match P.underlying t with
  | some (.struct fs) => plainFields P 0 fs.toList && !P.stoodInHeld t && !P.eqGuardType P.depth t
  | _ => false
/-- Numbers of the kinds that a plain struct's fields have: cells that fit them. -/
def plainCells (P : Program) : List Field → List AV → Bool
  | [], [] => true
  | f :: fs, c :: cs => (match P.underlying f.type, c with | some (.int _), .int _ _ => true | some .bool, .bool _ => true | some .string, .str _ => true | _, _ => false) && plainCells P fs cs
  | _, _ => false
def fitsT (P : Program) (t : TypeId) (cs : List AV) : Bool :=
  match P.underlying t with
  | some (.struct fs) => plainCells P fs.toList cs
  | _ => false
def isNilT (P : Program) (t : TypeId) : Bool :=
  match P.underlying t with
  | some (.pointer _) | some (.map _ _) | some (.func _ _ _) | some (.slice _) => true
  | _ => false
def ptrT (P : Program) (t : TypeId) : Bool :=
  match P.underlying t with
  | some (.pointer _) => true
  | _ => false
def eqNil (P : Program) (t : TypeId) : AV → AV → Option Bool
  | .nilp, .nilp => if ptrT P t then some true else none
  | .ptr _ _ _, .nilp | .nilp, .ptr _ _ _ | .ip _, .nilp | .nilp, .ip _ => if ptrT P t then some false else none
  | .nilm, .nilm => if (mapT P t).isSome then some true else none
  | .mp _, .nilm | .nilm, .mp _ => if (mapT P t).isSome then some false else none
  | _, _ => none
def boolT (P : Program) (t : TypeId) : Bool :=
  match P.underlying t with
  | some .bool => true
  | _ => false
def abin (P : Program) (op : BinOp) (t : TypeId) (x y : AV) : Option AV :=
  match x, y with
  | .int k a, .int k' b =>
    match op with
    | .shl | .shr => abinInt op k a b
    | _ => if k = k' then abinInt op k a b else none
  | .str a, .str b => abinStr op a b
  | .bool a, .bool b => if boolT P t then match op with
    | .eql => some (.bool (a == b))
    | .neq => some (.bool !(a == b))
    | _ => none else none
  | .agg xs, .agg ys => if plainT P t = true ∧ fitsT P t xs = true ∧ fitsT P t ys = true then match op with
    | .eql => (cellsEq xs ys).map .bool
    | .neq => (cellsEq xs ys).map fun b => .bool !b
    | _ => none else none
  | x, y => match op with
    | .eql => (eqNil P t x y).map .bool
    | .neq => (eqNil P t x y).map fun b => .bool !b
    | _ => none
def aunop (op : UnOp) (x : AV) : Option AV :=
  match op, x with
  | .not, .bool b => some (.bool !b)
  | .neg, .int k n => some (.int k (k.wrap (0 - n)))
  | _, _ => none
/-- The texts of cells that are bytes. -/
def bytesOf : List (List AV) → Option (List UInt8)
  | [] => some []
  | [.int .u8 n] :: rest => (bytesOf rest).map (UInt8.ofNat n.toNat :: ·)
  | _ => none
def aelems (x : AV) (H : AHeap) : Option (List (List AV)) :=
  match x with
  | .sl es => some es
  | .nils => some []
  | .hs id i n =>
    match H[id]? with
    | some (.arr _ _ _ es) => if i + n ≤ es.length then some ((es.drop i).take n) else none
    | _ => none
  | _ => none
def aconvert (P : Program) (src dst : TypeId) (x : AV) (H : AHeap) : Option (AV × AHeap) :=
  match x with
  | .int _ n => match intT P src, intT P dst with
    | some _, some k => some (.int k (k.wrap n), H)
    | _, _ => none
  | .str s => if strT P src then (if strT P dst then some (.str s, H) else
      match sliceT P dst with
      | some e => if intT P e = some .u8 ∧ szOf P e = some 1 ∧ s.length ≤ 9223372036854775807 then some (.hs H.length 0 s.length, H ++ [.arr e false 0 (s.map fun b => [.int .u8 b.toNat])]) else none
      | none => none) else none
  | x => match sliceT P src with
    | some e => if strT P dst = true ∧ intT P e = some .u8 then ((aelems x H).bind bytesOf).map fun s => (.str s, H) else none
    | none => none
def asBound (v : Option AV) (d : Nat) : Option Nat :=
  match v with
  | none => some d
  | some (.int _ n) => if 0 ≤ n then some n.toNat else none
  | _ => none
def aslice (P : Program) (t : TypeId) (x : AV) (lo hi : Option AV) (H : AHeap) : Option AV :=
  match x with
  | .str s => if strT P t then
      match asBound lo 0, asBound hi s.length with
      | some l, some h => if l ≤ h ∧ h ≤ s.length then some (.str ((s.take h).drop l)) else none
      | _, _ => none
      else none
  | .sl es =>
    match sliceT P t with
    | some e => match szOf P e, asBound lo 0, asBound hi es.length with
      | some z, some l, some h => if l ≤ h ∧ h ≤ es.length ∧ (∀ c ∈ es, c.length = z) then some (.sl ((es.take h).drop l)) else none
      | _, _, _ => none
    | none => none
  | .hs id i n =>
    match sliceT P t, H[id]? with
    | some e, some (.arr ty _ _ _) => match asBound lo 0, asBound hi n with
      | some l, some h => if l ≤ h ∧ h ≤ n ∧ ty = e then (if 0 < l ∧ h ≤ l then some (.sl []) else some (.hs id (i + l) (h - l))) else none
      | _, _ => none
    | _, _ => none
  | _ => none
def aindexAddr (P : Program) (t : TypeId) (x ix : AV) (H : AHeap) : Option AV :=
  match ix with
  | .int _ q =>
    if 0 ≤ q then
      match x with
      | .sl es =>
        match sliceT P t, es[q.toNat]? with
        | some e, some c => if szOf P e = some c.length then some (.ip c) else none
        | _, _ => none
      | .hs id i n =>
        match sliceT P t, H[id]? with
        | some e, some (.arr ty _ _ _) => if q.toNat < n ∧ ty = e then some (.ptr id (i + q.toNat) 0) else none
        | _, _ => none
      | .ptr id i j =>
        match arrT P t with
        | some (n, e) => match szOf P e with
          | some z => if q.toNat < n then some (.ptr id i (j + q.toNat * z)) else none
          | none => none
        | none => none
      | .ip cs =>
        match arrT P t with
        | some (n, e) => match szOf P e with
          | some z => if q.toNat < n then some (.ip (cs.drop (q.toNat * z))) else none
          | none => none
        | none => none
      | _ => none
    else none
  | _ => none
def aindex (P : Program) (t : TypeId) (x ix : AV) : Option AV :=
  match x, ix with
  | .str s, .int _ q => if strT P t = true ∧ 0 ≤ q then
      match s[q.toNat]? with
      | some b => some (.int .u8 b.toNat)
      | none => none
      else none
  | .agg cs, .int _ q =>
    match arrT P t with
    | some (n, e) => match szOf P e with
      | some z => if 0 ≤ q ∧ q.toNat < n then ldCells P e (cs.drop (q.toNat * z)) else none
      | none => none
    | none => none
  | _, _ => none
def afieldAddr (P : Program) (t : TypeId) (p : AV) (f : Nat) : Option AV :=
  match fldT P t f with
  | some (off, ty) =>
    match szOf P ty with
    | some (_ + 1) => match p with
      | .ptr id i j => some (.ptr id i (j + off))
      | .ip cs => some (.ip (cs.drop off))
      | _ => none
    | _ => none
  | none => none
def afield (P : Program) (t : TypeId) (x : AV) (f : Nat) : Option AV :=
  match fldT P t f, x with
  | some (off, ty), .agg cs => ldCells P ty (cs.drop off)
  | _, _ => none
def findKey : AV → List (AV × AV) → Option (Option AV)
  | _, [] => some none
  | k, (a, v) :: es =>
    match cellEq k a with
    | some true => some (some v)
    | some false => findKey k es
    | none => none
def putKey : AV → AV → List (AV × AV) → Option (List (AV × AV))
  | k, v, [] => some [(k, v)]
  | k, v, (a, u) :: es =>
    match cellEq k a with
    | some true => some ((k, v) :: es)
    | some false => (putKey k v es).map ((a, u) :: ·)
    | none => none
def delKey : AV → List (AV × AV) → Option (List (AV × AV))
  | _, [] => some []
  | k, (a, u) :: es =>
    match cellEq k a with
    | some true => some es
    | some false => (delKey k es).map ((a, u) :: ·)
    | none => none
/-- A key's type: numbers, bools, texts. -/
def keyT (P : Program) (k : TypeId) (x : AV) : Bool :=
  match P.underlying k, x with
  | some (.int k), .int k' _ => k' == k
  | some .bool, .bool _ => true
  | some .string, .str _ => true
  | _, _ => false
def ents (x : AV) (H : AHeap) : Option (List (AV × AV)) :=
  match x with
  | .pm es => some es
  | .nilm => some []
  | .mp id => match H[id]? with
    | some (.map es) => some es
    | _ => none
  | _ => none
def alookup (P : Program) (t : TypeId) (m k : AV) (ok : Bool) (H : AHeap) : Option AV :=
  match mapT P t, ents m H with
  | some (kt, et), some es =>
    if keyT P kt k then
      match findKey k es with
      | some (some v) => some (if ok then .tup [v, .bool true] else v)
      | some none => (zeroV P et).map fun v => if ok then .tup [v, .bool false] else v
      | none => none
    else none
  | _, _ => none
def amapUpdate (P : Program) (t : TypeId) (m k v : AV) (H : AHeap) : Option AHeap :=
  match m, mapT P t with
  | .mp id, some (kt, _) =>
    match H[id]? with
    | some (.map es) => if keyT P kt k then (putKey k v es).map fun es' => H.set id (.map es') else none
    | _ => none
  | _, _ => none
def amakeSlice (P : Program) (t : TypeId) (l c : AV) (H : AHeap) : Option (AV × AHeap) :=
  match l, c, sliceT P t with
  | .int _ a, .int _ b, some e =>
    match zeroT P e, bytesT P e with
    | some z, some by_ => if a = b ∧ 0 ≤ a ∧ a ≤ 9223372036854775807 ∧ (by_ : Int) * a ≤ 281474976710656 then some (.hs H.length 0 a.toNat, H ++ [.arr e true 0 (List.replicate a.toNat z)]) else none
    | _, _ => none
  | _, _, _ => none
def alen (x : AV) (H : AHeap) : Option Int :=
  match x with
  | .str s => some s.length
  | .sl es => some es.length
  | .nils => some 0
  | .hs _ _ n => some n
  | .nilm => some 0
  | .pm es => some es.length
  | .mp id => match H[id]? with
    | some (.map es) => some es.length
    | _ => none
  | _ => none
def lenT (P : Program) (t : TypeId) (x : AV) : Bool :=
  match P.underlying t, x with
  | some .string, .str _ => true
  | some (.slice _), .sl _ | some (.slice _), .nils | some (.slice _), .hs _ _ _ => true
  | some (.map _ _), .nilm | some (.map _ _), .pm _ | some (.map _ _), .mp _ => true
  | _, _ => false
def notIntT (P : Program) (t : TypeId) : Bool :=
  match P.underlying t with
  | some (.int _) => false
  | some _ => true
  | none => false
/-- What is appended: elements; of a text, its bytes. -/
def asrc (x : AV) (H : AHeap) : Option (List (List AV)) :=
  match x with
  | .str s => some (s.map fun b => [.int .u8 b.toNat])
  | x => aelems x H
/-- 'append': nil, or a whole object, which is spent; or a cut of one from its begin that what is appended does not outgrow. -/
def aappend (P : Program) (t t2 : TypeId) (x y : AV) (H : AHeap) : Option (AV × AHeap) :=
  match sliceT P t, asrc y H with
  | some e, some ys =>
    match bytesT P e, szOf P e with
    | some by_, some (_ + 1) =>
      if (∀ c ∈ ys, szOf P e = some c.length ∧ c.all AV.isCell = true) ∧ notIntT P t2 = true ∧ (zeroT P e).isSome = true then
        match x with
        | .nils => if (ys.length : Int) ≤ 9223372036854775807 ∧ ys.length * by_ ≤ 140737488355328 then (if ys.length = 0 then some (.nils, H) else some (.hs H.length 0 ys.length, H ++ [.arr e true 0 ys])) else none
        | .hs id i n =>
          match H[id]? with
          | some (.arr ty ap fz es) =>
            if ty = e ∧ ap = true ∧ i = 0 ∧ n = es.length ∧ fz ≤ n ∧ ((n + ys.length : Nat) : Int) ≤ 9223372036854775807 ∧ (n + ys.length) * by_ ≤ 140737488355328 then
              (if ys.length = 0 then some (.hs id 0 n, H) else some (.hs H.length 0 (n + ys.length), H.set id .dead ++ [.arr e true fz (es ++ ys)]))
            else if ty = e ∧ i = 0 ∧ n + ys.length ≤ es.length ∧ fz ≤ n then
              some (.hs id 0 (n + ys.length), H.set id (.arr ty ap fz (es.take n ++ ys ++ es.drop (n + ys.length))))
            else none
          | _ => none
        | _ => none
      else none
    | _, _ => none
  | _, _ => none
/-- 'copy' onto a heap slice. -/
def acopy (P : Program) (t : TypeId) (x y : AV) (H : AHeap) : Option (AV × AHeap) :=
  match sliceT P t, asrc y H with
  | some e, some ys =>
    if (∀ c ∈ ys, szOf P e = some c.length ∧ c.all AV.isCell = true) ∧ (szOf P e).isSome = true then
      match x with
      | .nils => some (.int .i64 0, H)
      | .hs id i n =>
        match H[id]? with
        | some (.arr ty ap fz es) =>
          if ty = e ∧ i + n ≤ es.length ∧ fz ≤ i then
            let m := min ys.length n
            some (.int .i64 m, H.set id (.arr ty ap fz (es.take i ++ ys.take m ++ es.drop (i + m))))
          else none
        | _ => none
      | _ => none
    else none
  | _, _ => none
def adelete (P : Program) (t : TypeId) (m k : AV) (H : AHeap) : Option AHeap :=
  match m, mapT P t with
  | .mp id, some (kt, _) =>
    match H[id]? with
    | some (.map es) => if keyT P kt k then (delKey k es).map fun es' => H.set id (.map es') else none
    | _ => none
  | _, _ => none
def abuiltin (P : Program) (b : Builtin) (ts : List TypeId) (xs : List AV) (H : AHeap) : Option (AV × AHeap) :=
  match b, ts, xs with
  | .len, [t], [x] => if lenT P t x then (alen x H).map fun n => (.int .i64 n, H) else none
  | .append, [t, t2], [x, y] => aappend P t t2 x y H
  | .copy, [t, _], [x, y] => acopy P t x y H
  | .delete, [t, _], [x, k] => (adelete P t x k H).map fun H' => (.tup [], H')
  | .min, _, [.int k a, .int k' b] => if k = k' then some (.int k (if b < a then b else a), H) else none
  | .max, _, [.int k a, .int k' b] => if k = k' then some (.int k (if b > a then b else a), H) else none
  | _, _, _ => none

def mapO {α β : Type} (f : α → Option β) : List α → Option (List β)
  | [] => some []
  | a :: as =>
    match f a with
    | some b => (mapO f as).map (b :: ·)
    | none => none

/-! ### values as they go into and come out of a call that leaves the heap alone -/
def frz : Nat → AHeap → AV → Option AV
  | _, _, .junk => some .junk
  | _, _, .int k n => some (.int k n)
  | _, _, .bool b => some (.bool b)
  | _, _, .str s => some (.str s)
  | _, _, .sl es => some (.sl es)
  | _, _, .nils => some (.sl [])
  | _, _, .ip cs => some (.ip cs)
  | _, _, .nilp => some .nilp
  | _, _, .nilf => some .nilf
  | _, _, .nilm => some (.pm [])
  | _, _, .pm es => some (.pm es)
  | _, _, .fn f [] => some (.fn f [])
  | n + 1, H, .agg xs => (mapO (frz n H) xs).map .agg
  | n + 1, H, .tup xs => (mapO (frz n H) xs).map .tup
  | n + 1, H, .hs id i m =>
    match H[id]? with
    | some (.arr _ _ _ es) => if i + m ≤ es.length then (mapO (fun e => mapO (frz n H) e) ((es.drop i).take m)).map .sl else none
    | _ => none
  | n + 1, H, .mp id =>
    match H[id]? with
    | some (.map es) => (mapO (fun e => (frz n H e.1).bind fun a => (frz n H e.2).map fun b => (a, b)) es).map .pm
    | _ => none
  | _, _, _ => none
/-- The objects that a value leads to. -/
def reach : Nat → AHeap → AV → List Nat
  | n + 1, H, .agg xs => xs.flatMap (reach n H)
  | n + 1, H, .tup xs => xs.flatMap (reach n H)
  | n + 1, H, .hs id _ _ => id :: match H[id]? with
    | some (.arr _ _ _ es) => es.flatMap fun e => e.flatMap (reach n H)
    | _ => []
  | n + 1, H, .mp id => id :: match H[id]? with
    | some (.map es) => es.flatMap fun e => reach n H e.1 ++ reach n H e.2
    | _ => []
  | _, _, _ => []
def settle1 (H : AHeap) (id : Nat) : AHeap :=
  match H[id]? with
  | some (.arr ty ap fz es) => H.set id (.arr ty ap (max fz es.length) es)
  | some (.map _) => H.set id .dead
  | _ => H
/-- Does it lead to memory? -/
def leads : Nat → AV → Bool
  | _, .sl es => !es.isEmpty
  | _, .ip _ => true
  | _, .pm _ => true
  | _, .fn _ cap => !cap.isEmpty
  | n + 1, .agg xs => xs.any (leads n)
  | n + 1, .tup xs => xs.any (leads n)
  | 0, .agg _ => true
  | 0, .tup _ => true
  | _, _ => false
def depth : Nat := 8
def acallf (cx : Cx) (f : FuncId) (xs : List AV) (H : AHeap) : Option (AV × AHeap) :=
  if cx.pure f then
    match mapO (frz depth H) xs with
    | some ys =>
      match cx.call f ys [] with
      | some (r, H1) =>
        match frz depth H1 r with
        | some z => some (z, if leads depth z then (xs.flatMap (reach depth H)).foldl settle1 H else H)
        | none => none
      | none => none
    | none => none
  else cx.call f xs H

/-- All but calls. -/
def aop0 (P : Program) (o : Op) (s : Slots) (H : AHeap) : Option (AV × AHeap) :=
  let v (x : Option AV) : Option (AV × AHeap) := x.map fun x => (x, H)
  match o with
  | .move x | .assign x => some (ev s x, H)
  | .pick c a b => match ev s c with
    | .bool true => some (ev s a, H)
    | .bool false => some (ev s b, H)
    | _ => none
  | .alloc t => (zeroT P t).map fun z => anew t z H
  | .box t x => abox P t (ev s x) H
  | .build t parts => v (abuild P t (parts.toList.map fun p => (p.1, ev s p.2)))
  | .buildSlice t n parts => abuildSlice P t n (parts.toList.map fun p => (p.1, ev s p.2)) H
  | .load t p => v (aload P t (ev s p) H)
  | .store t p x => (astore P t (ev s p) (ev s x) H).map fun H' => (.junk, H')
  | .nilCheck x => match ev s x with
    | .ptr id i j => some (.ptr id i j, H)
    | .ip cs => some (.ip cs, H)
    | _ => none
  | .binOp op t x y _ => v (abin P op t (ev s x) (ev s y))
  | .unOp op _ x => v (aunop op (ev s x))
  | .convert a b x => aconvert P a b (ev s x) H
  | .makeFunc (.func f) first cap => if first.toList.isEmpty then some (.fn f (cap.toList.map (ev s)), H) else none
  | .makeMap _ none => some (.mp H.length, H ++ [.map []])
  | .makeSlice t l c => amakeSlice P t (ev s l) (ev s c) H
  | .slice t x lo hi none => v (aslice P t (ev s x) (lo.map (ev s)) (hi.map (ev s)) H)
  | .fieldAddr t p f => v (afieldAddr P t (ev s p) f)
  | .field t x f => v (afield P t (ev s x) f)
  | .indexAddr t x i => v (aindexAddr P t (ev s x) (ev s i) H)
  | .index t x i => v (aindex P t (ev s x) (ev s i))
  | .lookup t m k ok => v (alookup P t (ev s m) (ev s k) ok H)
  | .mapUpdate t m k x | .insert t m k x => (amapUpdate P t (ev s m) (ev s k) (ev s x) H).map fun H' => (.junk, H')
  | .range t x => match ev s x with
    | .str l => if strT P t then some (.it H.length, H ++ [.siter l 0]) else none
    | _ => none
  | .next x true => match ev s x with
    | .it id => match H[id]? with
      | some (.siter l pos) =>
        if pos < l.length then some (.tup [.bool true, .int .i64 pos, .int .i32 (Utf8.decode ⟨l.toArray⟩ pos).1], H.set id (.siter l (pos + (Utf8.decode ⟨l.toArray⟩ pos).2)))
        else some (.tup [.bool false], H)
      | _ => none
    | _ => none
  | .extract x i => match ev s x with
    | .tup xs => v (xs[i]?)
    | _ => none
  | _ => none
def acallop (cx : Cx) (c : Call) (s : Slots) (H : AHeap) : Option (AV × AHeap) :=
  match c.callee with
  | .builtin b => abuiltin cx.P b c.argTypes.toList (c.args.toList.map (ev s)) H
  | .value f => match ev s f with
    | .fn g cap => acallf cx g (c.args.toList.map (ev s) ++ cap) H
    | _ => none
  | _ => none
def aop (cx : Cx) (o : Op) (s : Slots) (H : AHeap) : Option (AV × AHeap) :=
  match o with
  | .call c => acallop cx c s H
  | o => aop0 cx.P o s H
theorem aop_not {o : Op} (h : ∀ c, o ≠ .call c) (cx : Cx) (s : Slots) (H : AHeap) : aop cx o s H = aop0 cx.P o s H := by
  cases o <;> first | rfl | exact absurd rfl (h _)

def aput (nt : Nat) (s : Slots) (d : Option Nat) (v : AV) : Option Slots :=
  match d with
  | none => some s
  | some d => if d < nt then some (upd s d v) else none
/-- Is an operation wanted, by its guard's value? What was passed over has none. -/
def guardV (v : AV) (b : Bool) : Option Bool :=
  match v with
  | .bool c => some (c == b)
  | .tup [] => some false
  | _ => none
def wants (ops : Array Oper) (s : Slots) (o : Oper) : Option Bool :=
  match o.guard with
  | none => some true
  | some (j, b) => match (ops[j]?).bind (·.dst) with
    | some d => guardV (s d) b
    | none => none
def aops (cx : Cx) (nt : Nat) (ops : Array Oper) : List Oper → Slots → AHeap → Option (Slots × AHeap)
  | [], s, H => some (s, H)
  | o :: rest, s, H =>
    match wants ops s o with
    | some true => match aop cx o.op s H with
      | some (v, H1) => match aput nt s o.dst v with
        | some s1 => aops cx nt ops rest s1 H1
        | none => none
      | none => none
    | some false => match aput nt s o.dst (.tup []) with
      | some s1 => aops cx nt ops rest s1 H
      | none => none
    | none => none
end Go.Vam
/- The abstract machine VAM: code, regions of open order, loops, calls; loops and calls as limits of numbers of rounds. Definitions and their equations. -/

namespace Go.Vam


/-! ### regions whose order is open -/
/-- May an operation turn the heap? (A call of a function that is told as one that leaves it alone doesn't.) -/
def effOp (cx : Cx) (s : Slots) : Op → Bool
  | .alloc _ | .box _ _ | .buildSlice _ _ _ | .store _ _ _ | .makeMap _ _ | .makeSlice _ _ _ | .mapUpdate _ _ _ _ | .insert _ _ _ _ | .range _ _ | .next _ _ | .convert _ _ _ => true
  | .call c => match c.callee with
    | .builtin .append | .builtin .copy | .builtin .delete => true
    | .builtin _ => false
    | .value f => match ev s f with
      | .fn g _ => !cx.pure g
      | _ => true
    | _ => true
  | _ => false

/-- The bits of the operations that every order has ahead of number i. -/
def preOf (ops : Array Oper) : Array Nat := Region.before ops
def isPre (pre : Array Nat) (i j : Nat) : Bool := (pre.getD j 0).testBit i
def opTmps (o : Oper) : List Tmp := o.op.operands.toList.filterMap fun | .tmp t => some t | _ => none
/-- What an operation reads: its operands, its guard's temporary. -/
def readsOf (ops : Array Oper) (o : Oper) : List Tmp :=
  opTmps o ++ match o.guard with
    | some (j, _) => (((ops[j]?).bind (·.dst)).toList)
    | none => []
def ordered (pre : Array Nat) (i j : Nat) : Bool := isPre pre i j || isPre pre j i
/-- Every edge that binds in any order leads back; each temporary is written once; who reads and who writes one are in order. -/
def drawStatic (ops : Array Oper) : Bool :=
  let pre := preOf ops
  (ops.toList.zipIdx.all fun (o, i) => o.after.all fun e => !Region.binds .any e || e.on < i) &&
  (ops.toList.zipIdx.all fun (o, i) => ops.toList.zipIdx.all fun (p, j) =>
    i == j || match p.dst with
      | some d => (o.dst != some d) && (!(readsOf ops o).contains d || ordered pre i j)
      | none => true)

/-- Does an operation look at the heap? -/
def heeds : Op → Bool
  | .move _ | .assign _ | .pick _ _ _ | .build _ _ | .nilCheck _ | .binOp _ _ _ _ _ | .unOp _ _ _ | .makeFunc _ _ _ | .fieldAddr _ _ _ | .field _ _ _ | .index _ _ _ | .extract _ _ => false
  | _ => true
/-- The walk of the text's order: of each operation whether it was wanted, whether it may turn the heap, its value; the slots and the heap ahead of it; the heap behind it. -/
structure Trail where
  want : Bool
  eff : Bool
  val : AV
  s : Slots
  H : AHeap
  H1 : AHeap
def atrail (cx : Cx) (nt : Nat) (ops : Array Oper) : List Oper → Slots → AHeap → Option (List Trail × Slots × AHeap)
  | [], s, H => some ([], s, H)
  | o :: rest, s, H =>
    match wants ops s o with
    | some true => match aop cx o.op s H with
      | some (v, H1) => match aput nt s o.dst v with
        | some s1 => match atrail cx nt ops rest s1 H1 with
          | some (tr, s2, H2) => some (⟨true, effOp cx s o.op, v, s, H, H1⟩ :: tr, s2, H2)
          | none => none
        | none => none
      | none => none
    | some false => match aput nt s o.dst (.tup []) with
      | some s1 => match atrail cx nt ops rest s1 H with
        | some (tr, s2, H2) => some (⟨false, false, .tup [], s, H, H⟩ :: tr, s2, H2)
        | none => none
      | none => none
    | none => none
/-- Which of a trail's operations turn the heap. -/
def flags (tr : List Trail) : List Bool := tr.map (·.eff)
/-- How many of the first n do. -/
def effs : List Bool → Nat → Nat
  | [], _ => 0
  | _, 0 => 0
  | b :: fl, n + 1 => (if b then 1 else 0) + effs fl n
/-- The heap behind the first c of them. -/
def heapAt : List Trail → AHeap → Nat → AHeap
  | [], H', _ => H'
  | t :: tr, H', c => if t.eff then (match c with
    | 0 => t.H
    | c + 1 => heapAt tr H' c) else heapAt tr H' c
def allIx (fl : List Bool) (p : Nat → Bool → Bool) : Bool := fl.zipIdx.all fun x => p x.2 x.1
/-- May number i come up when just c of those that turn the heap have been done? -/
def mayCome (pre : Array Nat) (fl : List Bool) (i c : Nat) : Bool :=
  allIx fl fun j b => !b || (if effs fl j < c then !isPre pre i j else !isPre pre j i)
/-- Those that turn the heap are in order. -/
def effOrdered (pre : Array Nat) (fl : List Bool) : Bool :=
  allIx fl fun i a => allIx fl fun j b => !(a && b && decide (i < j)) || isPre pre i j
/-- What looks at the heap, doesn't turn it, and may come up in another heap than in the text's order. -/
def pairs (ops : Array Oper) (fl : List Bool) : List (Nat × Nat) :=
  (List.range fl.length).flatMap fun i => ((List.range (effs fl fl.length + 1)).filter fun c =>
    !fl.getD i true && ((ops[i]?).map fun o => heeds o.op).getD true && c != effs fl i && mayCome (preOf ops) fl i c).map fun c => (i, c)
def quiet (tr : List Trail) : Prop := ∀ t ∈ tr, t.eff = false → t.H1 = t.H
def stillAt (cx : Cx) (ops : Array Oper) (tr : List Trail) (H' : AHeap) (p : Nat × Nat) : Prop :=
  ∀ t o, tr[p.1]? = some t → ops[p.1]? = some o → t.want = true → aop cx o.op t.s (heapAt tr H' p.2) = some (t.val, heapAt tr H' p.2)
/-- What doesn't turn the heap tells the same in every heap in which it may come up. -/
def steady (cx : Cx) (ops : Array Oper) (tr : List Trail) (H' : AHeap) : Prop := quiet tr ∧ ∀ p ∈ pairs ops (flags tr), stillAt cx ops tr H' p
open Classical in
noncomputable def adraw (cx : Cx) (nt : Nat) (ops : Array Oper) (s : Slots) (H : AHeap) : Option (Slots × AHeap) :=
  match atrail cx nt ops ops.toList s H with
  | some (tr, s', H') => if drawStatic ops = true ∧ effOrdered (preOf ops) (flags tr) = true ∧ steady cx ops tr H' then some (s', H') else none
  | none => none

/-! ### code -/
noncomputable def acode (cx : Cx) (nt : Nat) : Code → ARun
  | .skip, s, H => some (.nrm, s, H)
  | .label _, s, H => some (.nrm, s, H)
  | .region _ ops draw, s, H =>
    match (if draw then adraw cx nt ops s H else aops cx nt ops ops.toList s H) with
    | some (s', H') => some (.nrm, s', H')
    | none => none
  | .seq a b, s, H =>
    match acode cx nt a s H with
    | some (.nrm, s', H') => acode cx nt b s' H'
    | r => r
  | .cond c t e, s, H =>
    match ev s c with
    | .bool true => acode cx nt t s H
    | .bool false => acode cx nt e s H
    | _ => none
  | .block id b, s, H =>
    match acode cx nt b s H with
    | some (.ext j, s', H') => if j = id then some (.nrm, s', H') else some (.ext j, s', H')
    | r => r
  | .loop b, s, H => cx.loop (acode cx nt b) s H
  | .scope b, s, H => acode cx nt b s H
  | .exit id, s, H => some (.ext id, s, H)
  | .ret, s, H => some (.ret, s, H)
  | _, _, _ => none

def ares1 (P : Program) (s : Slots) (H : AHeap) : ResultVar → Option AV
  | .tmp t => some (s t)
  | .cell p ty => aload P ty (s p) H
def ares (P : Program) (rs : Array ResultVar) (s : Slots) (H : AHeap) : Option AV :=
  match mapO (ares1 P s H) rs.toList with
  | some [v] => some v
  | some vs => some (.tup vs)
  | none => none
/-- The slots at a call's begin. -/
def s0 (xs : List AV) : Slots := fun t => xs.getD t .junk
noncomputable def abody (cx : Cx) (f : FuncId) (xs : List AV) (H : AHeap) : Option (AV × AHeap) :=
  match cx.P.funcs[f]? with
  | some fn =>
    match fn.body with
    | some c =>
      if xs.length ≤ fn.ntmps ∧ fn.name ≠ "runtime.NumGoroutine" then
        match acode cx fn.ntmps c (s0 xs) H with
        | some (.nrm, s, H') | some (.ret, s, H') => (ares cx.P fn.results s H').map fun v => (v, H')
        | _ => none
      else none
    | none => none
  | none => none

/-! ### rounds, and limits -/
def aloopN (b : ARun) : Nat → ARun
  | 0, _, _ => none
  | n + 1, s, H =>
    match b s H with
    | some (.nrm, s', H') => aloopN b n s' H'
    | r => r
/-- What is known of the functions that are no Go text of the program's: pure : which ones leave the heap alone; ext : which ones are told beside. -/
structure Env where
  P : Program
  pure : FuncId → Bool
  ext : FuncId → Option (List AV → AHeap → Option (AV × AHeap))
noncomputable def acallN (E : Env) : Nat → ACall
  | 0, _, _, _ => none
  | k + 1, f, xs, H =>
    match E.ext f with
    | some g => g xs H
    | none => abody { P := E.P, call := acallN E k, loop := fun b => aloopN b k, pure := E.pure } f xs H
noncomputable def cxN (E : Env) (k : Nat) : Cx := { P := E.P, call := acallN E k, loop := fun b => aloopN b k, pure := E.pure }
open Classical in
noncomputable def lim {α : Type} (g : Nat → Option α) : Option α := if h : ∃ k r, g k = some r then g (Classical.choose h) else none
noncomputable def callV (E : Env) : ACall := fun f xs H => lim fun k => acallN E k f xs H
noncomputable def loopV (b : ARun) : ARun := fun s H => lim fun k => aloopN b k s H
noncomputable def cxV (E : Env) : Cx := { P := E.P, call := callV E, loop := loopV, pure := E.pure }
end Go.Vam
/- The abstract machine VAM: more rounds tell the same; what the limit tells, some number of rounds tells. -/

namespace Go.Vam

theorem lim_some {α : Type} {g : Nat → Option α} {r : α} (h : lim g = some r) : ∃ k, g k = some r := by
  unfold lim at h
  split at h
  · exact ⟨_, h⟩
  · cases h
theorem lim_of {α : Type} {g : Nat → Option α} (hm : ∀ k r, g k = some r → g (k + 1) = some r) {k : Nat} {r : α} (h : g k = some r) : lim g = some r := by
  have up : ∀ d k r, g k = some r → g (k + d) = some r := by
    intro d
    induction d with
    | zero => intro k r h; exact h
    | succ d ih => intro k r h; exact hm _ _ (ih k r h)
  unfold lim
  have hex : ∃ k r, g k = some r := ⟨k, r, h⟩
  rw [dif_pos hex]
  obtain ⟨r', hr'⟩ := Classical.choose_spec hex
  have a := up (Classical.choose hex) k r h
  have b := up k _ r' hr'
  rw [Nat.add_comm] at b
  rw [a] at b
  rw [hr', b]

def ALe (b b' : ARun) : Prop := ∀ s H r, b s H = some r → b' s H = some r
def CLe (c c' : ACall) : Prop := ∀ f xs H r, c f xs H = some r → c' f xs H = some r
structure XLe (x x' : Cx) : Prop where
  P : x'.P = x.P
  pure : x'.pure = x.pure
  call : CLe x.call x'.call
  loop : ∀ b b', ALe b b' → ALe (x.loop b) (x'.loop b')

theorem acallf_mono {x x' : Cx} (h : XLe x x') {f : FuncId} {xs : List AV} {H : AHeap} {r : AV × AHeap} (he : acallf x f xs H = some r) : acallf x' f xs H = some r := by
  unfold acallf at *
  rw [h.pure]
  split at he
  · rename_i hp
    rw [if_pos hp]
    cases hm : mapO (frz depth H) xs with
    | none => rw [hm] at he; cases he
    | some ys =>
      rw [hm] at he
      simp only at he ⊢
      cases hc : x.call f ys [] with
      | none => rw [hc] at he; cases he
      | some y => rw [hc] at he; rw [h.call _ _ _ _ hc]; exact he
  · rename_i hp
    rw [if_neg hp]
    exact h.call _ _ _ _ he
theorem aop_mono {x x' : Cx} (h : XLe x x') {o : Op} {s : Slots} {H : AHeap} {r : AV × AHeap} (he : aop x o s H = some r) : aop x' o s H = some r := by
  by_cases hc : ∃ c, o = .call c
  · obtain ⟨c, rfl⟩ := hc
    change acallop x c s H = some r at he
    change acallop x' c s H = some r
    unfold acallop at *
    rw [h.P]
    split
    · rename_i b hb; rw [hb] at he; exact he
    · rename_i f hf
      rw [hf] at he
      simp only at he
      split
      · rename_i g cap hg; rw [hg] at he; exact acallf_mono h he
      · rename_i hg
        split at he
        · rename_i g cap hg'; exact absurd hg' (hg g cap)
        · cases he
    · rename_i h1 h2
      split at he
      · rename_i b hb; exact absurd hb (h1 b)
      · rename_i f hf; exact absurd hf (h2 f)
      · cases he
  · have hn : ∀ c, o ≠ .call c := fun c e => hc ⟨c, e⟩
    rw [aop_not hn] at he ⊢
    rw [h.P]
    exact he
theorem aops_mono {x x' : Cx} (h : XLe x x') (nt : Nat) (ops : Array Oper) : ∀ (l : List Oper) (s : Slots) (H : AHeap) (r : Slots × AHeap), aops x nt ops l s H = some r → aops x' nt ops l s H = some r
  | [], s, H, r, he => he
  | o :: rest, s, H, r, he => by
    unfold aops at *
    cases hw : wants ops s o with
    | none => rw [hw] at he; cases he
    | some b =>
      rw [hw] at he
      cases b with
      | false =>
        simp only at he ⊢
        cases hp : aput nt s o.dst (.tup []) with
        | none => rw [hp] at he; cases he
        | some s1 => rw [hp] at he; exact aops_mono h nt ops rest _ _ _ he
      | true =>
        simp only at he ⊢
        cases ho : aop x o.op s H with
        | none => rw [ho] at he; cases he
        | some y =>
          obtain ⟨v, H1⟩ := y
          rw [ho] at he
          rw [aop_mono h ho]
          simp only at he ⊢
          cases hp : aput nt s o.dst v with
          | none => rw [hp] at he; cases he
          | some s1 => rw [hp] at he; exact aops_mono h nt ops rest _ _ _ he
theorem effOp_same {x x' : Cx} (h : x'.pure = x.pure) (s : Slots) (o : Op) : effOp x' s o = effOp x s o := by
  unfold effOp
  rw [h]
theorem atrail_mono {x x' : Cx} (h : XLe x x') (nt : Nat) (ops : Array Oper) : ∀ (l : List Oper) (s : Slots) (H : AHeap) (r : List Trail × Slots × AHeap), atrail x nt ops l s H = some r → atrail x' nt ops l s H = some r
  | [], s, H, r, he => he
  | o :: rest, s, H, r, he => by
    unfold atrail at *
    cases hw : wants ops s o with
    | none => rw [hw] at he; cases he
    | some b =>
      rw [hw] at he
      cases b with
      | false =>
        simp only at he ⊢
        cases hp : aput nt s o.dst (.tup []) with
        | none => rw [hp] at he; cases he
        | some s1 =>
          rw [hp] at he
          simp only at he ⊢
          cases hr : atrail x nt ops rest s1 H with
          | none => rw [hr] at he; cases he
          | some z => rw [hr] at he; rw [atrail_mono h nt ops rest _ _ _ hr]; exact he
      | true =>
        simp only at he ⊢
        cases ho : aop x o.op s H with
        | none => rw [ho] at he; cases he
        | some y =>
          obtain ⟨v, H1⟩ := y
          rw [ho] at he
          rw [aop_mono h ho]
          simp only at he ⊢
          cases hp : aput nt s o.dst v with
          | none => rw [hp] at he; cases he
          | some s1 =>
            rw [hp] at he
            simp only at he ⊢
            cases hr : atrail x nt ops rest s1 H1 with
            | none => rw [hr] at he; cases he
            | some z => rw [hr] at he; rw [atrail_mono h nt ops rest _ _ _ hr, effOp_same h.pure]; exact he
theorem adraw_mono {x x' : Cx} (h : XLe x x') {nt : Nat} {ops : Array Oper} {s : Slots} {H : AHeap} {r : Slots × AHeap} (he : adraw x nt ops s H = some r) : adraw x' nt ops s H = some r := by
  unfold adraw at *
  cases ht : atrail x nt ops ops.toList s H with
  | none => rw [ht] at he; cases he
  | some z =>
    obtain ⟨tr, s', H'⟩ := z
    rw [ht] at he
    rw [atrail_mono h _ _ _ _ _ _ ht]
    simp only at he ⊢
    split at he
    · rename_i hc
      rw [if_pos ⟨hc.1, hc.2.1, hc.2.2.1, fun p hp t o a b d => aop_mono h (hc.2.2.2 p hp t o a b d)⟩]
      exact he
    · cases he
theorem acode_mono {x x' : Cx} (h : XLe x x') (nt : Nat) : ∀ c : Code, ALe (acode x nt c) (acode x' nt c)
  | .skip => fun s H r he => he
  | .label _ => fun s H r he => he
  | .region _ ops draw => fun s H r he => by
    unfold acode at *
    cases draw with
    | true =>
      simp only [if_true] at *
      cases hd : adraw x nt ops s H with
      | none => rw [hd] at he; cases he
      | some y => rw [hd] at he; rw [adraw_mono h hd]; exact he
    | false =>
      simp only [Bool.false_eq_true, if_false] at *
      cases hd : aops x nt ops ops.toList s H with
      | none => rw [hd] at he; cases he
      | some y => rw [hd] at he; rw [aops_mono h nt ops _ _ _ _ hd]; exact he
  | .seq a b => fun s H r he => by
    unfold acode at *
    cases ha : acode x nt a s H with
    | none => rw [ha] at he; cases he
    | some y =>
      rw [ha] at he
      rw [acode_mono h nt a _ _ _ ha]
      obtain ⟨e, s1, H1⟩ := y
      cases e with
      | nrm => exact acode_mono h nt b _ _ _ he
      | ext i => exact he
      | ret => exact he
  | .cond c t e => fun s H r he => by
    unfold acode at *
    split
    · rename_i hc; rw [hc] at he; exact acode_mono h nt t _ _ _ he
    · rename_i hc; rw [hc] at he; exact acode_mono h nt e _ _ _ he
    · rename_i h1 h2
      split at he
      · rename_i hc; exact absurd hc h1
      · rename_i hc; exact absurd hc h2
      · cases he
  | .block id b => fun s H r he => by
    unfold acode at *
    cases ha : acode x nt b s H with
    | none => rw [ha] at he; cases he
    | some y => rw [ha] at he; rw [acode_mono h nt b _ _ _ ha]; exact he
  | .loop b => fun s H r he => by
    unfold acode at *
    exact h.loop _ _ (acode_mono h nt b) _ _ _ he
  | .exit _ => fun s H r he => he
  | .ret => fun s H r he => he
  | .rangeFunc .. => fun s H r he => by unfold acode at he; cases he
  | .scope b => fun s H r he => by unfold acode at he ⊢; exact acode_mono h nt b s H r he
  | .goto _ => fun s H r he => by unfold acode at he; cases he
  | .refuse _ => fun s H r he => by unfold acode at he; cases he
theorem abody_mono {x x' : Cx} (h : XLe x x') {f : FuncId} {xs : List AV} {H : AHeap} {r : AV × AHeap} (he : abody x f xs H = some r) : abody x' f xs H = some r := by
  unfold abody at *
  rw [h.P]
  cases hf : x.P.funcs[f]? with
  | none => rw [hf] at he; cases he
  | some fn =>
    rw [hf] at he
    simp only at he ⊢
    cases hb : fn.body with
    | none => rw [hb] at he; cases he
    | some c =>
      rw [hb] at he
      simp only at he ⊢
      split at he
      · rename_i hc
        rw [if_pos hc]
        cases ha : acode x fn.ntmps c (s0 xs) H with
        | none => rw [ha] at he; cases he
        | some y => rw [ha] at he; rw [acode_mono h fn.ntmps c _ _ _ ha]; exact he
      · cases he

theorem aloopN_mono {b b' : ARun} (h : ALe b b') : ∀ n, ALe (aloopN b n) (aloopN b' n)
  | 0 => fun s H r he => by cases he
  | n + 1 => fun s H r he => by
    unfold aloopN at *
    cases hb : b s H with
    | none => rw [hb] at he; cases he
    | some y =>
      rw [hb] at he
      rw [h _ _ _ hb]
      obtain ⟨e, s1, H1⟩ := y
      cases e with
      | nrm => exact aloopN_mono h n _ _ _ he
      | ext i => exact he
      | ret => exact he
theorem aloopN_succ {b : ARun} : ∀ n, ALe (aloopN b n) (aloopN b (n + 1))
  | 0 => fun s H r he => by cases he
  | n + 1 => fun s H r he => by
    unfold aloopN at *
    cases hb : b s H with
    | none => rw [hb] at he; cases he
    | some y =>
      rw [hb] at he
      obtain ⟨e, s1, H1⟩ := y
      cases e with
      | nrm => exact aloopN_succ n _ _ _ he
      | ext i => exact he
      | ret => exact he
theorem cxN_le_of {E : Env} {k : Nat} (h : CLe (acallN E k) (acallN E (k + 1))) : XLe (cxN E k) (cxN E (k + 1)) :=
  ⟨rfl, rfl, h, fun _ _ hb s H r he => aloopN_succ k s H r (aloopN_mono hb k s H r he)⟩
theorem acallN_succ (E : Env) : ∀ k, CLe (acallN E k) (acallN E (k + 1))
  | 0 => fun f xs H r he => by cases he
  | k + 1 => fun f xs H r he => by
    have ih := acallN_succ E k
    unfold acallN at he ⊢
    cases hx : E.ext f with
    | some g => rw [hx] at he; exact he
    | none => rw [hx] at he; exact abody_mono (cxN_le_of ih) he
theorem cxN_succ (E : Env) (k : Nat) : XLe (cxN E k) (cxN E (k + 1)) := cxN_le_of (acallN_succ E k)
theorem XLe.refl (x : Cx) (h : ∀ b b', ALe b b' → ALe (x.loop b) (x.loop b')) : XLe x x := ⟨rfl, rfl, fun _ _ _ _ h => h, h⟩
theorem cxN_le (E : Env) {j k : Nat} (h : j ≤ k) : XLe (cxN E j) (cxN E k) := by
  induction h with
  | refl => exact ⟨rfl, rfl, fun _ _ _ _ h => h, fun _ _ hb => aloopN_mono hb j⟩
  | step _ ih =>
    rename_i m _
    have h2 := cxN_succ E m
    exact ⟨h2.P.trans ih.P, h2.pure.trans ih.pure, fun f xs H r he => h2.call _ _ _ _ (ih.call _ _ _ _ he), fun _ b' hb s H r he => h2.loop b' b' (fun _ _ _ h => h) _ _ _ (ih.loop _ b' hb _ _ _ he)⟩
theorem acallN_le (E : Env) {j k : Nat} (h : j ≤ k) : CLe (acallN E j) (acallN E k) := (cxN_le E h).call

/-! ### what the limit tells -/
theorem callV_some {E : Env} {f : FuncId} {xs : List AV} {H : AHeap} {r : AV × AHeap} (h : callV E f xs H = some r) : ∃ k, acallN E k f xs H = some r := lim_some h
theorem callV_of {E : Env} {f : FuncId} {xs : List AV} {H : AHeap} {r : AV × AHeap} {k : Nat} (h : acallN E k f xs H = some r) : callV E f xs H = some r :=
  lim_of (g := fun k => acallN E k f xs H) (fun k r h => acallN_succ E k f xs H r h) h
theorem loopV_some {b : ARun} {s : Slots} {H : AHeap} {r : AX × Slots × AHeap} (h : loopV b s H = some r) : ∃ k, aloopN b k s H = some r := lim_some h
theorem loopV_of {b : ARun} {s : Slots} {H : AHeap} {r : AX × Slots × AHeap} {k : Nat} (h : aloopN b k s H = some r) : loopV b s H = some r :=
  lim_of (g := fun k => aloopN b k s H) (fun k r h => aloopN_succ k s H r h) h

/-- From some number of rounds on. -/
def Evn (p : Nat → Prop) : Prop := ∃ K, ∀ k, K ≤ k → p k
theorem Evn.and {p q : Nat → Prop} (h : Evn p) (g : Evn q) : Evn fun k => p k ∧ q k := by
  obtain ⟨K, hK⟩ := h
  obtain ⟨L, hL⟩ := g
  exact ⟨max K L, fun k hk => ⟨hK k (by omega), hL k (by omega)⟩⟩
theorem Evn.mono {p q : Nat → Prop} (h : Evn p) (hq : ∀ k, p k → q k) : Evn q := by
  obtain ⟨K, hK⟩ := h
  exact ⟨K, fun k hk => hq k (hK k hk)⟩
theorem Evn.all {p : Nat → Nat → Prop} : ∀ (n : Nat), (∀ i, i < n → Evn (p i)) → Evn fun k => ∀ i, i < n → p i k
  | 0, _ => ⟨0, fun _ _ i hi => absurd hi (by omega)⟩
  | n + 1, h => ((Evn.all n fun i hi => h i (by omega)).and (h n (by omega))).mono fun k ⟨a, b⟩ i hi => by
    by_cases e : i = n
    · subst e; exact b
    · exact a i (by omega)
theorem Evn.list {α : Type} {q : α → Nat → Prop} : ∀ (l : List α), (∀ x ∈ l, Evn (q x)) → Evn fun k => ∀ x ∈ l, q x k
  | [], _ => ⟨0, fun _ _ x hx => absurd hx (by simp)⟩
  | a :: l, h => ((h a (by simp)).and (Evn.list l fun x hx => h x (by simp [hx]))).mono fun k ⟨p, r⟩ x hx => by
    rcases List.mem_cons.1 hx with e | hx
    · subst e; exact p
    · exact r x hx
theorem Evn.of {p : Nat → Prop} (h : ∀ k, p k) : Evn p := ⟨0, fun k _ => h k⟩

theorem acallf_cont {E : Env} {f : FuncId} {xs : List AV} {H : AHeap} {r : AV × AHeap} (he : acallf (cxV E) f xs H = some r) : Evn fun k => acallf (cxN E k) f xs H = some r := by
  unfold acallf at he
  split at he
  · rename_i hp
    cases hm : mapO (frz depth H) xs with
    | none => rw [hm] at he; cases he
    | some ys =>
      rw [hm] at he
      simp only at he
      cases hc : (cxV E).call f ys [] with
      | none => rw [hc] at he; cases he
      | some y =>
        rw [hc] at he
        obtain ⟨K, hK⟩ := callV_some hc
        refine ⟨K, fun k hk => ?_⟩
        show acallf (cxN E k) f xs H = some r
        unfold acallf
        have hp' : (cxN E k).pure f = true := hp
        rw [if_pos hp', hm]
        simp only
        have : (cxN E k).call f ys [] = some y := acallN_le E hk _ _ _ _ hK
        rw [this]
        exact he
  · rename_i hp
    obtain ⟨K, hK⟩ := callV_some he
    refine ⟨K, fun k hk => ?_⟩
    show acallf (cxN E k) f xs H = some r
    unfold acallf
    have hp' : ¬ (cxN E k).pure f = true := hp
    rw [if_neg hp']
    exact acallN_le E hk _ _ _ _ hK
theorem aop_cont {E : Env} {o : Op} {s : Slots} {H : AHeap} {r : AV × AHeap} (he : aop (cxV E) o s H = some r) : Evn fun k => aop (cxN E k) o s H = some r := by
  by_cases hc : ∃ c, o = .call c
  · obtain ⟨c, rfl⟩ := hc
    change acallop (cxV E) c s H = some r at he
    show Evn fun k => acallop (cxN E k) c s H = some r
    unfold acallop at he
    split at he
    · rename_i b hb; exact Evn.of fun k => by simp only [acallop, hb]; exact he
    · rename_i f hf
      split at he
      · rename_i g cap hg
        exact (acallf_cont he).mono fun k hk => by simp only [acallop, hf, hg]; exact hk
      · cases he
    · cases he
  · have hn : ∀ c, o ≠ .call c := fun c e => hc ⟨c, e⟩
    rw [aop_not hn] at he
    exact Evn.of fun k => by rw [aop_not hn]; exact he
theorem aops_cont {E : Env} (nt : Nat) (ops : Array Oper) : ∀ (l : List Oper) (s : Slots) (H : AHeap) (r : Slots × AHeap), aops (cxV E) nt ops l s H = some r → Evn fun k => aops (cxN E k) nt ops l s H = some r
  | [], s, H, r, he => Evn.of fun _ => he
  | o :: rest, s, H, r, he => by
    unfold aops at he
    cases hw : wants ops s o with
    | none => rw [hw] at he; cases he
    | some b =>
      rw [hw] at he
      cases b with
      | false =>
        simp only at he
        cases hp : aput nt s o.dst (.tup []) with
        | none => rw [hp] at he; cases he
        | some s1 => rw [hp] at he; exact (aops_cont nt ops rest _ _ _ he).mono fun k hk => by simp only [aops, hw, hp]; exact hk
      | true =>
        simp only at he
        cases ho : aop (cxV E) o.op s H with
        | none => rw [ho] at he; cases he
        | some y =>
          obtain ⟨v, H1⟩ := y
          rw [ho] at he
          simp only at he
          cases hp : aput nt s o.dst v with
          | none => rw [hp] at he; cases he
          | some s1 =>
            rw [hp] at he
            exact ((aop_cont ho).and (aops_cont nt ops rest _ _ _ he)).mono fun k ⟨a, b⟩ => by simp only [aops, hw, a, hp]; exact b
theorem atrail_cont {E : Env} (nt : Nat) (ops : Array Oper) : ∀ (l : List Oper) (s : Slots) (H : AHeap) (r : List Trail × Slots × AHeap), atrail (cxV E) nt ops l s H = some r → Evn fun k => atrail (cxN E k) nt ops l s H = some r
  | [], s, H, r, he => Evn.of fun _ => he
  | o :: rest, s, H, r, he => by
    unfold atrail at he
    cases hw : wants ops s o with
    | none => rw [hw] at he; cases he
    | some b =>
      rw [hw] at he
      cases b with
      | false =>
        simp only at he
        cases hp : aput nt s o.dst (.tup []) with
        | none => rw [hp] at he; cases he
        | some s1 =>
          rw [hp] at he
          simp only at he
          cases hr : atrail (cxV E) nt ops rest s1 H with
          | none => rw [hr] at he; cases he
          | some z => rw [hr] at he; exact (atrail_cont nt ops rest _ _ _ hr).mono fun k hk => by simp only [atrail, hw, hp, hk]; exact he
      | true =>
        simp only at he
        cases ho : aop (cxV E) o.op s H with
        | none => rw [ho] at he; cases he
        | some y =>
          obtain ⟨v, H1⟩ := y
          rw [ho] at he
          simp only at he
          cases hp : aput nt s o.dst v with
          | none => rw [hp] at he; cases he
          | some s1 =>
            rw [hp] at he
            simp only at he
            cases hr : atrail (cxV E) nt ops rest s1 H1 with
            | none => rw [hr] at he; cases he
            | some z =>
              rw [hr] at he
              exact ((aop_cont ho).and (atrail_cont nt ops rest _ _ _ hr)).mono fun k ⟨a, b⟩ => by
                simp only [atrail, hw, a, hp, b]
                rw [effOp_same (x := cxV E) (x' := cxN E k) rfl]
                exact he
theorem adraw_cont {E : Env} {nt : Nat} {ops : Array Oper} {s : Slots} {H : AHeap} {r : Slots × AHeap} (he : adraw (cxV E) nt ops s H = some r) : Evn fun k => adraw (cxN E k) nt ops s H = some r := by
  unfold adraw at he
  cases ht : atrail (cxV E) nt ops ops.toList s H with
  | none => rw [ht] at he; cases he
  | some z =>
    obtain ⟨tr, s', H'⟩ := z
    rw [ht] at he
    simp only at he
    split at he
    · rename_i hc
      have hs : Evn fun k => steady (cxN E k) ops tr H' := by
        refine (Evn.list (pairs ops (flags tr)) (q := fun p k => stillAt (cxN E k) ops tr H' p) fun p hp => ?_).mono fun k hk => ⟨hc.2.2.1, hk⟩
        have h1 := hc.2.2.2 p hp
        by_cases hx : ∃ t o, tr[p.1]? = some t ∧ ops[p.1]? = some o ∧ t.want = true
        · obtain ⟨t, o, a, b, d⟩ := hx
          refine (aop_cont (h1 t o a b d)).mono fun k hk t' o' a' b' _ => ?_
          rw [a] at a'
          rw [b] at b'
          cases a'
          cases b'
          exact hk
        · exact Evn.of fun k t o a b d => absurd ⟨t, o, a, b, d⟩ hx
      refine ((atrail_cont nt ops _ _ _ _ ht).and hs).mono fun k ⟨a, b⟩ => ?_
      unfold adraw
      rw [a]
      simp only
      rw [if_pos ⟨hc.1, hc.2.1, b⟩]
      exact he
    · cases he
theorem acode_cont {E : Env} (nt : Nat) : ∀ (c : Code) (s : Slots) (H : AHeap) (r : AX × Slots × AHeap), acode (cxV E) nt c s H = some r → Evn fun k => acode (cxN E k) nt c s H = some r
  | .skip, s, H, r, he => Evn.of fun _ => he
  | .label _, s, H, r, he => Evn.of fun _ => he
  | .region _ ops draw, s, H, r, he => by
    unfold acode at he
    cases draw with
    | true =>
      simp only [if_true] at he
      cases hd : adraw (cxV E) nt ops s H with
      | none => rw [hd] at he; cases he
      | some y => rw [hd] at he; exact (adraw_cont hd).mono fun k hk => by simp only [acode, if_true, hk]; exact he
    | false =>
      simp only [Bool.false_eq_true, if_false] at he
      cases hd : aops (cxV E) nt ops ops.toList s H with
      | none => rw [hd] at he; cases he
      | some y => rw [hd] at he; exact (aops_cont nt ops _ _ _ _ hd).mono fun k hk => by simp only [acode, Bool.false_eq_true, if_false, hk]; exact he
  | .seq a b, s, H, r, he => by
    unfold acode at he
    cases ha : acode (cxV E) nt a s H with
    | none => rw [ha] at he; cases he
    | some y =>
      obtain ⟨e, s1, H1⟩ := y
      rw [ha] at he
      have ia := acode_cont nt a _ _ _ ha
      cases e with
      | nrm => exact (ia.and (acode_cont nt b _ _ _ he)).mono fun k ⟨x, y⟩ => by simp only [acode, x]; exact y
      | ext i => exact ia.mono fun k x => by simp only [acode, x]; exact he
      | ret => exact ia.mono fun k x => by simp only [acode, x]; exact he
  | .cond c t e, s, H, r, he => by
    unfold acode at he
    split at he
    · rename_i hc; exact (acode_cont nt t _ _ _ he).mono fun k x => by simp only [acode, hc]; exact x
    · rename_i hc; exact (acode_cont nt e _ _ _ he).mono fun k x => by simp only [acode, hc]; exact x
    · cases he
  | .block id b, s, H, r, he => by
    unfold acode at he
    cases ha : acode (cxV E) nt b s H with
    | none => rw [ha] at he; cases he
    | some y => rw [ha] at he; exact (acode_cont nt b _ _ _ ha).mono fun k x => by simp only [acode, x]; exact he
  | .loop b, s, H, r, he => by
    unfold acode at he
    obtain ⟨n, hn⟩ := loopV_some he
    have key : ∀ (n : Nat) (s : Slots) (H : AHeap), aloopN (acode (cxV E) nt b) n s H = some r → Evn fun k => aloopN (acode (cxN E k) nt b) n s H = some r := by
      intro n
      induction n with
      | zero => intro s H h; cases h
      | succ n ih =>
        intro s H h
        unfold aloopN at h
        cases hb : acode (cxV E) nt b s H with
        | none => rw [hb] at h; cases h
        | some y =>
          obtain ⟨e, s1, H1⟩ := y
          rw [hb] at h
          have ib := acode_cont nt b _ _ _ hb
          cases e with
          | nrm => exact (ib.and (ih _ _ h)).mono fun k ⟨x, y⟩ => by simp only [aloopN, x]; exact y
          | ext i => exact ib.mono fun k x => by simp only [aloopN, x]; exact h
          | ret => exact ib.mono fun k x => by simp only [aloopN, x]; exact h
    obtain ⟨K, hK⟩ := key n s H hn
    refine ⟨max K n, fun k hk => ?_⟩
    show acode (cxN E k) nt (.loop b) s H = some r
    unfold acode
    show aloopN (acode (cxN E k) nt b) k s H = some r
    have up : ∀ d m, aloopN (acode (cxN E k) nt b) m s H = some r → aloopN (acode (cxN E k) nt b) (m + d) s H = some r := by
      intro d
      induction d with
      | zero => intro m h; exact h
      | succ d ih => intro m h; exact aloopN_succ _ _ _ _ (ih m h)
    have := up (k - n) n (hK k (by omega))
    rw [show n + (k - n) = k from by omega] at this
    exact this
  | .exit _, s, H, r, he => Evn.of fun _ => he
  | .ret, s, H, r, he => Evn.of fun _ => he
  | .rangeFunc .., s, H, r, he => by unfold acode at he; cases he
  | .scope b, s, H, r, he => by
    unfold acode at he
    exact (acode_cont nt b s H r he).mono fun k hk => by unfold acode; exact hk
  | .goto _, s, H, r, he => by unfold acode at he; cases he
  | .refuse _, s, H, r, he => by unfold acode at he; cases he
theorem abody_cont {E : Env} {f : FuncId} {xs : List AV} {H : AHeap} {r : AV × AHeap} (he : abody (cxV E) f xs H = some r) : Evn fun k => abody (cxN E k) f xs H = some r := by
  unfold abody at he
  have hP : (cxV E).P = E.P := rfl
  rw [hP] at he
  cases hf : E.P.funcs[f]? with
  | none => rw [hf] at he; cases he
  | some fn =>
    rw [hf] at he
    simp only at he
    cases hb : fn.body with
    | none => rw [hb] at he; cases he
    | some c =>
      rw [hb] at he
      simp only at he
      split at he
      · rename_i hc
        cases ha : acode (cxV E) fn.ntmps c (s0 xs) H with
        | none => rw [ha] at he; cases he
        | some y =>
          rw [ha] at he
          exact (acode_cont _ c _ _ _ ha).mono fun k x => by
            unfold abody
            have hP' : (cxN E k).P = E.P := rfl
            rw [hP', hf]
            simp only
            rw [hb]
            simp only
            rw [if_pos hc, x]
            exact he
      · cases he
/-- WHAT A BODY TELLS, THE CALL TELLS. -/
theorem callV_body {E : Env} {f : FuncId} {xs : List AV} {H : AHeap} {r : AV × AHeap} (hx : E.ext f = none) (he : abody (cxV E) f xs H = some r) : callV E f xs H = some r := by
  obtain ⟨K, hK⟩ := abody_cont he
  refine callV_of (k := K + 1) ?_
  unfold acallN
  rw [hx]
  exact hK K (Nat.le_refl _)
theorem callV_ext {E : Env} {f : FuncId} {xs : List AV} {H : AHeap} {g : List AV → AHeap → Option (AV × AHeap)} {r : AV × AHeap} (hx : E.ext f = some g) (he : g xs H = some r) : callV E f xs H = some r := by
  refine callV_of (k := 1) ?_
  unfold acallN
  rw [hx]
  exact he
/-- A round that ends as it should, then the rest. -/
theorem loopV_step {b : ARun} {s s' : Slots} {H H' : AHeap} {r : AX × Slots × AHeap} (hb : b s H = some (.nrm, s', H')) (h : loopV b s' H' = some r) : loopV b s H = some r := by
  obtain ⟨k, hk⟩ := loopV_some h
  refine loopV_of (k := k + 1) ?_
  unfold aloopN
  rw [hb]
  exact hk
/-- A round that leaves the loop. -/
theorem loopV_exit {b : ARun} {s s' : Slots} {H H' : AHeap} {i : Nat} (hb : b s H = some (.ext i, s', H')) : loopV b s H = some (.ext i, s', H') :=
  loopV_of (k := 1) (by unfold aloopN; rw [hb])
theorem loopV_ret {b : ARun} {s s' : Slots} {H H' : AHeap} (hb : b s H = some (.ret, s', H')) : loopV b s H = some (.ret, s', H') :=
  loopV_of (k := 1) (by unfold aloopN; rw [hb])
end Go.Vam
/- The abstract machine VAM: what its values and heaps say of Go's memory. -/

namespace Go.Vam
open Go.RowKit

/-- What ids lie at: block, cells of an element. -/
abbrev Pl := List (Nat × Nat)

/-- An abstract value and a value. 'ok b o': cell o of block b is not written any more. -/
inductive VR (P : Program) (ok : Nat → Nat → Prop) (w : World) : Pl → AV → Value → Prop where
  | junk (ρ : Pl) (v : Value) : VR P ok w ρ .junk v
  | int (ρ : Pl) (k : IntKind) (n : Int) : VR P ok w ρ (.int k n) (.int k n)
  | bool (ρ : Pl) (b : Bool) : VR P ok w ρ (.bool b) (.bool b)
  | str (ρ : Pl) (b : ByteArray) : VR P ok w ρ (.str b.data.toList) (.string b)
  | agg (ρ : Pl) (xs : List AV) (vs : List Value) (hl : xs.length = vs.length) (h : ∀ i x, xs[i]? = some x → VR P ok w ρ x (vs.getD i undef)) : VR P ok w ρ (.agg xs) (.agg vs.toArray)
  | tup (ρ : Pl) (xs : List AV) (vs : List Value) (hl : xs.length = vs.length) (h : ∀ i x, xs[i]? = some x → VR P ok w ρ x (vs.getD i undef)) : VR P ok w ρ (.tup xs) (.tuple vs.toArray)
  | sl (ρ : Pl) (es : List (List AV)) (b off sz cap : Nat) (us : Nat → Nat → Value) (hz : ∀ e ∈ es, e.length = sz) (hc : es.length ≤ cap)
      (hm : ∀ i e j x, es[i]? = some e → e[j]? = some x → w.cell? ⟨b, off + i * sz + j, none⟩ = some (us i j) ∧ ok b (off + i * sz + j))
      (h : ∀ i e j x, es[i]? = some e → e[j]? = some x → VR P ok w [] x (us i j)) : VR P ok w ρ (.sl es) (.slice (some ⟨b, off, none⟩) es.length cap)
  | sl0 (ρ : Pl) (a : Option Addr) (cap : Nat) : VR P ok w ρ (.sl []) (.slice a 0 cap)
  | hs (ρ : Pl) (id i n b sz cap : Nat) (ty : TypeId) (hr : ρ[id]? = some (b, sz)) (hn : n ≤ cap) (hs : w.shape? b = some (ty, (i + cap) * sz)) : VR P ok w ρ (.hs id i n) (.slice (some ⟨b, i * sz, none⟩) n cap)
  | nils (ρ : Pl) : VR P ok w ρ .nils (.slice none 0 0)
  | ptr (ρ : Pl) (id i j b sz : Nat) (hr : ρ[id]? = some (b, sz)) : VR P ok w ρ (.ptr id i j) (.pointer (some ⟨b, i * sz + j, none⟩))
  | ip (ρ : Pl) (cs : List AV) (b off : Nat) (us : Nat → Value) (hm : ∀ j x, cs[j]? = some x → w.cell? ⟨b, off + j, none⟩ = some (us j) ∧ ok b (off + j))
      (h : ∀ j x, cs[j]? = some x → VR P ok w [] x (us j)) : VR P ok w ρ (.ip cs) (.pointer (some ⟨b, off, none⟩))
  | nilp (ρ : Pl) : VR P ok w ρ .nilp (.pointer none)
  | fn (ρ : Pl) (f : Nat) (xs : List AV) (vs : List Value) (hl : xs.length = vs.length) (h : ∀ i x, xs[i]? = some x → VR P ok w ρ x (vs.getD i undef)) : VR P ok w ρ (.fn f xs) (.func (.func f) #[] vs.toArray)
  | nilf (ρ : Pl) : VR P ok w ρ .nilf .nilFunc
  | mp (ρ : Pl) (id b sz : Nat) (hr : ρ[id]? = some (b, sz)) : VR P ok w ρ (.mp id) (.map (some b))
  | nilm (ρ : Pl) : VR P ok w ρ .nilm (.map none)
  | pm (ρ : Pl) (es : List (AV × AV)) (b : Nat) (ents : List MapEntry) (ck : Nat) (hb : w.heap[b]? = some (.map ents.toArray ck)) (ho : ∀ o, ok b o) (hl : es.length = ents.length)
      (h1 : ∀ i k v, es[i]? = some (k, v) → VR P ok w [] k ((ents.getD i default).key)) (h2 : ∀ i k v, es[i]? = some (k, v) → VR P ok w [] v ((ents.getD i default).val)) : VR P ok w ρ (.pm es) (.map (some b))
  | pm0 (ρ : Pl) : VR P ok w ρ (.pm []) (.map none)
  | it (ρ : Pl) (id b sz : Nat) (hr : ρ[id]? = some (b, sz)) : VR P ok w ρ (.it id) (.pointer (some ⟨b, 0, none⟩))

/-- From one world to a later one: what is ok stays. -/
structure Stable (ok : Nat → Nat → Prop) (w : World) (ok' : Nat → Nat → Prop) (w' : World) : Prop where
  cell : ∀ b o u, ok b o → w.cell? ⟨b, o, none⟩ = some u → w'.cell? ⟨b, o, none⟩ = some u ∧ ok' b o
  shape : ∀ b s, w.shape? b = some s → w'.shape? b = some s
  map : ∀ b es ck, (∀ o, ok b o) → w.heap[b]? = some (.map es ck) → w'.heap[b]? = some (.map es ck) ∧ ∀ o, ok' b o
theorem Stable.refl (ok : Nat → Nat → Prop) (w : World) : Stable ok w ok w := ⟨fun _ _ _ h g => ⟨g, h⟩, fun _ _ h => h, fun _ _ _ h g => ⟨g, h⟩⟩
theorem Stable.trans {ok ok1 ok2 : Nat → Nat → Prop} {w w1 w2 : World} (h : Stable ok w ok1 w1) (g : Stable ok1 w1 ok2 w2) : Stable ok w ok2 w2 :=
  ⟨fun b o u a c => let ⟨c1, a1⟩ := h.cell b o u a c; g.cell b o u a1 c1, fun b s c => g.shape b s (h.shape b s c), fun b es ck a c => let ⟨c1, a1⟩ := h.map b es ck a c; g.map b es ck a1 c1⟩
def Pre (ρ ρ' : Pl) : Prop := ∀ (i : Nat) (x : Nat × Nat), ρ[i]? = some x → ρ'[i]? = some x
theorem Pre.refl (ρ : Pl) : Pre ρ ρ := fun _ _ h => h
theorem Pre.trans {a b c : Pl} (h : Pre a b) (g : Pre b c) : Pre a c := fun i x e => g i x (h i x e)
theorem Pre.nil (ρ : Pl) : Pre [] ρ := fun i x h => by simp at h
theorem Pre.app (ρ l : Pl) : Pre ρ (ρ ++ l) := fun i x h => by
  have := (List.getElem?_eq_some_iff.1 h).1
  rw [List.getElem?_append_left this]
  exact h

theorem VR.mono {P : Program} {ok ok' : Nat → Nat → Prop} {w w' : World} (hst : Stable ok w ok' w') {ρ : Pl} {x : AV} {v : Value} (h : VR P ok w ρ x v) : ∀ {ρ' : Pl}, Pre ρ ρ' → VR P ok' w' ρ' x v := by
  induction h with
  | junk ρ v => intro ρ' _; exact .junk _ _
  | int ρ k n => intro ρ' _; exact .int _ _ _
  | bool ρ b => intro ρ' _; exact .bool _ _
  | str ρ b => intro ρ' _; exact .str _ _
  | agg ρ xs vs hl h ih => intro ρ' hp; exact .agg _ _ _ hl fun i x hx => ih i x hx hp
  | tup ρ xs vs hl h ih => intro ρ' hp; exact .tup _ _ _ hl fun i x hx => ih i x hx hp
  | sl ρ es b off sz cap us hz hc hm h ih =>
    intro ρ' hp
    exact .sl _ _ _ _ sz _ us hz hc (fun i e j x he hx => let ⟨a, c⟩ := hm i e j x he hx; hst.cell _ _ _ c a) fun i e j x he hx => ih i e j x he hx (Pre.refl _)
  | sl0 ρ a cap => intro ρ' _; exact .sl0 _ _ _
  | hs ρ id i n b sz cap ty hr hn hs => intro ρ' hp; exact .hs _ _ _ _ _ _ _ _ (hp _ _ hr) hn (hst.shape _ _ hs)
  | nils ρ => intro ρ' _; exact .nils _
  | ptr ρ id i j b sz hr => intro ρ' hp; exact .ptr _ _ _ _ _ _ (hp _ _ hr)
  | ip ρ cs b off us hm h ih =>
    intro ρ' hp
    exact .ip _ _ _ _ us (fun j x hx => let ⟨a, c⟩ := hm j x hx; hst.cell _ _ _ c a) fun j x hx => ih j x hx (Pre.refl _)
  | nilp ρ => intro ρ' _; exact .nilp _
  | fn ρ f xs vs hl h ih => intro ρ' hp; exact .fn _ _ _ _ hl fun i x hx => ih i x hx hp
  | nilf ρ => intro ρ' _; exact .nilf _
  | mp ρ id b sz hr => intro ρ' hp; exact .mp _ _ _ _ (hp _ _ hr)
  | nilm ρ => intro ρ' _; exact .nilm _
  | pm ρ es b ents ck hb ho hl h1 h2 ih1 ih2 =>
    intro ρ' hp
    obtain ⟨hb', ho'⟩ := hst.map _ _ _ ho hb
    exact .pm _ _ _ _ _ hb' ho' hl (fun i k v he => ih1 i k v he (Pre.refl _)) fun i k v he => ih2 i k v he (Pre.refl _)
  | pm0 ρ => intro ρ' _; exact .pm0 _
  | it ρ id b sz hr => intro ρ' hp; exact .it _ _ _ _ (hp _ _ hr)

/-- Cell o of an object's block is not written any more. -/
def AO.okAt : AO → Nat → Nat → Prop
  | .arr _ _ fz _, sz, o => o < fz * sz
  | .dead, _, _ => True
  | _, _, _ => False
def AO.live : AO → Prop
  | .dead => False
  | _ => True
/-- Which cells are not written any more, by a call that began with B blocks. -/
def okS (B : Nat) (ok0 : Nat → Nat → Prop) (ρ : Pl) (H : AHeap) (b o : Nat) : Prop :=
  (b < B ∧ ok0 b o) ∨ (B ≤ b ∧ ∀ (id : Nat) (x : AO) (sz : Nat), H[id]? = some x → ρ[id]? = some (b, sz) → x.okAt sz o)

/-- When entries were laid into a map: each at another time, all ahead of its clock. -/
def Born (ents : List MapEntry) (ck : Nat) : Prop := (ents.map (·.born)).Nodup ∧ ∀ e ∈ ents, e.born < ck

/-- An abstract heap and a world. -/
structure St (P : Program) (B : Nat) (ok0 : Nat → Nat → Prop) (ρ : Pl) (H : AHeap) (w : World) : Prop where
  len : ρ.length = H.length
  base : ∀ (id b sz : Nat), ρ[id]? = some (b, sz) → B ≤ b ∧ b < w.heap.size
  uniq : ∀ (i j : Nat) (x y : AO) (b sz sz' : Nat), H[i]? = some x → H[j]? = some y → x.live → y.live → ρ[i]? = some (b, sz) → ρ[j]? = some (b, sz') → i = j
  arr : ∀ (id : Nat) (ty : TypeId) (ap : Bool) (fz : Nat) (es : List (List AV)) (b sz : Nat), H[id]? = some (.arr ty ap fz es) → ρ[id]? = some (b, sz) → 0 < sz ∧ szOf P ty = some sz ∧ (∀ e ∈ es, e.length = sz) ∧
      ∃ (C : Array Value) (fr : Nat × Nat), w.heap[b]? = some (.cells C ty fr) ∧ (ap = true → fr = (0, 0)) ∧ (∀ o, o < C.size → ¬ (fr.1 ≤ o ∧ o < fr.2)) ∧
        (∃ cap, C.size = cap * sz ∧ es.length ≤ cap ∧ cap ≤ maxLen) ∧
        ∀ (i : Nat) (e : List AV) (j : Nat) (x : AV), es[i]? = some e → e[j]? = some x → ∃ u, C[i * sz + j]? = some u ∧ VR P (okS B ok0 ρ H) w ρ x u
  map : ∀ (id : Nat) (es : List (AV × AV)) (b sz : Nat), H[id]? = some (.map es) → ρ[id]? = some (b, sz) → ∃ (ents : List MapEntry) (ck : Nat), w.heap[b]? = some (.map ents.toArray ck) ∧ Born ents ck ∧ es.length = ents.length ∧
      (∀ (i : Nat) (k v : AV), es[i]? = some (k, v) → VR P (okS B ok0 ρ H) w ρ k ((ents.getD i default).key)) ∧ (∀ (i : Nat) (k v : AV), es[i]? = some (k, v) → VR P (okS B ok0 ρ H) w ρ v ((ents.getD i default).val))
  siter : ∀ (id : Nat) (s : List UInt8) (p b sz : Nat), H[id]? = some (.siter s p) → ρ[id]? = some (b, sz) → w.heap[b]? = some (.stringIter ⟨s.toArray⟩ p)
  raw : ∀ (id : Nat) (o : Obj) (b sz : Nat), H[id]? = some (.raw o) → ρ[id]? = some (b, sz) → w.heap[b]? = some o

structure Evo (B : Nat) (ok0 : Nat → Nat → Prop) (ρ : Pl) (H : AHeap) (w : World) (ρ' : Pl) (H' : AHeap) (w' : World) : Prop where
  below : Below B w w'
  stab : Stable (okS B ok0 ρ H) w (okS B ok0 ρ' H') w'
  pre : Pre ρ ρ'
theorem Evo.refl (B : Nat) (ok0 : Nat → Nat → Prop) (ρ : Pl) (H : AHeap) (w : World) : Evo B ok0 ρ H w ρ H w := ⟨Below.refl _ _, Stable.refl _ _, Pre.refl _⟩
theorem Evo.trans {B : Nat} {ok0 : Nat → Nat → Prop} {ρ ρ1 ρ2 : Pl} {H H1 H2 : AHeap} {w w1 w2 : World} (h : Evo B ok0 ρ H w ρ1 H1 w1) (g : Evo B ok0 ρ1 H1 w1 ρ2 H2 w2) : Evo B ok0 ρ H w ρ2 H2 w2 :=
  ⟨h.below.trans g.below, h.stab.trans g.stab, h.pre.trans g.pre⟩

theorem lt_of_heap {w : World} {b : Nat} {o : Obj} (h : w.heap[b]? = some o) : b < w.heap.size := (Array.getElem?_eq_some_iff.1 h).1
theorem cell_cells {w : World} {b : Nat} {C : Array Value} {ty : TypeId} {fr : Nat × Nat} (h : w.heap[b]? = some (.cells C ty fr)) (o : Nat) : w.cell? ⟨b, o, none⟩ = C[o]? := by
  simp [World.cell?, h]
theorem shape_cells {w : World} {b : Nat} {C : Array Value} {ty : TypeId} {fr : Nat × Nat} (h : w.heap[b]? = some (.cells C ty fr)) : w.shape? b = some (ty, C.size) := by
  simp [World.shape?, h]

theorem plOf {P : Program} {B : Nat} {ok0 : Nat → Nat → Prop} {ρ : Pl} {H : AHeap} {w : World} (h : St P B ok0 ρ H w) {id : Nat} {x : AO} (hx : H[id]? = some x) : ∃ b sz, ρ[id]? = some (b, sz) := by
  have hlt := (List.getElem?_eq_some_iff.1 hx).1
  rw [← h.len] at hlt
  exact ⟨ρ[id].1, ρ[id].2, by rw [List.getElem?_eq_getElem hlt]⟩

/-- A NEW OBJECT, in a new block. -/
theorem St.alloc {P : Program} {B : Nat} {ok0 : Nat → Nat → Prop} {ρ : Pl} {H : AHeap} {w w' : World} {x : AO} {o : Obj} {sz : Nat} (h : St P B ok0 ρ H w) (hB : B ≤ w.heap.size)
    (hw : Below w.heap.size w w') (hnew : w'.heap[w.heap.size]? = some o)
    (harr : ∀ ty ap fz es, x = .arr ty ap fz es → 0 < sz ∧ szOf P ty = some sz ∧ (∀ e ∈ es, e.length = sz) ∧
      ∃ (C : Array Value) (fr : Nat × Nat), o = .cells C ty fr ∧ (ap = true → fr = (0, 0)) ∧ (∀ o, o < C.size → ¬ (fr.1 ≤ o ∧ o < fr.2)) ∧ (∃ cap, C.size = cap * sz ∧ es.length ≤ cap ∧ cap ≤ maxLen) ∧
        ∀ (i : Nat) (e : List AV) (j : Nat) (x : AV), es[i]? = some e → e[j]? = some x → ∃ u, C[i * sz + j]? = some u ∧ VR P (okS B ok0 ρ H) w ρ x u)
    (hmap : ∀ es, x = .map es → ∃ (ents : List MapEntry) (ck : Nat), o = .map ents.toArray ck ∧ Born ents ck ∧ es.length = ents.length ∧
      (∀ (i : Nat) (k v : AV), es[i]? = some (k, v) → VR P (okS B ok0 ρ H) w ρ k ((ents.getD i default).key)) ∧ (∀ (i : Nat) (k v : AV), es[i]? = some (k, v) → VR P (okS B ok0 ρ H) w ρ v ((ents.getD i default).val)))
    (hit : ∀ s p, x = .siter s p → o = .stringIter ⟨s.toArray⟩ p) (hraw : ∀ o', x = .raw o' → o = o' := by intro o' e; cases e) :
    St P B ok0 (ρ ++ [(w.heap.size, sz)]) (H ++ [x]) w' ∧ Evo B ok0 ρ H w (ρ ++ [(w.heap.size, sz)]) (H ++ [x]) w' := by
  have hlt' : w.heap.size < w'.heap.size := lt_of_heap hnew
  have hok : ∀ b o, b < w.heap.size → okS B ok0 ρ H b o → okS B ok0 (ρ ++ [(w.heap.size, sz)]) (H ++ [x]) b o := by
    intro b o hb hk
    rcases hk with hk | ⟨hBb, hk⟩
    · exact .inl hk
    · refine .inr ⟨hBb, fun id y sz' hy hr => ?_⟩
      by_cases hid : id < H.length
      · rw [List.getElem?_append_left hid] at hy
        rw [List.getElem?_append_left (by rw [h.len]; exact hid)] at hr
        exact hk id y sz' hy hr
      · by_cases he : id = H.length
        · subst he
          rw [← h.len] at hr
          simp at hr
          omega
        · rw [List.getElem?_eq_none (by simp; omega)] at hy
          cases hy
  have hcell : ∀ b o, b < w.heap.size → w'.cell? ⟨b, o, none⟩ = w.cell? ⟨b, o, none⟩ := fun b o hb => hw.cell (p := ⟨b, o, none⟩) hb
  have hstab : Stable (okS B ok0 ρ H) w (okS B ok0 (ρ ++ [(w.heap.size, sz)]) (H ++ [x])) w' := by
    refine ⟨fun b o u hk hc => ?_, fun b s hsh => ?_, fun b es ck hk hm => ?_⟩
    · have hb : b < w.heap.size := World.block_lt_of_cell? w _ hc
      exact ⟨(hcell b o hb).trans hc, hok b o hb hk⟩
    · have hb : b < w.heap.size := by
        simp only [World.shape?] at hsh
        split at hsh
        · rename_i hh; exact lt_of_heap hh
        · cases hsh
      simp only [World.shape?, hw.block b hb]
      exact hsh
    · have hb := lt_of_heap hm
      exact ⟨(hw.block b hb).trans hm, fun o => hok b o hb (hk o)⟩
  have hev : Evo B ok0 ρ H w (ρ ++ [(w.heap.size, sz)]) (H ++ [x]) w' := ⟨hw.mono hB, hstab, Pre.app _ _⟩
  have up : ∀ {y : AV} {u : Value}, VR P (okS B ok0 ρ H) w ρ y u → VR P (okS B ok0 (ρ ++ [(w.heap.size, sz)]) (H ++ [x])) w' (ρ ++ [(w.heap.size, sz)]) y u := fun hv => hv.mono hstab (Pre.app _ _)
  have getH : ∀ (id : Nat) (y : AO), (H ++ [x])[id]? = some y → (id < H.length ∧ H[id]? = some y) ∨ (id = H.length ∧ y = x) := by
    intro id y hy
    by_cases hid : id < H.length
    · rw [List.getElem?_append_left hid] at hy; exact .inl ⟨hid, hy⟩
    · by_cases he : id = H.length
      · subst he; simp at hy; exact .inr ⟨rfl, hy.symm⟩
      · rw [List.getElem?_eq_none (by simp; omega)] at hy; cases hy
  have getR : ∀ (id : Nat) (p : Nat × Nat), id < H.length → (ρ ++ [(w.heap.size, sz)])[id]? = some p → ρ[id]? = some p := fun id p hid hp => by
    rwa [List.getElem?_append_left (by rw [h.len]; exact hid)] at hp
  have getN : ∀ p : Nat × Nat, (ρ ++ [(w.heap.size, sz)])[H.length]? = some p → p = (w.heap.size, sz) := fun p hp => by
    rw [← h.len] at hp; simp at hp; exact hp.symm
  refine ⟨⟨by simp [h.len], ?_, ?_, ?_, ?_, ?_, ?_⟩, hev⟩
  · intro id b sz' hr
    by_cases hid : id < ρ.length
    · rw [List.getElem?_append_left hid] at hr
      have := h.base id b sz' hr
      exact ⟨this.1, by omega⟩
    · by_cases he : id = ρ.length
      · subst he; simp at hr; obtain ⟨rfl, rfl⟩ := hr; exact ⟨hB, hlt'⟩
      · rw [List.getElem?_eq_none (by simp; omega)] at hr; cases hr
  · intro i j x1 y1 b s1 s2 hi hj l1 l2 r1 r2
    rcases getH i x1 hi with ⟨li, hi⟩ | ⟨rfl, rfl⟩ <;> rcases getH j y1 hj with ⟨lj, hj⟩ | ⟨rfl, rfl⟩
    · exact h.uniq i j x1 y1 b s1 s2 hi hj l1 l2 (getR _ _ li r1) (getR _ _ lj r2)
    · have e2 := getN _ r2
      have := (h.base i b s1 (getR _ _ li r1)).2
      simp only [Prod.mk.injEq] at e2
      omega
    · have e1 := getN _ r1
      have := (h.base j b s2 (getR _ _ lj r2)).2
      simp only [Prod.mk.injEq] at e1
      omega
    · rfl
  · intro id ty ap fz es b sz' hx hr
    rcases getH id _ hx with ⟨li, hi⟩ | ⟨rfl, he⟩
    · have hr' := getR _ _ li hr
      obtain ⟨a1, a2, a3, C, fr, c1, c2, c3, c4, c5⟩ := h.arr id ty ap fz es b sz' hi hr'
      refine ⟨a1, a2, a3, C, fr, ?_, c2, c3, c4, fun i e j y he hy => ?_⟩
      · rw [hw.block b (lt_of_heap c1)]; exact c1
      · obtain ⟨u, cu, hu⟩ := c5 i e j y he hy
        exact ⟨u, cu, up hu⟩
    · have e2 := getN _ hr
      simp only [Prod.mk.injEq] at e2
      obtain ⟨rfl, rfl⟩ := e2
      obtain ⟨a1, a2, a3, C, fr, c1, c2, c3, c4, c5⟩ := harr ty ap fz es he.symm
      subst c1
      refine ⟨a1, a2, a3, C, fr, hnew, c2, c3, c4, fun i e j y he hy => ?_⟩
      obtain ⟨u, cu, hu⟩ := c5 i e j y he hy
      exact ⟨u, cu, up hu⟩
  · intro id es b sz' hx hr
    rcases getH id _ hx with ⟨li, hi⟩ | ⟨rfl, he⟩
    · have hr' := getR _ _ li hr
      obtain ⟨ents, ck, c1, cb, c2, c3, c4⟩ := h.map id es b sz' hi hr'
      exact ⟨ents, ck, by rw [hw.block b (lt_of_heap c1)]; exact c1, cb, c2, fun i k v hh => up (c3 i k v hh), fun i k v hh => up (c4 i k v hh)⟩
    · have e2 := getN _ hr
      simp only [Prod.mk.injEq] at e2
      obtain ⟨rfl, rfl⟩ := e2
      obtain ⟨ents, ck, c1, cb, c2, c3, c4⟩ := hmap es he.symm
      subst c1
      exact ⟨ents, ck, hnew, cb, c2, fun i k v hh => up (c3 i k v hh), fun i k v hh => up (c4 i k v hh)⟩
  · intro id s p b sz' hx hr
    rcases getH id _ hx with ⟨li, hi⟩ | ⟨rfl, he⟩
    · have c1 := h.siter id s p b sz' hi (getR _ _ li hr)
      rw [hw.block b (lt_of_heap c1)]; exact c1
    · have e2 := getN _ hr
      simp only [Prod.mk.injEq] at e2
      obtain ⟨rfl, rfl⟩ := e2
      have := hit s p he.symm
      subst this
      exact hnew
  · intro id o1 b sz' hx hr
    rcases getH id _ hx with ⟨li, hi⟩ | ⟨rfl, he⟩
    · have c1 := h.raw id o1 b sz' hi (getR _ _ li hr)
      rw [hw.block b (lt_of_heap c1)]; exact c1
    · have e2 := getN _ hr
      simp only [Prod.mk.injEq] at e2
      obtain ⟨rfl, rfl⟩ := e2
      have := hraw o1 he.symm
      subst this
      exact hnew
/-- What may become of an object while its block stays: nothing; it is spent; fewer of its elements may be written. -/
def AO.le (x x' : AO) : Prop := x' = x ∨ x' = .dead ∨ ∃ ty ap fz fz' es, x = .arr ty ap fz es ∧ x' = .arr ty ap fz' es ∧ fz ≤ fz'
theorem AO.le_okAt {x x' : AO} (h : x.le x') (sz o : Nat) (hk : x.okAt sz o) : x'.okAt sz o := by
  rcases h with rfl | rfl | ⟨ty, ap, fz, fz', es, rfl, rfl, hle⟩
  · exact hk
  · trivial
  · exact Nat.lt_of_lt_of_le hk (Nat.mul_le_mul_right _ hle)
theorem St.relax {P : Program} {B : Nat} {ok0 : Nat → Nat → Prop} {ρ : Pl} {H H' : AHeap} {w : World} (h : St P B ok0 ρ H w) (hl : H'.length = H.length)
    (hle : ∀ (id : Nat) (x' : AO), H'[id]? = some x' → ∃ x, H[id]? = some x ∧ x.le x') : St P B ok0 ρ H' w ∧ Evo B ok0 ρ H w ρ H' w := by
  have hok : ∀ b o, okS B ok0 ρ H b o → okS B ok0 ρ H' b o := by
    intro b o hk
    rcases hk with hk | ⟨hB, hk⟩
    · exact .inl hk
    · refine .inr ⟨hB, fun id x' sz hx hr => ?_⟩
      obtain ⟨x, hx0, hxx⟩ := hle id x' hx
      exact AO.le_okAt hxx _ _ (hk id x sz hx0 hr)
  have hst : Stable (okS B ok0 ρ H) w (okS B ok0 ρ H') w := ⟨fun b o u hk hc => ⟨hc, hok b o hk⟩, fun b s hs => hs, fun b es ck hk hm => ⟨hm, fun o => hok b o (hk o)⟩⟩
  have up : ∀ {y : AV} {u : Value}, VR P (okS B ok0 ρ H) w ρ y u → VR P (okS B ok0 ρ H') w ρ y u := fun hv => hv.mono hst (Pre.refl _)
  have lv : ∀ {x x' : AO}, x.le x' → x'.live → x.live := by
    intro x x' hxx hv
    rcases hxx with rfl | rfl | ⟨ty, ap, fz, fz', es, rfl, rfl, _⟩
    · exact hv
    · exact hv.elim
    · trivial
  refine ⟨⟨by rw [h.len, hl], h.base, ?_, ?_, ?_, ?_, ?_⟩, ⟨Below.refl _ _, hst, Pre.refl _⟩⟩
  · intro i j x y b s1 s2 hi hj l1 l2 r1 r2
    obtain ⟨x0, hx0, hxx⟩ := hle i x hi
    obtain ⟨y0, hy0, hyy⟩ := hle j y hj
    exact h.uniq i j x0 y0 b s1 s2 hx0 hy0 (lv hxx l1) (lv hyy l2) r1 r2
  · intro id ty ap fz es b sz hx hr
    obtain ⟨x0, hx0, hxx⟩ := hle id _ hx
    have : ∃ fz0, x0 = .arr ty ap fz0 es := by
      rcases hxx with e | e | ⟨ty', ap', fz1, fz2, es', e1, e2, _⟩
      · exact ⟨fz, e.symm⟩
      · cases e
      · cases e2; exact ⟨fz1, e1⟩
    obtain ⟨fz0, rfl⟩ := this
    obtain ⟨a1, a2, a3, C, fr, c1, c2, c3, c4, c5⟩ := h.arr id ty ap fz0 es b sz hx0 hr
    exact ⟨a1, a2, a3, C, fr, c1, c2, c3, c4, fun i e j y he hy => let ⟨u, cu, hu⟩ := c5 i e j y he hy; ⟨u, cu, up hu⟩⟩
  · intro id es b sz hx hr
    obtain ⟨x0, hx0, hxx⟩ := hle id _ hx
    have : x0 = .map es := by
      rcases hxx with e | e | ⟨ty', ap', fz1, fz2, es', e1, e2, _⟩
      · exact e.symm
      · cases e
      · cases e2
    subst this
    obtain ⟨ents, ck, c1, cb, c2, c3, c4⟩ := h.map id es b sz hx0 hr
    exact ⟨ents, ck, c1, cb, c2, fun i k v hh => up (c3 i k v hh), fun i k v hh => up (c4 i k v hh)⟩
  · intro id s p b sz hx hr
    obtain ⟨x0, hx0, hxx⟩ := hle id _ hx
    have : x0 = .siter s p := by
      rcases hxx with e | e | ⟨ty', ap', fz1, fz2, es', e1, e2, _⟩
      · exact e.symm
      · cases e
      · cases e2
    subst this
    exact h.siter id s p b sz hx0 hr
  · intro id o b sz hx hr
    obtain ⟨x0, hx0, hxx⟩ := hle id _ hx
    have : x0 = .raw o := by
      rcases hxx with e | e | ⟨ty', ap', fz1, fz2, es', e1, e2, _⟩
      · exact e.symm
      · cases e
      · cases e2
    subst this
    exact h.raw id o b sz hx0 hr

/-- An object takes a new name; the old one is spent. -/
theorem St.move {P : Program} {B : Nat} {ok0 : Nat → Nat → Prop} {ρ : Pl} {H : AHeap} {w : World} (h : St P B ok0 ρ H w) {id : Nat} {ty : TypeId} {ap : Bool} {fz : Nat} {es : List (List AV)} {b sz : Nat}
    (hx : H[id]? = some (.arr ty ap fz es)) (hr : ρ[id]? = some (b, sz)) :
    St P B ok0 (ρ ++ [(b, sz)]) (H.set id .dead ++ [.arr ty ap fz es]) w ∧ Evo B ok0 ρ H w (ρ ++ [(b, sz)]) (H.set id .dead ++ [.arr ty ap fz es]) w := by
  have hidl : id < H.length := (List.getElem?_eq_some_iff.1 hx).1
  have getH : ∀ (i : Nat) (y : AO), (H.set id .dead ++ [.arr ty ap fz es])[i]? = some y → (i < H.length ∧ i ≠ id ∧ H[i]? = some y) ∨ (i = id ∧ y = .dead) ∨ (i = H.length ∧ y = .arr ty ap fz es) := by
    intro i y hy
    by_cases hil : i < H.length
    · rw [List.getElem?_append_left (by simpa using hil)] at hy
      by_cases he : i = id
      · subst he
        rw [List.getElem?_set_self hil] at hy
        exact .inr (.inl ⟨rfl, by simpa using hy.symm⟩)
      · rw [List.getElem?_set_ne (Ne.symm he)] at hy
        exact .inl ⟨hil, he, hy⟩
    · by_cases he : i = H.length
      · subst he
        rw [List.getElem?_append_right (by simp)] at hy
        simp at hy
        exact .inr (.inr ⟨rfl, hy.symm⟩)
      · rw [List.getElem?_eq_none (by simp; omega)] at hy; cases hy
  have getR : ∀ (i : Nat) (p : Nat × Nat), i < H.length → (ρ ++ [(b, sz)])[i]? = some p → ρ[i]? = some p := fun i p hil hp => by
    rwa [List.getElem?_append_left (by rw [h.len]; exact hil)] at hp
  have getN : ∀ p : Nat × Nat, (ρ ++ [(b, sz)])[H.length]? = some p → p = (b, sz) := fun p hp => by
    rw [← h.len] at hp; simp at hp; exact hp.symm
  have hok : ∀ b' o, okS B ok0 ρ H b' o → okS B ok0 (ρ ++ [(b, sz)]) (H.set id .dead ++ [.arr ty ap fz es]) b' o := by
    intro b' o hk
    rcases hk with hk | ⟨hB, hk⟩
    · exact .inl hk
    · refine .inr ⟨hB, fun i y s' hy hr' => ?_⟩
      rcases getH i y hy with ⟨hil, _, hy⟩ | ⟨rfl, rfl⟩ | ⟨rfl, rfl⟩
      · exact hk i y s' hy (getR _ _ hil hr')
      · trivial
      · have e := getN _ hr'
        simp only [Prod.mk.injEq] at e
        obtain ⟨rfl, rfl⟩ := e
        exact hk id _ _ hx hr
  have hst : Stable (okS B ok0 ρ H) w (okS B ok0 (ρ ++ [(b, sz)]) (H.set id .dead ++ [.arr ty ap fz es])) w := ⟨fun b o u hk hc => ⟨hc, hok b o hk⟩, fun b s hs => hs, fun b es ck hk hm => ⟨hm, fun o => hok b o (hk o)⟩⟩
  have up : ∀ {y : AV} {u : Value}, VR P (okS B ok0 ρ H) w ρ y u → VR P (okS B ok0 (ρ ++ [(b, sz)]) (H.set id .dead ++ [.arr ty ap fz es])) w (ρ ++ [(b, sz)]) y u := fun hv => hv.mono hst (Pre.app _ _)
  refine ⟨⟨by simp [h.len], ?_, ?_, ?_, ?_, ?_, ?_⟩, ⟨Below.refl _ _, hst, Pre.app _ _⟩⟩
  · intro i b' s' hr'
    by_cases hil : i < H.length
    · exact h.base i b' s' (getR _ _ hil hr')
    · by_cases he : i = H.length
      · subst he
        have e := getN _ hr'
        simp only [Prod.mk.injEq] at e
        obtain ⟨rfl, rfl⟩ := e
        exact h.base id _ _ hr
      · rw [List.getElem?_eq_none (by simp [h.len]; omega)] at hr'; cases hr'
  · intro i j x y b' s1 s2 hi hj l1 l2 r1 r2
    rcases getH i x hi with ⟨il, ine, hi⟩ | ⟨rfl, rfl⟩ | ⟨rfl, rfl⟩
    · rcases getH j y hj with ⟨jl, jne, hj⟩ | ⟨rfl, rfl⟩ | ⟨rfl, rfl⟩
      · exact h.uniq i j x y b' s1 s2 hi hj l1 l2 (getR _ _ il r1) (getR _ _ jl r2)
      · exact l2.elim
      · have e := getN _ r2
        simp only [Prod.mk.injEq] at e
        obtain ⟨rfl, rfl⟩ := e
        exact absurd (h.uniq i id x _ _ s1 _ hi hx l1 trivial (getR _ _ il r1) hr) ine
    · exact l1.elim
    · have e := getN _ r1
      simp only [Prod.mk.injEq] at e
      obtain ⟨rfl, rfl⟩ := e
      rcases getH j y hj with ⟨jl, jne, hj⟩ | ⟨rfl, rfl⟩ | ⟨rfl, rfl⟩
      · exact absurd (h.uniq j id y _ _ s2 _ hj hx l2 trivial (getR _ _ jl r2) hr) jne
      · exact l2.elim
      · rfl
  · intro i ty' ap' fz' es' b' s' hi hr'
    have key : ∃ i0 : Nat, H[i0]? = some (AO.arr ty' ap' fz' es') ∧ ρ[i0]? = some (b', s') := by
      rcases getH i _ hi with ⟨il, _, hi⟩ | ⟨_, e⟩ | ⟨rfl, e⟩
      · exact ⟨i, hi, getR _ _ il hr'⟩
      · cases e
      · cases e
        have e := getN _ hr'
        simp only [Prod.mk.injEq] at e
        obtain ⟨rfl, rfl⟩ := e
        exact ⟨id, hx, hr⟩
    obtain ⟨i0, h1, h2⟩ := key
    obtain ⟨a1, a2, a3, C, fr, c1, c2, c3, c4, c5⟩ := h.arr i0 ty' ap' fz' es' b' s' h1 h2
    exact ⟨a1, a2, a3, C, fr, c1, c2, c3, c4, fun i e j y he hy => let ⟨u, cu, hu⟩ := c5 i e j y he hy; ⟨u, cu, up hu⟩⟩
  · intro i es' b' s' hi hr'
    rcases getH i _ hi with ⟨il, _, hi⟩ | ⟨_, e⟩ | ⟨_, e⟩
    · obtain ⟨ents, ck, c1, cb, c2, c3, c4⟩ := h.map i es' b' s' hi (getR _ _ il hr')
      exact ⟨ents, ck, c1, cb, c2, fun i k v hh => up (c3 i k v hh), fun i k v hh => up (c4 i k v hh)⟩
    · cases e
    · cases e
  · intro i s' p' b' sz' hi hr'
    rcases getH i _ hi with ⟨il, _, hi⟩ | ⟨_, e⟩ | ⟨_, e⟩
    · exact h.siter i s' p' b' sz' hi (getR _ _ il hr')
    · cases e
    · cases e
  · intro i o b' sz' hi hr'
    rcases getH i _ hi with ⟨il, _, hi⟩ | ⟨_, e⟩ | ⟨_, e⟩
    · exact h.raw i o b' sz' hi (getR _ _ il hr')
    · cases e
    · cases e

/-- AN OBJECT's CONTENTS TURN, and its block's. -/
theorem St.modify {P : Program} {B : Nat} {ok0 : Nat → Nat → Prop} {ρ : Pl} {H : AHeap} {w w' : World} (h : St P B ok0 ρ H w) {id : Nat} {x x' : AO} {b sz : Nat} {o' : Obj}
    (hx : H[id]? = some x) (hr : ρ[id]? = some (b, sz)) (hlx : x.live) (hlx' : x'.live) (hok : ∀ o, x'.okAt sz o ↔ x.okAt sz o)
    (hw : Below b w w') (hoth : ∀ k, k ≠ b → w'.heap[k]? = w.heap[k]?) (hb : w'.heap[b]? = some o')
    (hcell : ∀ o u, x.okAt sz o → w.cell? ⟨b, o, none⟩ = some u → w'.cell? ⟨b, o, none⟩ = some u) (hsh : ∀ s, w.shape? b = some s → w'.shape? b = some s)
    (harr : ∀ (ty : TypeId) (ap : Bool) (fz : Nat) (es : List (List AV)), x' = AO.arr ty ap fz es → 0 < sz ∧ szOf P ty = some sz ∧ (∀ e ∈ es, e.length = sz) ∧
      ∃ (C : Array Value) (fr : Nat × Nat), o' = .cells C ty fr ∧ (ap = true → fr = (0, 0)) ∧ (∀ o, o < C.size → ¬ (fr.1 ≤ o ∧ o < fr.2)) ∧ (∃ cap, C.size = cap * sz ∧ es.length ≤ cap ∧ cap ≤ maxLen) ∧
        ∀ (i : Nat) (e : List AV) (j : Nat) (x : AV), es[i]? = some e → e[j]? = some x → ∃ u, C[i * sz + j]? = some u ∧ VR P (okS B ok0 ρ H) w ρ x u)
    (hmap : ∀ es, x' = AO.map es → ∃ (ents : List MapEntry) (ck : Nat), o' = .map ents.toArray ck ∧ Born ents ck ∧ es.length = ents.length ∧
      (∀ (i : Nat) (k v : AV), es[i]? = some (k, v) → VR P (okS B ok0 ρ H) w ρ k ((ents.getD i default).key)) ∧ (∀ (i : Nat) (k v : AV), es[i]? = some (k, v) → VR P (okS B ok0 ρ H) w ρ v ((ents.getD i default).val)))
    (hit : ∀ s p, x' = AO.siter s p → o' = .stringIter ⟨s.toArray⟩ p) (hraw : ∀ o, x' = AO.raw o → o' = o := by intro o e; cases e) :
    St P B ok0 ρ (H.set id x') w' ∧ Evo B ok0 ρ H w ρ (H.set id x') w' := by
  have hidl : id < H.length := (List.getElem?_eq_some_iff.1 hx).1
  have hBb : B ≤ b := (h.base id b sz hr).1
  have getH : ∀ (i : Nat) (y : AO), (H.set id x')[i]? = some y → (i ≠ id ∧ H[i]? = some y) ∨ (i = id ∧ y = x') := by
    intro i y hy
    by_cases he : i = id
    · subst he
      rw [List.getElem?_set_self hidl] at hy
      exact .inr ⟨rfl, by simpa using hy.symm⟩
    · rw [List.getElem?_set_ne (Ne.symm he)] at hy
      exact .inl ⟨he, hy⟩
  have hok1 : ∀ b' o, okS B ok0 ρ H b' o → okS B ok0 ρ (H.set id x') b' o := by
    intro b' o hk
    rcases hk with hk | ⟨hB, hk⟩
    · exact .inl hk
    · refine .inr ⟨hB, fun i y s' hy hr' => ?_⟩
      rcases getH i y hy with ⟨_, hy⟩ | ⟨rfl, rfl⟩
      · exact hk i y s' hy hr'
      · have e := hr.symm.trans hr'
        simp only [Option.some.injEq, Prod.mk.injEq] at e
        obtain ⟨rfl, rfl⟩ := e
        exact (hok o).2 (hk _ _ _ hx hr)
  have hokb : ∀ o, okS B ok0 ρ H b o → x.okAt sz o := by
    intro o hk
    rcases hk with ⟨hlt, _⟩ | ⟨_, hk⟩
    · omega
    · exact hk id x sz hx hr
  have hnotall : ¬ ∀ o, x.okAt sz o := by
    intro ha
    cases x with
    | arr ty ap fz es => have := ha (fz * sz); simp [AO.okAt] at this
    | map es => exact ha 0
    | siter s p => exact ha 0
    | raw o => exact ha 0
    | dead => exact hlx
  have hst : Stable (okS B ok0 ρ H) w (okS B ok0 ρ (H.set id x')) w' := by
    refine ⟨fun b' o u hk hc => ⟨?_, hok1 b' o hk⟩, fun b' s hs => ?_, fun b' es ck hk hm => ?_⟩
    · by_cases e : b' = b
      · subst e; exact hcell o u (hokb o hk) hc
      · rw [World.cell?_of_block (w := w) (a := ⟨b', o, none⟩) (hoth b' e)]; exact hc
    · by_cases e : b' = b
      · subst e; exact hsh s hs
      · simp only [World.shape?, hoth b' e]; exact hs
    · by_cases e : b' = b
      · subst e; exact absurd (fun o => hokb o (hk o)) hnotall
      · exact ⟨(hoth b' e).trans hm, fun o => hok1 b' o (hk o)⟩
  have up : ∀ {y : AV} {u : Value}, VR P (okS B ok0 ρ H) w ρ y u → VR P (okS B ok0 ρ (H.set id x')) w' ρ y u := fun hv => hv.mono hst (Pre.refl _)
  have other : ∀ (i : Nat) (y : AO) (b' s' : Nat), i ≠ id → H[i]? = some y → y.live → ρ[i]? = some (b', s') → w'.heap[b']? = w.heap[b']? := by
    intro i y b' s' hne hy hl hr'
    refine hoth b' fun e => ?_
    subst e
    exact hne (h.uniq i id y x b' s' sz hy hx hl hlx hr' hr)
  refine ⟨⟨by simp [h.len], ?_, ?_, ?_, ?_, ?_, ?_⟩, ⟨hw.mono hBb, hst, Pre.refl _⟩⟩
  · intro i b' s' hr'
    have := h.base i b' s' hr'
    exact ⟨this.1, Nat.lt_of_lt_of_le this.2 hw.size⟩
  · intro i j y z b' s1 s2 hi hj l1 l2 r1 r2
    have k1 : ∃ y0, H[i]? = some y0 ∧ y0.live := by
      rcases getH i y hi with ⟨_, hi⟩ | ⟨rfl, rfl⟩
      · exact ⟨y, hi, l1⟩
      · exact ⟨x, hx, hlx⟩
    have k2 : ∃ y0, H[j]? = some y0 ∧ y0.live := by
      rcases getH j z hj with ⟨_, hj⟩ | ⟨rfl, rfl⟩
      · exact ⟨z, hj, l2⟩
      · exact ⟨x, hx, hlx⟩
    obtain ⟨y0, e1, f1⟩ := k1
    obtain ⟨z0, e2, f2⟩ := k2
    exact h.uniq i j y0 z0 b' s1 s2 e1 e2 f1 f2 r1 r2
  · intro i ty ap fz es b' s' hi hr'
    rcases getH i _ hi with ⟨hne, hi⟩ | ⟨rfl, e⟩
    · obtain ⟨a1, a2, a3, C, fr, c1, c2, c3, c4, c5⟩ := h.arr i ty ap fz es b' s' hi hr'
      exact ⟨a1, a2, a3, C, fr, (other i _ b' s' hne hi trivial hr').trans c1, c2, c3, c4, fun i e j y he hy => let ⟨u, cu, hu⟩ := c5 i e j y he hy; ⟨u, cu, up hu⟩⟩
    · have e2 := hr.symm.trans hr'
      simp only [Option.some.injEq, Prod.mk.injEq] at e2
      obtain ⟨rfl, rfl⟩ := e2
      obtain ⟨a1, a2, a3, C, fr, c1, c2, c3, c4, c5⟩ := harr ty ap fz es e.symm
      subst c1
      exact ⟨a1, a2, a3, C, fr, hb, c2, c3, c4, fun i e j y he hy => let ⟨u, cu, hu⟩ := c5 i e j y he hy; ⟨u, cu, up hu⟩⟩
  · intro i es b' s' hi hr'
    rcases getH i _ hi with ⟨hne, hi⟩ | ⟨rfl, e⟩
    · obtain ⟨ents, ck, c1, cb, c2, c3, c4⟩ := h.map i es b' s' hi hr'
      exact ⟨ents, ck, (other i _ b' s' hne hi trivial hr').trans c1, cb, c2, fun i k v hh => up (c3 i k v hh), fun i k v hh => up (c4 i k v hh)⟩
    · have e2 := hr.symm.trans hr'
      simp only [Option.some.injEq, Prod.mk.injEq] at e2
      obtain ⟨rfl, rfl⟩ := e2
      obtain ⟨ents, ck, c1, cb, c2, c3, c4⟩ := hmap es e.symm
      subst c1
      exact ⟨ents, ck, hb, cb, c2, fun i k v hh => up (c3 i k v hh), fun i k v hh => up (c4 i k v hh)⟩
  · intro i s p b' s' hi hr'
    rcases getH i _ hi with ⟨hne, hi⟩ | ⟨rfl, e⟩
    · exact (other i _ b' s' hne hi trivial hr').trans (h.siter i s p b' s' hi hr')
    · have e2 := hr.symm.trans hr'
      simp only [Option.some.injEq, Prod.mk.injEq] at e2
      obtain ⟨rfl, rfl⟩ := e2
      have := hit s p e.symm
      subst this
      exact hb
  · intro i o b' s' hi hr'
    rcases getH i _ hi with ⟨hne, hi⟩ | ⟨rfl, e⟩
    · exact (other i _ b' s' hne hi trivial hr').trans (h.raw i o b' s' hi hr')
    · have e2 := hr.symm.trans hr'
      simp only [Option.some.injEq, Prod.mk.injEq] at e2
      obtain ⟨rfl, rfl⟩ := e2
      have := hraw o e.symm
      subst this
      exact hb
end Go.Vam
/- The abstract machine VAM is sound: memory laws; constants; loads; stores; new objects. -/


namespace Go.Vam
open Go.RowKit

theorem szOf_some {P : Program} {t : TypeId} {n : Nat} (h : szOf P t = some n) : ∃ i, P.info? t = some i ∧ i.size = n := by
  unfold szOf at h
  cases hi : P.info? t with
  | none => rw [hi] at h; cases h
  | some i => rw [hi] at h; exact ⟨i, rfl, by simpa using h⟩
theorem run_typeInfo {P : Program} {t : TypeId} {i : TypeInfo} (h : P.info? t = some i) (w : World) : (typeInfo t).run P w = .ok i w := by simp [typeInfo, h]
theorem run_sizeOf {P : Program} {t : TypeId} {n : Nat} (h : szOf P t = some n) (w : World) : (sizeOf t).run P w = .ok n w := by
  obtain ⟨i, hi, rfl⟩ := szOf_some h
  simp [sizeOf, run_typeInfo hi]
theorem run_isAgg {P : Program} {t : TypeId} {b : Bool} (h : aggT P t = some b) (w : World) : (isAgg t).run P w = .ok b w := by
  unfold aggT at h
  cases hu : P.underlying t with
  | none => rw [hu] at h; cases h
  | some d =>
    rw [hu] at h
    simp only [isAgg, Sem.run_bind, run_underlying hu, Result.andThen_ok]
    cases d <;> simp_all
theorem addr_add (b o n : Nat) : (⟨b, o, none⟩ : Addr).add n = ⟨b, o + n, none⟩ := by
  unfold Addr.add
  split
  · rename_i h; subst h; rfl
  · rfl

section
variable {P : Program} {ok : Nat → Nat → Prop} {w : World} {ρ : Pl}
theorem ofConst_VR (v : Value) : VR P ok w ρ (ofConst v) v := by
  unfold ofConst
  split
  · exact .int _ _ _
  · exact .bool _ _
  · exact .str _ _
  · exact .nilp _
  · exact .nils _
  · exact .nilm _
  · exact .nilf _
  · exact .junk _ _
theorem ofZero_VR (z : Value) : (ofZero z).length = z.cells.size ∧ ∀ (i : Nat) (x : AV), (ofZero z)[i]? = some x → VR P ok w ρ x (z.cells.toList.getD i undef) := by
  unfold ofZero
  split
  · rename_i cs
    refine ⟨by simp [Value.cells], fun i x hx => ?_⟩
    simp only [Value.cells]
    rw [List.getElem?_map] at hx
    cases hc : cs.toList[i]? with
    | none => rw [hc] at hx; cases hx
    | some c =>
      rw [hc] at hx
      simp only [Option.map_some, Option.some.injEq] at hx
      subst hx
      simp only [List.getD, hc, Option.getD_some]
      exact ofConst_VR c
  · rename_i hna
    have hc : z.cells = #[z] := by
      cases z <;> first | rfl | exact absurd rfl (hna _)
    refine ⟨by simp [hc], fun i x hx => ?_⟩
    rw [hc]
    match i, hx with
    | 0, hx =>
      simp only [List.getElem?_cons_zero, Option.some.injEq] at hx
      subst hx
      exact ofConst_VR z
theorem cell_oneCell {x : AV} {u : Value} (h : VR P ok w ρ x u) (hx : x.isCell = true) : u.oneCell' = true := by
  cases h <;> first | rfl | (simp [AV.isCell] at hx)
/-- A value's cells. -/
theorem cells_VR {x : AV} {u : Value} (h : VR P ok w ρ x u) (hx : x.cells.all AV.isCell = true) : u.cells.size = x.cells.length ∧ ∀ (i : Nat) (y : AV), x.cells[i]? = some y → VR P ok w ρ y (u.cells.toList.getD i undef) := by
  have one : ∀ {x : AV} {u : Value}, VR P ok w ρ x u → x.cells = [x] → u.cells = #[u] → u.cells.size = x.cells.length ∧ ∀ (i : Nat) (y : AV), x.cells[i]? = some y → VR P ok w ρ y (u.cells.toList.getD i undef) := by
    intro x u h h1 h2
    refine ⟨by simp [h1, h2], fun i y hy => ?_⟩
    rw [h1] at hy
    match i, hy with
    | 0, hy =>
      simp only [List.getElem?_cons_zero, Option.some.injEq] at hy
      subst hy
      rw [h2]
      exact h
  have h' := h
  cases h with
  | agg _ xs vs hl hh =>
    refine ⟨by simp [Value.cells, AV.cells, hl], fun i y hy => ?_⟩
    exact hh i y hy
  | junk _ v => simp [AV.cells, AV.isCell] at hx
  | _ => exact one h' rfl rfl
theorem cells_one {x : AV} {u : Value} (h : VR P ok w ρ x u) (hx : x.cells.all AV.isCell = true) : ∀ c ∈ u.cells.toList, c.oneCell' = true := by
  obtain ⟨h1, h2⟩ := cells_VR h hx
  intro c hc
  obtain ⟨i, hi⟩ := List.getElem?_of_mem hc
  have hlt : i < x.cells.length := by
    have := (List.getElem?_eq_some_iff.1 hi).1
    simp only [Array.length_toList] at this
    omega
  have hy := h2 i x.cells[i] (List.getElem?_eq_getElem hlt)
  rw [List.getD, hi] at hy
  exact cell_oneCell hy (List.all_eq_true.1 hx _ (List.getElem_mem hlt))
end

/-! ### loads -/
section
variable {P : Program} {w : World}
theorem ldCells_sound {ok : Nat → Nat → Prop} {ρ : Pl} {t : TypeId} {cs : List AV} {y : AV} {b off : Nat} {us : Nat → Value} (hc : ∀ (j : Nat) (x : AV), cs[j]? = some x → w.cell? ⟨b, off + j, none⟩ = some (us j))
    (hv : ∀ (j : Nat) (x : AV), cs[j]? = some x → VR P ok w ρ x (us j)) (h : ldCells P t cs = some y) : ∃ u, (loadVar t ⟨b, off, none⟩).run P w = .ok u w ∧ VR P ok w ρ y u := by
  unfold ldCells at h
  split at h
  · rename_i n ha hs
    split at h
    · rename_i hn
      simp only [Option.some.injEq] at h
      subst h
      have hl : (loadCells ⟨b, off, none⟩ n).run P w = .ok ((List.range n).map us).toArray w := by
        refine run_loadCells w _ n us fun j hj => ?_
        rw [addr_add]
        exact hc j _ (List.getElem?_eq_getElem (by omega))
      refine ⟨.agg ((List.range n).map us).toArray, ?_, ?_⟩
      · simp only [loadVar, Sem.run_bind, run_isAgg ha, Result.andThen_ok, if_true, run_sizeOf hs, hl, Sem.run_pure]
      · refine .agg _ _ _ (by simp; omega) fun i x hx => ?_
        rw [List.getElem?_take] at hx
        split at hx
        · rename_i hin
          have : ((List.range n).map us).getD i undef = us i := by simp [List.getD, hin]
          rw [this]
          exact hv i x hx
        · cases hx
    · cases h
  · rename_i s c rest ha
    simp only [Option.some.injEq] at h
    subst h
    have h0 := hc 0 c rfl
    simp only [Nat.add_zero] at h0
    refine ⟨us 0, ?_, hv 0 c rfl⟩
    simp only [loadVar, Sem.run_bind, run_isAgg ha, Result.andThen_ok, Bool.false_eq_true, if_false, run_load, h0]
  · cases h

variable {B : Nat} {ok0 : Nat → Nat → Prop} {ρ : Pl} {H : AHeap}
theorem VR.up {ok : Nat → Nat → Prop} {x : AV} {u : Value} (h : VR P ok w [] x u) : VR P ok w ρ x u := h.mono (Stable.refl _ _) (Pre.nil _)
/-- A heap object's element: its block, its cells. -/
theorem St.elem {id : Nat} {ty : TypeId} {ap : Bool} {fz : Nat} {es : List (List AV)} (hst : St P B ok0 ρ H w) (hx : H[id]? = some (.arr ty ap fz es)) {b sz : Nat} (hr : ρ[id]? = some (b, sz)) {i : Nat} {e : List AV} (he : es[i]? = some e) :
    e.length = sz ∧ ∃ us : Nat → Value, (∀ (j : Nat) (x : AV), e[j]? = some x → w.cell? ⟨b, i * sz + j, none⟩ = some (us j)) ∧ ∀ (j : Nat) (x : AV), e[j]? = some x → VR P (okS B ok0 ρ H) w ρ x (us j) := by
  obtain ⟨a1, a2, a3, C, fr, c1, c2, c3, c4, c5⟩ := hst.arr id ty ap fz es b sz hx hr
  refine ⟨a3 e (List.mem_of_getElem? he), fun j => C.getD (i * sz + j) undef, fun j x hj => ?_, fun j x hj => ?_⟩
  · obtain ⟨u, cu, hu⟩ := c5 i e j x he hj
    rw [cell_cells c1, cu]
    simp [Array.getD_eq_getD_getElem?, cu]
  · obtain ⟨u, cu, hu⟩ := c5 i e j x he hj
    simpa [Array.getD_eq_getD_getElem?, cu] using hu
theorem aload_sound {t : TypeId} {p y : AV} {u : Value} (hst : St P B ok0 ρ H w) (hp : VR P (okS B ok0 ρ H) w ρ p u) (h : aload P t p H = some y) : ∃ v, (Instr.loadAt t u).run P w = .ok v w ∧ VR P (okS B ok0 ρ H) w ρ y v := by
  unfold aload at h
  split at h
  · rename_i cs
    cases hp with
    | ip _ _ b off us hm hh =>
      rcases hp' : cs with _ | ⟨c, rest⟩
      · subst hp'
        unfold ldCells at h
        split at h
        · rename_i n ha hs
          obtain ⟨v, hv, hV⟩ := ldCells_sound (P := P) (w := w) (ok := okS B ok0 ρ H) (ρ := ρ) (t := t) (cs := []) (y := y) (b := b) (off := off) (us := us) (fun j x hx => by simp at hx) (fun j x hx => by simp at hx) (by unfold ldCells; rw [ha, hs]; exact h)
          exact ⟨v, by simpa [Instr.loadAt, Instr.sureAddr] using hv, hV⟩
        · rename_i hcons; cases hcons
        · cases h
      · rw [← hp'] at *
        obtain ⟨v, hv, hV⟩ := ldCells_sound (P := P) (w := w) (ok := okS B ok0 ρ H) (ρ := ρ) (b := b) (off := off) (us := us) (fun j x hx => (hm j x hx).1) (fun j x hx => (hh j x hx).up) h
        exact ⟨v, by simpa [Instr.loadAt, Instr.sureAddr] using hv, hV⟩
  · rename_i id i j
    split at h
    · rename_i ty ap fz es hx
      split at h
      · rename_i e he
        cases hp with
        | ptr _ _ _ _ b sz hr =>
          obtain ⟨hl, us, h1, h2⟩ := hst.elem hx hr he
          obtain ⟨v, hv, hV⟩ := ldCells_sound (P := P) (w := w) (ok := okS B ok0 ρ H) (ρ := ρ) (t := t) (cs := e.drop j) (y := y) (b := b) (off := i * sz + j) (us := fun q => us (j + q))
            (fun q x hq => by rw [List.getElem?_drop] at hq; rw [Nat.add_assoc]; exact h1 (j + q) x hq) (fun q x hq => by rw [List.getElem?_drop] at hq; exact h2 (j + q) x hq) h
          exact ⟨v, by simpa [Instr.loadAt, Instr.sureAddr] using hv, hV⟩
      · cases h
    · cases h
  · cases h
end

/-! ### stores -/
def spliceA (C : Array Value) (off : Nat) (vs : List Value) : Array Value := (C.toList.take off ++ vs ++ C.toList.drop (off + vs.length)).toArray
theorem size_spliceA (C : Array Value) (off : Nat) (vs : List Value) (h : off + vs.length ≤ C.size) : (spliceA C off vs).size = C.size := by
  simp only [spliceA, List.size_toArray, List.length_append, List.length_take, List.length_drop, Array.length_toList]
  omega
theorem get_spliceA (C : Array Value) (off : Nat) (vs : List Value) (h : off + vs.length ≤ C.size) (o : Nat) : (spliceA C off vs)[o]? = if o < off then C[o]? else if o < off + vs.length then vs[o - off]? else C[o]? := by
  simp only [spliceA, List.getElem?_toArray]
  have hl : (C.toList.take off).length = off := by simp; omega
  by_cases h1 : o < off
  · rw [if_pos h1, List.append_assoc, List.getElem?_append_left (by omega), List.getElem?_take, if_pos h1, Array.getElem?_toList]
  · rw [if_neg h1, List.append_assoc, List.getElem?_append_right (by omega), hl]
    by_cases h2 : o < off + vs.length
    · rw [if_pos h2, List.getElem?_append_left (by omega)]
    · rw [if_neg h2, List.getElem?_append_right (by omega), List.getElem?_drop, show off + vs.length + (o - off - vs.length) = o by omega, Array.getElem?_toList]
theorem run_storeCells_blk {P : Program} (b off : Nat) : ∀ (vs : List Value) (i : Nat) (w : World) (C : Array Value) (ty : TypeId) (fr : Nat × Nat), w.heap[b]? = some (.cells C ty fr) → off + i + vs.length ≤ C.size →
    (∀ o, o < C.size → ¬ (fr.1 ≤ o ∧ o < fr.2)) → (∀ v ∈ vs, v.oneCell' = true) →
    ∃ w', (storeCells ⟨b, off, none⟩ vs i).run P w = .ok () w' ∧ Below b w w' ∧ (∀ k, k ≠ b → w'.heap[k]? = w.heap[k]?) ∧ w'.heap[b]? = some (.cells (spliceA C (off + i) vs) ty fr)
  | [], i, w, C, ty, fr, hb, hl, hf, h1 => by
    refine ⟨w, rfl, Below.refl _ _, fun _ _ => rfl, ?_⟩
    rw [hb]
    simp [spliceA]
  | v :: rest, i, w, C, ty, fr, hb, hl, hf, h1 => by
    simp only [List.length_cons] at hl
    have hlt : off + i < C.size := by omega
    have hcell : w.cell? ⟨b, off + i, none⟩ = some C[off + i] := by rw [cell_cells hb]; exact Array.getElem?_eq_getElem hlt
    have hfz : w.frozen? ⟨b, off + i, none⟩ = false := by
      have := hf (off + i) hlt
      obtain ⟨lo, hi⟩ := fr
      simp only [World.frozen?, hb]
      simp only at this
      simpa using this
    have hst : (store ((⟨b, off, none⟩ : Addr).add i) v).run P w = .ok () (w.setCell ⟨b, off + i, none⟩ v) := by
      rw [addr_add, run_store P w _ _ _ (h1 v (by simp)), hcell, hfz]
      rfl
    have hb1 : (w.setCell ⟨b, off + i, none⟩ v).heap[b]? = some (.cells (C.setIfInBounds (off + i) v) ty fr) := by
      simp only [World.setCell, Array.getElem?_modify, hb, Option.map_some, if_true]
      rfl
    obtain ⟨w', e1, e2, e3, e4⟩ := run_storeCells_blk b off rest (i + 1) _ _ ty fr hb1 (by simp; omega) (by simpa using hf) (fun u hu => h1 u (by simp [hu]))
    refine ⟨w', ?_, ?_, fun k hk => ?_, ?_⟩
    · simp only [storeCells, Sem.run_bind, hst, Result.andThen_ok]
      exact e1
    · exact ((Below.refl b w).setCell (Nat.le_refl _) v).trans e2
    · rw [e3 k hk]
      exact Below.heap_setCell w _ v k hk
    · rw [e4]
      congr 2
      apply Array.ext_getElem?
      intro o
      rw [get_spliceA _ _ _ (by simp; omega), get_spliceA _ _ _ (by simp; omega)]
      simp only [List.length_cons, Array.getElem?_setIfInBounds]
      by_cases ho : o < off + i
      · rw [if_pos (by omega), if_neg (by omega), if_pos ho]
      · rw [if_neg ho]
        by_cases he : o = off + i
        · subst he
          rw [if_pos (by omega), if_pos rfl, if_pos (by omega), if_pos (by omega)]
          simp
        · by_cases h2 : o < off + (i + 1) + rest.length
          · rw [if_neg (by omega), if_pos h2, if_pos (by omega)]
            rw [show o - (off + i) = (o - (off + (i + 1))) + 1 by omega]
            simp
          · rw [if_neg (by omega), if_neg h2, if_neg (by omega), if_neg (by omega)]

section
variable {P : Program} {w : World} {B : Nat} {ok0 : Nat → Nat → Prop} {ρ : Pl} {H : AHeap}
theorem shape_spliceA {b : Nat} {C : Array Value} {ty : TypeId} {fr : Nat × Nat} {off : Nat} {vs : List Value} {w w' : World} (h : w.heap[b]? = some (.cells C ty fr)) (h' : w'.heap[b]? = some (.cells (spliceA C off vs) ty fr)) (hl : off + vs.length ≤ C.size) :
    ∀ s, w.shape? b = some s → w'.shape? b = some s := by
  intro s hs
  rw [shape_cells h] at hs
  rw [shape_cells h', size_spliceA _ _ _ hl]
  exact hs
/-- Elements of a heap array are written, from element q on, whole or in part: the new elements' cells lie as the splice lays them. -/
theorem St.splice {w' : World} (hst : St P B ok0 ρ H w) {id : Nat} {ty : TypeId} {ap : Bool} {fz : Nat} {es es' : List (List AV)} {b sz : Nat} (hx : H[id]? = some (.arr ty ap fz es)) (hr : ρ[id]? = some (b, sz)) {C : Array Value} {fr : Nat × Nat}
    (hb : w.heap[b]? = some (.cells C ty fr)) {off : Nat} {vs : List Value} (hlo : fz * sz ≤ off) (hl : off + vs.length ≤ C.size) (hw : Below b w w') (hoth : ∀ k, k ≠ b → w'.heap[k]? = w.heap[k]?) (hb' : w'.heap[b]? = some (.cells (spliceA C off vs) ty fr))
    (hz : ∀ e ∈ es', e.length = sz) (hfit : es'.length * sz ≤ C.size)
    (hnew : ∀ (i : Nat) (e : List AV) (j : Nat) (x : AV), es'[i]? = some e → e[j]? = some x → (∃ e0, es[i]? = some e0 ∧ e0[j]? = some x ∧ (i * sz + j < off ∨ off + vs.length ≤ i * sz + j)) ∨
      (off ≤ i * sz + j ∧ i * sz + j < off + vs.length ∧ ∃ u, vs[i * sz + j - off]? = some u ∧ VR P (okS B ok0 ρ H) w ρ x u)) :
    St P B ok0 ρ (H.set id (.arr ty ap fz es')) w' ∧ Evo B ok0 ρ H w ρ (H.set id (.arr ty ap fz es')) w' := by
  obtain ⟨a1, a2, a3, C0, fr0, c1, c2, c3, ⟨cap, c4, c4', c4''⟩, c5⟩ := hst.arr id ty ap fz es b sz hx hr
  rw [hb] at c1
  simp only [Option.some.injEq, Obj.cells.injEq, true_and] at c1
  obtain ⟨rfl, rfl⟩ := c1
  refine hst.modify hx hr trivial trivial (fun o => Iff.rfl) hw hoth hb' ?_ (shape_spliceA hb hb' hl) ?_ (fun es e => by cases e) (fun s p e => by cases e)
  · intro o u hk hc
    rw [cell_cells hb] at hc
    have hk' : o < fz * sz := hk
    rw [cell_cells hb', get_spliceA _ _ _ hl, if_pos (by omega)]
    exact hc
  · intro ty' ap' fz' es'' e
    cases e
    have hsz := size_spliceA C off vs hl
    refine ⟨a1, a2, hz, _, _, rfl, c2, by rw [hsz]; exact c3, ⟨cap, by rw [hsz]; exact c4, ?_, c4''⟩, fun i e j x he hj => ?_⟩
    · rw [c4] at hfit
      exact Nat.le_of_mul_le_mul_right hfit a1
    · rw [get_spliceA _ _ _ hl]
      rcases hnew i e j x he hj with ⟨e0, h1, h2, h3⟩ | ⟨h1, h2, u, h3, h4⟩
      · obtain ⟨u, cu, hu⟩ := c5 i e0 j x h1 h2
        refine ⟨u, ?_, hu⟩
        rcases h3 with h3 | h3
        · rw [if_pos h3]; exact cu
        · rw [if_neg (by omega), if_neg (by omega)]; exact cu
      · refine ⟨u, ?_, h4⟩
        rw [if_neg (by omega), if_pos h2]
        exact h3
theorem getD_of {vs : List Value} {i : Nat} (h : i < vs.length) : vs[i]? = some (vs.getD i undef) := by
  simp [List.getD, List.getElem?_eq_getElem h]
theorem astore_sound {t : TypeId} {p x : AV} {u v : Value} {H' : AHeap} (hst : St P B ok0 ρ H w) (hp : VR P (okS B ok0 ρ H) w ρ p u) (hx : VR P (okS B ok0 ρ H) w ρ x v) (h : astore P t p x H = some H') :
    ∃ w', (Instr.storeAt t u v).run P w = .ok () w' ∧ St P B ok0 ρ H' w' ∧ Evo B ok0 ρ H w ρ H' w' := by
  unfold astore at h
  split at h
  · rename_i id i j
    split at h
    · rename_i ty ap fz es hid
      split at h
      · rename_i e he
        split at h
        · rename_i hc
          obtain ⟨h1, h2, h3, h4⟩ := hc
          simp only [Option.some.injEq] at h
          subst h
          cases hp with
          | ptr _ _ _ _ b sz hr =>
            obtain ⟨a1, a2, a3, C, fr, c1, c2, c3, ⟨cap, c4, c4', c4''⟩, c5⟩ := hst.arr id ty ap fz es b sz hid hr
            obtain ⟨k1, k2⟩ := cells_VR hx h3
            have hel : e.length = sz := a3 e (List.mem_of_getElem? he)
            have hil : i < es.length := (List.getElem?_eq_some_iff.1 he).1
            have hmul : i * sz + sz ≤ C.size := by
              rw [c4, ← Nat.succ_mul]
              exact Nat.mul_le_mul_right _ (by omega)
            have hvl : v.cells.toList.length = x.cells.length := by simpa using k1
            have hl : (i * sz + j) + v.cells.toList.length ≤ C.size := by omega
            obtain ⟨w', e1, e2, e3, e4⟩ := run_storeCells_blk (P := P) b (i * sz + j) v.cells.toList 0 w C ty fr c1 (by omega) c3 (cells_one hx h3)
            simp only [Nat.add_zero] at e4
            refine ⟨w', ?_, ?_⟩
            · simp only [Instr.storeAt, Instr.sureAddr, Sem.run_bind, Sem.run_pure, Result.andThen_ok, storeVar, run_sizeOf h2]
              rw [if_neg (by simp [k1])]
              exact e1
            · refine hst.splice hid hr c1 (off := i * sz + j) (vs := v.cells.toList) ?_ hl e2 e3 e4 ?_ ?_ ?_
              · have := Nat.mul_le_mul_right sz h1; omega
              · intro e' he'
                rcases List.mem_or_eq_of_mem_set he' with hm | rfl
                · exact a3 e' hm
                · simp only [List.length_append, List.length_take, List.length_drop]; omega
              · rw [List.length_set, c4]
                exact Nat.mul_le_mul_right _ c4'
              · intro q f r y hq hr'
                by_cases hqi : q = i
                · subst hqi
                  rw [List.getElem?_set_self hil] at hq
                  simp only [Option.some.injEq] at hq
                  subst hq
                  rw [List.append_assoc] at hr'
                  by_cases hr1 : r < j
                  · rw [List.getElem?_append_left (by simp; omega), List.getElem?_take, if_pos hr1] at hr'
                    exact .inl ⟨e, he, hr', .inl (by omega)⟩
                  · rw [List.getElem?_append_right (by simp; omega)] at hr'
                    have hjl : (e.take j).length = j := by simp; omega
                    rw [hjl] at hr'
                    by_cases hr2 : r < j + x.cells.length
                    · rw [List.getElem?_append_left (by omega)] at hr'
                      refine .inr ⟨by omega, by omega, v.cells.toList.getD (r - j) undef, ?_, k2 _ _ hr'⟩
                      rw [show q * sz + r - (q * sz + j) = r - j by omega]
                      exact getD_of (by omega)
                    · rw [List.getElem?_append_right (by omega), List.getElem?_drop, show j + x.cells.length + (r - j - x.cells.length) = r by omega] at hr'
                      exact .inl ⟨e, he, hr', .inr (by omega)⟩
                · rw [List.getElem?_set_ne (Ne.symm hqi)] at hq
                  refine .inl ⟨f, hq, hr', ?_⟩
                  have hfl : f.length = sz := a3 f (List.mem_of_getElem? hq)
                  have hrl : r < sz := by have := (List.getElem?_eq_some_iff.1 hr').1; omega
                  rcases Nat.lt_or_gt_of_ne hqi with hlt | hgt
                  · left
                    have : (q + 1) * sz ≤ i * sz := Nat.mul_le_mul_right _ hlt
                    rw [Nat.succ_mul] at this
                    omega
                  · right
                    have : (i + 1) * sz ≤ q * sz := Nat.mul_le_mul_right _ hgt
                    rw [Nat.succ_mul] at this
                    omega
        · cases h
      · cases h
    · cases h
  · cases h
end
end Go.Vam
/- The abstract machine VAM is sound: new objects, struct and slice literals. -/

namespace Go.Vam
open Go.RowKit

section
variable {P : Program} {w : World} {B : Nat} {ok0 : Nat → Nat → Prop} {ρ : Pl} {H : AHeap}
theorem run_zeroValue {t : TypeId} {i : TypeInfo} {z : Value} (hi : P.info? t = some i) (hz : i.zero = some z) (w : World) : (zeroValue t).run P w = .ok z w := by
  simp [zeroValue, run_typeInfo hi, hz]
theorem zeroT_some {t : TypeId} {zs : List AV} (h : zeroT P t = some zs) : ∃ i z, P.info? t = some i ∧ i.zero = some z ∧ i.size = zs.length ∧ z.cells.size = zs.length ∧ zs ≠ [] ∧ zs.all AV.isCell = true ∧
    ∀ {ok : Nat → Nat → Prop} {w : World} {ρ : Pl} (i : Nat) (x : AV), zs[i]? = some x → VR P ok w ρ x (z.cells.toList.getD i undef) := by
  unfold zeroT at h
  split at h
  · rename_i z hz
    split at h
    · rename_i hc
      simp only [Bool.and_eq_true, beq_iff_eq, Bool.not_eq_true', List.isEmpty_eq_false_iff] at hc
      obtain ⟨⟨h1, h2⟩, h3⟩ := hc
      simp only [Option.some.injEq] at h
      subst h
      cases hi : P.info? t with
      | none => rw [hi] at hz; cases hz
      | some i =>
        rw [hi] at hz
        obtain ⟨i', hi', hs⟩ := szOf_some h2
        rw [hi] at hi'
        cases hi'
        exact ⟨i, z, rfl, hz, hs, ((ofZero_VR (P := P) (ok := fun _ _ => True) (w := default) (ρ := []) z).1).symm, h3, h1, fun {ok w ρ} => (ofZero_VR (P := P) (ok := ok) (w := w) (ρ := ρ) z).2⟩
    · cases h
  · cases h
theorem zeroT_sz {t : TypeId} {zs : List AV} (h : zeroT P t = some zs) : szOf P t = some zs.length := by
  obtain ⟨i, z, hi, hz, hs, _⟩ := zeroT_some h
  simp [szOf, hi, hs]
theorem below_alloc' (w : World) (o : Obj) : Below w.heap.size w (w.alloc o) := (Below.refl _ _).alloc (Nat.le_refl _) o
/-- A new array. -/
theorem St.newArr (hst : St P B ok0 ρ H w) (hB : B ≤ w.heap.size) {w' : World} {ty : TypeId} {ap : Bool} {fz : Nat} {es : List (List AV)} {C : Array Value} {fr : Nat × Nat} {sz cap : Nat} (hw : Below w.heap.size w w')
    (hn : w'.heap[w.heap.size]? = some (.cells C ty fr)) (h0 : 0 < sz) (hs : szOf P ty = some sz) (hz : ∀ e ∈ es, e.length = sz) (hfr : ap = true → fr = (0, 0)) (hnf : ∀ o, o < C.size → ¬ (fr.1 ≤ o ∧ o < fr.2))
    (hc : C.size = cap * sz) (hl : es.length ≤ cap) (hm : cap ≤ maxLen)
    (hv : ∀ (i : Nat) (e : List AV) (j : Nat) (x : AV), es[i]? = some e → e[j]? = some x → ∃ u, C[i * sz + j]? = some u ∧ VR P (okS B ok0 ρ H) w ρ x u) :
    St P B ok0 (ρ ++ [(w.heap.size, sz)]) (H ++ [.arr ty ap fz es]) w' ∧ Evo B ok0 ρ H w (ρ ++ [(w.heap.size, sz)]) (H ++ [.arr ty ap fz es]) w' := by
  refine hst.alloc hB hw hn ?_ (fun es e => by cases e) (fun s p e => by cases e)
  intro ty' ap' fz' es' e
  cases e
  exact ⟨h0, hs, hz, C, fr, rfl, hfr, hnf, ⟨cap, hc, hl, hm⟩, hv⟩
theorem plNew (hst : St P B ok0 ρ H w) (p : Nat × Nat) : (ρ ++ [p])[H.length]? = some p := by rw [← hst.len]; simp
theorem ptr_VR {ok : Nat → Nat → Prop} {w' : World} {ρ' : Pl} {id b sz : Nat} (h : ρ'[id]? = some (b, sz)) : VR P ok w' ρ' (.ptr id 0 0) (.pointer (some ⟨b, 0, none⟩)) := by
  have := VR.ptr (P := P) (ok := ok) (w := w') ρ' id 0 0 b sz h
  simpa using this
theorem hs_VR {ok : Nat → Nat → Prop} {w' : World} {ρ' : Pl} {id b sz n cap : Nat} {C : Array Value} {ty : TypeId} {fr : Nat × Nat} (h : ρ'[id]? = some (b, sz)) (hn : n ≤ cap) (hb : w'.heap[b]? = some (.cells C ty fr)) (hc : C.size = cap * sz) :
    VR P ok w' ρ' (.hs id 0 n) (.slice (some ⟨b, 0, none⟩) n cap) := by
  have := VR.hs (P := P) (ok := ok) (w := w') ρ' id 0 n b sz cap ty h hn (by rw [shape_cells hb, hc]; simp)
  simpa using this
theorem anew_sound (hst : St P B ok0 ρ H w) (hB : B ≤ w.heap.size) {t : TypeId} {xs : List AV} {vs : Array Value} (hs : szOf P t = some xs.length) (hne : xs ≠ []) (hl : vs.size = xs.length)
    (hv : ∀ (i : Nat) (x : AV), xs[i]? = some x → VR P (okS B ok0 ρ H) w ρ x (vs.toList.getD i undef)) :
    ∃ ρ', St P B ok0 ρ' (H ++ [.arr t true 0 [xs]]) (w.alloc (.cells vs t)) ∧ Evo B ok0 ρ H w ρ' (H ++ [.arr t true 0 [xs]]) (w.alloc (.cells vs t)) ∧
      VR P (okS B ok0 ρ' (H ++ [.arr t true 0 [xs]])) (w.alloc (.cells vs t)) ρ' (.ptr H.length 0 0) (.pointer (some ⟨w.heap.size, 0, none⟩)) := by
  have h0 : 0 < xs.length := List.length_pos_iff.2 hne
  have := hst.newArr (ty := t) (ap := true) (fz := 0) (es := [xs]) (C := vs) (fr := (0, 0)) (sz := xs.length) (cap := 1) hB (below_alloc' w (.cells vs t)) (heap_alloc_new w _) h0 hs (by simp) (fun _ => rfl) (by intro o ho; simp) (by omega) (by simp) (by unfold maxLen; omega)
    (fun i e j x he hj => by
      match i, he with
      | 0, he =>
        simp only [List.getElem?_cons_zero, Option.some.injEq] at he
        subst he
        have hjl := (List.getElem?_eq_some_iff.1 hj).1
        refine ⟨vs.toList.getD j undef, ?_, hv j x hj⟩
        have : j < vs.size := by omega
        simp [List.getD, this])
  exact ⟨_, this.1, this.2, ptr_VR (plNew hst _)⟩
theorem run_newRow (e : TypeId) (C : Array Value) (w : World) : (newRow e C).run P w = .ok ⟨w.heap.size, 0, none⟩ (w.alloc (.cells C e)) := by
  simp [newRow]
theorem aalloc_sound (hst : St P B ok0 ρ H w) (hB : B ≤ w.heap.size) {t : TypeId} {zs : List AV} (h : zeroT P t = some zs) :
    ∃ v w' ρ', (Instr.alloc t true (.tuple #[])).run P w = .ok v w' ∧ St P B ok0 ρ' (anew t zs H).2 w' ∧ Evo B ok0 ρ H w ρ' (anew t zs H).2 w' ∧ VR P (okS B ok0 ρ' (anew t zs H).2) w' ρ' (anew t zs H).1 v := by
  obtain ⟨i, z, hi, hz, h1, h2, h3, h4, h5⟩ := zeroT_some h
  obtain ⟨ρ', a, b, c⟩ := anew_sound hst hB (t := t) (vs := z.cells) (zeroT_sz h) h3 h2 h5
  refine ⟨_, _, ρ', ?_, a, b, c⟩
  simp only [Instr.alloc, Sem.run_bind, run_zeroValue hi hz, Result.andThen_ok, newVar, run_newRow, Sem.run_pure]
theorem abox_sound (hst : St P B ok0 ρ H w) (hB : B ≤ w.heap.size) {t : TypeId} {x : AV} {u : Value} {r : AV × AHeap} (hx : VR P (okS B ok0 ρ H) w ρ x u) (h : abox P t x H = some r) :
    ∃ v w' ρ', (Instr.box t u).run P w = .ok v w' ∧ St P B ok0 ρ' r.2 w' ∧ Evo B ok0 ρ H w ρ' r.2 w' ∧ VR P (okS B ok0 ρ' r.2) w' ρ' r.1 v := by
  unfold abox at h
  split at h
  · rename_i hc
    obtain ⟨h1, h2, h3⟩ := hc
    simp only [Option.some.injEq] at h
    subst h
    obtain ⟨k1, k2⟩ := cells_VR hx h2
    obtain ⟨ρ', a, b, c⟩ := anew_sound hst hB (t := t) (vs := u.cells) h1 h3 k1 k2
    refine ⟨_, _, ρ', ?_, a, b, c⟩
    simp only [Instr.box, newVar, Sem.run_bind, run_newRow, Result.andThen_ok, Sem.run_pure]
  · cases h

/-! ### literals -/
theorem fill_one (cells : Array Value) (off : Nat) (c : List Value) (h : off + c.length ≤ cells.size) : (c.toArray.zipIdx.foldl (fun cs x => cs.setIfInBounds (off + x.2) x.1) cells) = spliceA cells off c := by
  have key : ∀ (c : List Value) (k : Nat) (cells : Array Value), off + k + c.length ≤ cells.size → (c.zipIdx k).foldl (fun cs x => cs.setIfInBounds (off + x.2) x.1) cells = spliceA cells (off + k) c := by
    intro c
    induction c with
    | nil =>
      intro k cells h
      simp [spliceA]
    | cons a c ih =>
      intro k cells h
      simp only [List.length_cons] at h
      simp only [List.zipIdx_cons, List.foldl_cons]
      rw [ih (k + 1) _ (by simp; omega)]
      apply Array.ext_getElem?
      intro o
      rw [get_spliceA _ _ _ (by simp; omega), get_spliceA _ _ _ (by simp; omega)]
      simp only [List.length_cons, Array.getElem?_setIfInBounds]
      by_cases ho : o < off + k
      · rw [if_pos (by omega), if_neg (by omega), if_pos ho]
      · rw [if_neg ho]
        by_cases he : o = off + k
        · subst he
          rw [if_pos (by omega), if_pos rfl, if_pos (by omega), if_pos (by omega)]
          simp
        · by_cases h2 : o < off + (k + 1) + c.length
          · rw [if_neg (by omega), if_pos h2, if_pos (by omega), show o - (off + k) = (o - (off + (k + 1))) + 1 by omega]
            simp
          · rw [if_neg (by omega), if_neg h2, if_neg (by omega), if_neg (by omega)]
  have := key c 0 cells (by omega)
  simp only [Nat.add_zero] at this
  rw [← this, ← Array.foldl_toList]
  simp
theorem fill_fields {t : TypeId} {fs : Array Field} (ht : P.underlying t = some (.struct fs)) {ok : Nat → Nat → Prop} (places : Array (Nat × Nat)) (hpl : ∀ (i : Nat) (f : Field), fs[i]? = some f → ∃ n, szOf P f.type = some n ∧ places[i]? = some (f.offset, n)) :
    ∀ (parts : List (Nat × AV)) (vs : List (Nat × Value)) (cs cs' : List AV) (C : Array Value), parts.length = vs.length →
      (∀ (i : Nat) (q : Nat) (x : AV), parts[i]? = some (q, x) → (vs.getD i (0, undef)).1 = q ∧ VR P ok w ρ x (vs.getD i (0, undef)).2) → C.size = cs.length → (∀ (i : Nat) (x : AV), cs[i]? = some x → VR P ok w ρ x (C.getD i undef)) → afill P t parts cs = some cs' →
      ∃ C', Instr.fill (places[·]?) C vs = some C' ∧ C'.size = cs'.length ∧ ∀ (i : Nat) (x : AV), cs'[i]? = some x → VR P ok w ρ x (C'.getD i undef)
  | [], vs, cs, cs', C, hlen, hv, hC, hc, h => by
    have : vs = [] := List.eq_nil_of_length_eq_zero (by simpa using hlen.symm)
    subst this
    simp only [afill, Option.some.injEq] at h
    subst h
    exact ⟨C, rfl, hC, hc⟩
  | (f, x) :: parts, [], cs, cs', C, hlen, hv, hC, hc, h => by simp at hlen
  | (f, x) :: parts, (q, v) :: vs, cs, cs', C, hlen, hv, hC, hc, h => by
    have h0 := hv 0 f x rfl
    simp only [List.getD_cons_zero] at h0
    obtain ⟨rfl, hx⟩ := h0
    simp only [afill] at h
    split at h
    · rename_i off ty hf
      split at h
      · rename_i hcond
        obtain ⟨k1, k2, k3⟩ := hcond
        obtain ⟨m1, m2⟩ := cells_VR hx k2
        unfold fldT at hf
        rw [ht] at hf
        simp only at hf
        cases hfs : fs[q]? with
        | none => rw [hfs] at hf; cases hf
        | some fd =>
          rw [hfs] at hf
          simp only [Option.map_some, Option.some.injEq, Prod.mk.injEq] at hf
          obtain ⟨rfl, rfl⟩ := hf
          obtain ⟨n, hn, hp⟩ := hpl q fd hfs
          rw [k1] at hn
          cases hn
          have hsp := fill_one C fd.offset v.cells.toList (by simp only [Array.length_toList]; omega)
          simp only [Array.toArray_toList] at hsp
          have hlsz : fd.offset + v.cells.toList.length ≤ C.size := by simp only [Array.length_toList]; omega
          obtain ⟨C', e1, e2, e3⟩ := fill_fields ht places hpl parts vs (cs.take fd.offset ++ x.cells ++ cs.drop (fd.offset + x.cells.length)) cs' (spliceA C fd.offset v.cells.toList) (by simpa using hlen)
            (fun i q' y hy => by have := hv (i + 1) q' y (by simpa using hy); simpa using this) (by rw [size_spliceA _ _ _ hlsz]; simp; omega) (fun i y hy => by
              rw [Array.getD_eq_getD_getElem?, get_spliceA _ _ _ hlsz]
              simp only [Array.length_toList]
              rw [List.append_assoc] at hy
              have ht' : (cs.take fd.offset).length = fd.offset := by simp; omega
              by_cases hi : i < fd.offset
              · rw [List.getElem?_append_left (by omega), List.getElem?_take, if_pos hi] at hy
                rw [if_pos hi, ← Array.getD_eq_getD_getElem?]
                exact hc i y hy
              · rw [if_neg hi]
                rw [List.getElem?_append_right (by omega), ht'] at hy
                by_cases hi2 : i < fd.offset + v.cells.size
                · rw [if_pos hi2]
                  rw [List.getElem?_append_left (by omega)] at hy
                  have := m2 (i - fd.offset) y hy
                  simpa [List.getD] using this
                · rw [if_neg hi2, ← Array.getD_eq_getD_getElem?]
                  rw [List.getElem?_append_right (by omega), List.getElem?_drop, show fd.offset + x.cells.length + (i - fd.offset - x.cells.length) = i by omega] at hy
                  exact hc i y hy) h
          refine ⟨C', ?_, e2, e3⟩
          unfold Instr.fill
          simp only [hp]
          rw [if_neg (by simp only [Bool.or_eq_true, decide_eq_true_eq, ne_eq]; omega)]
          rw [hsp]
          exact e1
      · cases h
    · cases h
theorem run_mapM_list {α β : Type} (f : α → Sem β) (g : α → β) (w : World) : ∀ (l : List α), (∀ x ∈ l, (f x).run P w = .ok (g x) w) → (l.mapM f).run P w = .ok (l.map g) w
  | [], _ => rfl
  | a :: l, h => by
    simp only [List.mapM_cons, Sem.run_bind, h a (by simp), Result.andThen_ok, run_mapM_list f g w l (fun x hx => h x (by simp [hx])), Sem.run_pure, List.map_cons]
theorem run_mapM_array {α β : Type} (f : α → Sem β) (g : α → β) (w : World) (l : Array α) (h : ∀ x ∈ l.toList, (f x).run P w = .ok (g x) w) : (l.mapM f).run P w = .ok (l.map g) w := by
  rw [Array.mapM_eq_mapM_toList]
  simp only [Sem.run_map, run_mapM_list f g w l.toList h, Result.andThen_ok]
  congr 1
  apply Array.ext'
  simp
theorem abuild_sound {ok : Nat → Nat → Prop} {t : TypeId} {parts : List (Nat × AV)} {vs : List (Nat × Value)} {y : AV} (hlen : parts.length = vs.length)
    (hv : ∀ (i : Nat) (q : Nat) (x : AV), parts[i]? = some (q, x) → (vs.getD i (0, undef)).1 = q ∧ VR P ok w ρ x (vs.getD i (0, undef)).2) (h : abuild P t parts = some y) :
    ∃ v, (Instr.build t vs.toArray).run P w = .ok v w ∧ VR P ok w ρ y v := by
  unfold abuild at h
  split at h
  · rename_i hsT
    split at h
    · rename_i zs hz
      obtain ⟨i, z, hi, hzz, h1, h2, h3, h4, h5⟩ := zeroT_some hz
      unfold structT at hsT
      split at hsT
      · rename_i fs ht
        cases hf : afill P t parts zs with
        | none => rw [hf] at h; cases h
        | some cs' =>
          rw [hf] at h
          simp only [Option.map_some, Option.some.injEq] at h
          subst h
          have hall : ∀ f ∈ fs.toList, ∃ n, szOf P f.type = some n := fun f hf => Option.isSome_iff_exists.1 (List.all_eq_true.1 hsT f hf)
          obtain ⟨C', e1, e2, e3⟩ := fill_fields (P := P) (w := w) (ρ := ρ) (ok := ok) ht (fs.map fun f => (f.offset, (szOf P f.type).getD 0)) (fun q fd hq => by
            obtain ⟨n, hn⟩ := hall fd (by rw [Array.mem_toList_iff]; exact Array.mem_of_getElem? hq)
            exact ⟨n, hn, by simp [hq, hn]⟩) parts vs zs cs' z.cells hlen hv h2 (fun i x hx => by have := h5 (ok := ok) (w := w) (ρ := ρ) i x hx; simpa [Array.getD_eq_getD_getElem?, List.getD] using this) hf
          refine ⟨.agg C', ?_, ?_⟩
          · have hm : (fs.mapM fun (f : Field) => (do pure (f.offset, ← sizeOf f.type) : Sem (Nat × Nat))).run P w = .ok (fs.map fun f => (f.offset, (szOf P f.type).getD 0)) w := by
              refine run_mapM_array _ _ w fs fun f hf => ?_
              obtain ⟨n, hn⟩ := hall f hf
              simp only [Sem.run_bind, run_sizeOf hn, Result.andThen_ok, Sem.run_pure, hn, Option.getD_some]
            simp only [Instr.build, Sem.run_bind, run_zeroValue hi hzz, Result.andThen_ok, run_underlying ht, hm, e1, Sem.run_pure]
          · have := VR.agg (P := P) (ok := ok) (w := w) ρ cs' C'.toList (by simpa using e2.symm) (fun i x hx => by have := e3 i x hx; simpa [Array.getD_eq_getD_getElem?, List.getD] using this)
            simpa using this
      · cases hsT
    · cases h
  · cases h
end
end Go.Vam
/- The abstract machine VAM is sound: slices, cuts, indexes, fields, operators. -/



namespace Go.Vam
open Go.RowKit

section
variable {P : Program} {w : World} {B : Nat} {ok0 : Nat → Nat → Prop} {ρ : Pl} {H : AHeap}

theorem sliceT_some {t e : TypeId} (h : sliceT P t = some e) : P.underlying t = some (.slice e) := by
  unfold sliceT at h
  split at h
  · rename_i e' he; cases h; exact he
  · cases h
theorem arrT_some {t e : TypeId} {n : Nat} (h : arrT P t = some (n, e)) : P.underlying t = some (.array n e) := by
  unfold arrT at h
  split at h
  · rename_i n' e' he; cases h; exact he
  · cases h
theorem strT_true {t : TypeId} (h : strT P t = true) : P.underlying t = some .string := by
  unfold strT at h
  split at h
  · rename_i he; exact he
  · cases h
theorem intT_some {t : TypeId} {k : IntKind} (h : intT P t = some k) : P.underlying t = some (.int k) := by
  unfold intT at h
  split at h
  · rename_i k' he; cases h; exact he
  · cases h
theorem mapT_some {t k e : TypeId} (h : mapT P t = some (k, e)) : P.underlying t = some (.map k e) := by
  unfold mapT at h
  split at h
  · rename_i k' e' he; cases h; exact he
  · cases h
theorem fldT_some {t ty : TypeId} {f off : Nat} (h : fldT P t f = some (off, ty)) : ∃ fs fd, P.underlying t = some (.struct fs) ∧ fs[f]? = some fd ∧ fd.offset = off ∧ fd.type = ty := by
  unfold fldT at h
  split at h
  · rename_i fs hfs
    cases hf : fs[f]? with
    | none => rw [hf] at h; cases h
    | some fd =>
      rw [hf] at h
      simp only [Option.map_some, Option.some.injEq, Prod.mk.injEq] at h
      exact ⟨fs, fd, hfs, hf, h.1, h.2⟩
  · cases h

/-- What a slice's elements are. -/
structure Elems (P : Program) (ok : Nat → Nat → Prop) (w : World) (ρ : Pl) (A : Option Addr) (es : List (List AV)) (b off sz : Nat) (us : Nat → Nat → Value) : Prop where
  addr : A = some ⟨b, off, none⟩
  hz : ∀ e ∈ es, e.length = sz
  cell : ∀ (i : Nat) (e : List AV) (j : Nat) (x : AV), es[i]? = some e → e[j]? = some x → w.cell? ⟨b, off + i * sz + j, none⟩ = some (us i j)
  val : ∀ (i : Nat) (e : List AV) (j : Nat) (x : AV), es[i]? = some e → e[j]? = some x → VR P ok w ρ x (us i j)
theorem elems_sound {x : AV} {u : Value} {es : List (List AV)} (hst : St P B ok0 ρ H w) (hx : VR P (okS B ok0 ρ H) w ρ x u) (h : aelems x H = some es) :
    ∃ A cap, u = .slice A es.length cap ∧ es.length ≤ cap ∧ (es = [] ∨ ∃ b off sz us, Elems P (okS B ok0 ρ H) w ρ A es b off sz us) := by
  unfold aelems at h
  split at h
  · simp only [Option.some.injEq] at h
    subst h
    cases hx with
    | sl _ _ b off sz cap us hz hc hm hh => exact ⟨_, _, rfl, hc, .inr ⟨b, off, sz, us, rfl, hz, fun i e j x he hj => (hm i e j x he hj).1, fun i e j x he hj => (hh i e j x he hj).up⟩⟩
    | sl0 _ a cap => exact ⟨_, _, rfl, Nat.zero_le _, .inl rfl⟩
  · simp only [Option.some.injEq] at h
    subst h
    cases hx
    exact ⟨none, 0, rfl, Nat.le_refl _, .inl rfl⟩
  · rename_i id i n
    split at h
    · rename_i ty ap fz es0 hid
      split at h
      · rename_i hle
        simp only [Option.some.injEq] at h
        subst h
        cases hx with
        | hs _ _ _ _ b sz cap ty' hr hn hs =>
          have hlen : ((es0.drop i).take n).length = n := by simp; omega
          refine ⟨some ⟨b, i * sz, none⟩, cap, by rw [hlen], by omega, .inr ⟨b, i * sz, sz, ?_⟩⟩
          obtain ⟨a1, a2, a3, C, fr, c1, c2, c3, c4, c5⟩ := hst.arr id ty ap fz es0 b sz hid hr
          have get : ∀ (q : Nat) (e : List AV), ((es0.drop i).take n)[q]? = some e → es0[i + q]? = some e := by
            intro q e hq
            rw [List.getElem?_take] at hq
            split at hq
            · rwa [List.getElem?_drop] at hq
            · cases hq
          refine ⟨fun q j => C.getD ((i + q) * sz + j) undef, rfl, ?_, ?_, ?_⟩
          · intro e he
            obtain ⟨q, hq⟩ := List.getElem?_of_mem he
            exact a3 e (List.mem_of_getElem? (get q e hq))
          · intro q e j x he hj
            obtain ⟨v, cv, hv⟩ := c5 _ e j x (get q e he) hj
            rw [cell_cells c1, show i * sz + q * sz + j = (i + q) * sz + j by rw [Nat.add_mul], cv]
            simp [Array.getD_eq_getD_getElem?, cv]
          · intro q e j x he hj
            obtain ⟨v, cv, hv⟩ := c5 _ e j x (get q e he) hj
            simpa [Array.getD_eq_getD_getElem?, cv] using hv
      · cases h
    · cases h
  · cases h

/-! ### cuts -/
inductive OV (P : Program) (ok : Nat → Nat → Prop) (w : World) (ρ : Pl) : Option AV → Option Value → Prop where
  | none : OV P ok w ρ none none
  | some (x : AV) (v : Value) (h : VR P ok w ρ x v) : OV P ok w ρ (some x) (some v)
theorem bound_run {ok : Nat → Nat → Prop} {x : Option AV} {v : Option Value} {d n y : Nat} (hv : OV P ok w ρ x v) (h : asBound x d = some n) (hn : n ≤ y) (code : BoundsCode) :
    (match v with | some u => Instr.sliceBound u y code | none => pure d).run P w = .ok n w := by
  cases hv with
  | none =>
    simp only [asBound, Option.some.injEq] at h
    subst h
    rfl
  | some x u hx =>
    unfold asBound at h
    split at h
    · rename_i he; cases he
    · rename_i k q he
      cases he
      split at h
      · rename_i h0
        simp only [Option.some.injEq] at h
        subst h
        cases hx
        exact run_sliceBound w k q y code h0 (by omega)
      · cases h
    · cases h
theorem bounds_run {ok : Nat → Nat → Prop} {lo hi : Option AV} {low high : Option Value} {l h len cap : Nat} (isS : Bool) (hl : OV P ok w ρ lo low) (hh : OV P ok w ρ hi high) (e1 : asBound lo 0 = some l) (e2 : asBound hi len = some h) (h1 : l ≤ h) (h2 : h ≤ cap) :
    (Instr.sliceBounds isS len cap low high none).run P w = .ok (l, h, cap) w := by
  unfold Instr.sliceBounds
  simp only [Sem.run_bind, Sem.run_pure, Result.andThen_ok]
  have a := bound_run (P := P) (w := w) hh e2 h2 (if isS then .sliceAcap else .sliceAlen)
  have b := bound_run (P := P) (w := w) hl e1 h1 .sliceB
  cases hh <;> cases hl <;> simp_all
theorem extract_toList (s : ByteArray) (l h : Nat) : (s.extract l h).data.toList = (s.data.toList.take h).drop l := by
  rw [Lib.extract_data, List.drop_take]
theorem aslice_sound {t : TypeId} {x y : AV} {u : Value} {lo hi : Option AV} {low high : Option Value} (hst : St P B ok0 ρ H w) (hx : VR P (okS B ok0 ρ H) w ρ x u) (hl : OV P (okS B ok0 ρ H) w ρ lo low) (hh : OV P (okS B ok0 ρ H) w ρ hi high)
    (h : aslice P t x lo hi H = some y) : ∃ v, (Instr.sliceAt t u low high none).run P w = .ok v w ∧ VR P (okS B ok0 ρ H) w ρ y v := by
  unfold aslice at h
  split at h
  · rename_i s
    split at h
    · rename_i hT
      split at h
      · rename_i l hq e1 e2
        split at h
        · rename_i hc
          simp only [Option.some.injEq] at h
          subst h
          cases hx with
          | str _ b =>
            have hsz : b.data.toList.length = b.size := by rw [Array.length_toList]; rfl
            rw [hsz] at e2
            rw [hsz] at hc
            refine ⟨.string (b.extract l hq), ?_, ?_⟩
            · simp only [Instr.sliceAt, Instr.slice, Sem.run_bind, run_underlying (strT_true hT), Result.andThen_ok, bounds_run false hl hh e1 e2 hc.1 hc.2, Option.isSome_none, Bool.false_eq_true, if_false, Sem.run_pure]
            · rw [← extract_toList]
              exact .str _ _
        · cases h
      · cases h
    · cases h
  · rename_i es
    split at h
    · rename_i e hT
      split at h
      · rename_i z l hq hce e1 e2
        split at h
        · rename_i hc
          simp only [Option.some.injEq] at h
          subst h
          have main : ∀ (A : Option Addr) (cap : Nat), u = .slice A es.length cap → es.length ≤ cap → (Instr.sliceAt t u low high none).run P w = .ok (.slice (if cap = l then A else A.map (·.add (l * z))) (hq - l) (cap - l)) w := by
            intro A cap hu hcap
            subst hu
            have hbd := bounds_run (P := P) (w := w) (cap := cap) true hl hh e1 e2 hc.1 (by omega)
            simp only [Instr.sliceAt, Instr.slice, Sem.run_bind, run_underlying (sliceT_some hT), Result.andThen_ok, hbd, run_sizeOf hce, Sem.run_pure]
          have hlen : ((es.take hq).drop l).length = hq - l := by simp; omega
          cases hx with
          | sl0 _ a cap =>
            simp only [List.length_nil, Nat.le_zero] at hc
            refine ⟨_, main _ _ rfl (Nat.zero_le _), ?_⟩
            have h1 : hq - l = 0 := by omega
            simp only [List.take_nil, List.drop_nil, h1]
            exact .sl0 _ _ _
          | sl _ _ b off sz cap us hz hcc hm hh' =>
            refine ⟨_, main _ _ rfl hcc, ?_⟩
            by_cases hemp : (es.take hq).drop l = []
            · rw [hemp] at hlen ⊢
              rw [← hlen]
              exact .sl0 _ _ _
            · have hne : l < hq := by
                rcases Nat.lt_or_ge l hq with h' | h'
                · exact h'
                · exact absurd (List.eq_nil_of_length_eq_zero (by omega)) hemp
              have hszz : z = sz := by
                have h0 : 0 < es.length := by omega
                have := hc.2.2 es[0] (List.getElem_mem h0)
                have := hz es[0] (List.getElem_mem h0)
                omega
              subst hszz
              rw [if_neg (by omega), ← hlen]
              simp only [Option.map_some, addr_add]
              have get : ∀ (q : Nat) (e : List AV), ((es.take hq).drop l)[q]? = some e → es[l + q]? = some e := by
                intro q e hq'
                rw [List.getElem?_drop, List.getElem?_take] at hq'
                split at hq'
                · exact hq'
                · cases hq'
              refine .sl _ _ _ _ z _ (fun i j => us (l + i) j) (fun e he => ?_) (by omega) (fun i e j x he hj => ?_) (fun i e j x he hj => hh' _ _ _ _ (get i e he) hj)
              · obtain ⟨q, hq'⟩ := List.getElem?_of_mem he
                exact hz e (List.mem_of_getElem? (get q e hq'))
              · have := hm _ _ _ _ (get i e he) hj
                rwa [show off + (l + i) * z + j = off + l * z + i * z + j by rw [Nat.add_mul]; omega] at this
        · cases h
      · cases h
    · cases h
  · rename_i id i n
    split at h
    · rename_i e ty ap fz es hT hid
      split at h
      · rename_i l hq e1 e2
        split at h
        · rename_i hc
          obtain ⟨hc1, hc2, rfl⟩ := hc
          cases hx with
          | hs _ _ _ _ b sz cap ty' hr hn hs =>
            obtain ⟨a1, a2, a3, C, fr, c1, c2, c3, c4, c5⟩ := hst.arr id ty ap fz es b sz hid hr
            have hbd := bounds_run (P := P) (w := w) (cap := cap) true hl hh e1 e2 hc1 (by omega)
            have hrun : (Instr.sliceAt t (.slice (some ⟨b, i * sz, none⟩) n cap) low high none).run P w = .ok (.slice (if cap = l then some ⟨b, i * sz, none⟩ else (some ⟨b, i * sz, none⟩ : Option Addr).map (·.add (l * sz))) (hq - l) (cap - l)) w := by
              simp only [Instr.sliceAt, Instr.slice, Sem.run_bind, run_underlying (sliceT_some hT), Result.andThen_ok, hbd, run_sizeOf a2, Sem.run_pure]
            refine ⟨_, hrun, ?_⟩
            split at h
            · rename_i h0
              simp only [Option.some.injEq] at h
              subst h
              rw [show hq - l = 0 by omega]
              exact .sl0 _ _ _
            · rename_i h0
              simp only [Option.some.injEq] at h
              subst h
              by_cases hcl : cap = l
              · have : l = 0 := by omega
                subst this
                subst hcl
                simp only [if_true, Nat.add_zero, Nat.sub_zero]
                exact .hs _ _ _ _ _ _ _ _ hr (by omega) hs
              · rw [if_neg hcl]
                simp only [Option.map_some, addr_add]
                rw [show i * sz + l * sz = (i + l) * sz by rw [Nat.add_mul]]
                exact .hs _ _ _ _ _ _ _ ty' hr (by omega) (by rw [hs, show i + l + (cap - l) = i + cap by omega])
        · cases h
      · cases h
    · cases h
  · cases h
end
end Go.Vam
/- The abstract machine VAM is sound: indexes, fields, operators, conversions. -/



namespace Go.Vam
open Go.RowKit

section
variable {P : Program} {w : World} {B : Nat} {ok0 : Nat → Nat → Prop} {ρ : Pl} {H : AHeap}

theorem run_indexAt_sl {t e : TypeId} {a : Addr} {len cap z : Nat} {k : IntKind} {q : Int} (hT : P.underlying t = some (.slice e)) (hz : szOf P e = some z) (h0 : 0 ≤ q) (h1 : q < len) :
    (Instr.indexAt t (.slice (some a) len cap) (.int k q)).run P w = .ok (.pointer (some (a.add (q.toNat * z)))) w := by
  simp only [Instr.indexAt, asIntOf, Sem.run_bind, Sem.run_pure, Result.andThen_ok, run_underlying hT]
  rw [if_pos ⟨h0, h1⟩]
  simp only [Sem.run_bind, run_sizeOf hz, Result.andThen_ok, Sem.run_pure]
theorem run_indexAt_arr {t e : TypeId} {a : Addr} {n z : Nat} {k : IntKind} {q : Int} (hT : P.underlying t = some (.array n e)) (hz : szOf P e = some z) (h0 : 0 ≤ q) (h1 : q < n) :
    (Instr.indexAt t (.pointer (some a)) (.int k q)).run P w = .ok (.pointer (some (a.add (q.toNat * z)))) w := by
  simp only [Instr.indexAt, asIntOf, Sem.run_bind, Sem.run_pure, Result.andThen_ok, run_underlying hT, Instr.sureAddr]
  rw [if_pos ⟨h0, h1⟩]
  simp only [Sem.run_bind, run_sizeOf hz, Result.andThen_ok, Sem.run_pure]
theorem aindexAddr_sound {t : TypeId} {x ix y : AV} {u v : Value} (hst : St P B ok0 ρ H w) (hx : VR P (okS B ok0 ρ H) w ρ x u) (hi : VR P (okS B ok0 ρ H) w ρ ix v) (h : aindexAddr P t x ix H = some y) :
    ∃ r, (Instr.indexAt t u v).run P w = .ok r w ∧ VR P (okS B ok0 ρ H) w ρ y r := by
  unfold aindexAddr at h
  split at h
  · rename_i k q
    cases hi
    split at h
    · rename_i h0
      split at h
      · rename_i es
        split at h
        · rename_i e c hT hc
          split at h
          · rename_i hsz
            simp only [Option.some.injEq] at h
            subst h
            have hlt := (List.getElem?_eq_some_iff.1 hc).1
            cases hx with
            | sl0 _ a cap => simp at hc
            | sl _ _ b off sz cap us hz hcc hm hh =>
              refine ⟨_, run_indexAt_sl (sliceT_some hT) hsz h0 (by omega), ?_⟩
              have : c.length = sz := hz c (List.mem_of_getElem? hc)
              rw [addr_add, this]
              exact .ip _ _ _ _ (us q.toNat) (fun j x hj => hm _ _ _ _ hc hj) (fun j x hj => hh _ _ _ _ hc hj)
          · cases h
        · cases h
      · rename_i id i n
        split at h
        · rename_i e ty ap fz es hT hid
          split at h
          · rename_i hc
            obtain ⟨hq, rfl⟩ := hc
            simp only [Option.some.injEq] at h
            subst h
            cases hx with
            | hs _ _ _ _ b sz cap ty' hr hn hs =>
              obtain ⟨a1, a2, a3, C, fr, c1, c2, c3, c4, c5⟩ := hst.arr id ty ap fz es b sz hid hr
              refine ⟨_, run_indexAt_sl (sliceT_some hT) a2 h0 (by omega), ?_⟩
              rw [addr_add]
              have := VR.ptr (P := P) (ok := okS B ok0 ρ H) (w := w) ρ id (i + q.toNat) 0 b sz hr
              rwa [Nat.add_zero, Nat.add_mul] at this
          · cases h
        · cases h
      · rename_i id i j
        split at h
        · rename_i n e hT
          split at h
          · rename_i z hz
            split at h
            · rename_i hq
              simp only [Option.some.injEq] at h
              subst h
              cases hx with
              | ptr _ _ _ _ b sz hr =>
                refine ⟨_, run_indexAt_arr (arrT_some hT) hz h0 (by omega), ?_⟩
                rw [addr_add, Nat.add_assoc]
                exact .ptr _ _ _ _ _ _ hr
            · cases h
          · cases h
        · cases h
      · rename_i cs
        split at h
        · rename_i n e hT
          split at h
          · rename_i z hz
            split at h
            · rename_i hq
              simp only [Option.some.injEq] at h
              subst h
              cases hx with
              | ip _ _ b off us hm hh =>
                refine ⟨_, run_indexAt_arr (arrT_some hT) hz h0 (by omega), ?_⟩
                rw [addr_add]
                exact .ip _ _ _ _ (fun j => us (q.toNat * z + j)) (fun j x hj => by rw [List.getElem?_drop] at hj; rw [Nat.add_assoc]; exact hm _ _ hj) (fun j x hj => by rw [List.getElem?_drop] at hj; exact hh _ _ hj)
            · cases h
          · cases h
        · cases h
      · cases h
    · cases h
  · cases h
theorem part_sound {ok : Nat → Nat → Prop} {t : TypeId} {cs : List AV} {vs : Array Value} {off : Nat} {y : AV} (hl : cs.length = vs.size) (hv : ∀ (i : Nat) (x : AV), cs[i]? = some x → VR P ok w ρ x (vs.toList.getD i undef)) (h : ldCells P t (cs.drop off) = some y) :
    ∃ u, (part t vs off).run P w = .ok u w ∧ VR P ok w ρ y u := by
  unfold ldCells at h
  split at h
  · rename_i n ha hs
    split at h
    · rename_i hn
      simp only [Option.some.injEq] at h
      subst h
      simp only [List.length_drop] at hn
      refine ⟨.agg (vs.extract off (off + n)), ?_, ?_⟩
      · simp only [part, Sem.run_bind, run_isAgg ha, Result.andThen_ok, if_true, run_sizeOf hs, Sem.run_pure]
      · have := VR.agg (P := P) (ok := ok) (w := w) ρ ((cs.drop off).take n) ((vs.toList.drop off).take n) (by simp; omega) (fun i x hx => by
          rw [List.getElem?_take] at hx
          split at hx
          · rename_i hin
            rw [List.getElem?_drop] at hx
            have := hv _ _ hx
            simpa [List.getD, hin] using this
          · cases hx)
        have e : ((vs.toList.drop off).take n).toArray = vs.extract off (off + n) := by
          apply Array.ext'
          simp [Array.toList_extract, List.extract_eq_take_drop]
        rwa [e] at this
    · cases h
  · rename_i s c rest ha hcs
    simp only [Option.some.injEq] at h
    subst h
    have h0 : cs[off]? = some c := by
      have : (cs.drop off)[0]? = some c := by rw [hcs]; rfl
      rwa [List.getElem?_drop, Nat.add_zero] at this
    have hlt := (List.getElem?_eq_some_iff.1 h0).1
    have hvo : vs[off]? = some (vs.toList.getD off undef) := by
      have : off < vs.size := by omega
      simp [List.getD, this]
    refine ⟨_, ?_, hv off c h0⟩
    simp only [part, Sem.run_bind, run_isAgg ha, Result.andThen_ok, Bool.false_eq_true, if_false, hvo, Sem.run_pure]
  · cases h
theorem aindex_sound {t : TypeId} {x ix y : AV} {u v : Value} {ok : Nat → Nat → Prop} (hx : VR P ok w ρ x u) (hi : VR P ok w ρ ix v) (h : aindex P t x ix = some y) :
    ∃ r, (Instr.index t u v).run P w = .ok r w ∧ VR P ok w ρ y r := by
  unfold aindex at h
  split at h
  · rename_i s k q
    cases hi
    split at h
    · rename_i hc
      split at h
      · rename_i b hb
        simp only [Option.some.injEq] at h
        subst h
        cases hx with
        | str _ bs =>
          have hlt : q.toNat < bs.size := by
            have := (List.getElem?_eq_some_iff.1 hb).1
            rwa [Array.length_toList] at this
          have hg : bs[q.toNat]? = some b := by
            rw [ByteArray.getElem?_lt' bs _ hlt]
            rw [Array.getElem?_toList, Array.getElem?_eq_getElem hlt] at hb
            exact hb
          refine ⟨.int .u8 b.toNat, ?_, .int _ _ _⟩
          simp only [Instr.index, asIntOf, Sem.run_bind, Sem.run_pure, Result.andThen_ok, run_underlying (strT_true hc.1), if_pos hc.2, hg]
      · cases h
    · cases h
  · rename_i cs k q
    cases hi
    split at h
    · rename_i n e hT
      split at h
      · rename_i z hz
        split at h
        · rename_i hc
          cases hx with
          | agg _ _ vs hl hh =>
            obtain ⟨r, hr, hV⟩ := part_sound (P := P) (w := w) (ρ := ρ) (ok := ok) (vs := vs.toArray) (by simpa using hl) (fun i x hx => by simpa using hh i x hx) h
            refine ⟨r, ?_, hV⟩
            simp only [Instr.index, asIntOf, Sem.run_bind, Sem.run_pure, Result.andThen_ok, run_underlying (arrT_some hT)]
            rw [if_pos ⟨hc.1, by omega⟩]
            simp only [Sem.run_bind, run_sizeOf hz, Result.andThen_ok]
            exact hr
        · cases h
      · cases h
    · cases h
  · cases h
theorem afieldAddr_sound {t : TypeId} {p y : AV} {u : Value} {f : Nat} {ok : Nat → Nat → Prop} (hp : VR P ok w ρ p u) (h : afieldAddr P t p f = some y) : ∃ r, (Instr.fieldAt t u f).run P w = .ok r w ∧ VR P ok w ρ y r := by
  unfold afieldAddr at h
  split at h
  · rename_i off ty hf
    obtain ⟨fs, fd, h1, h2, rfl, rfl⟩ := fldT_some hf
    split at h
    · rename_i n hz
      have hrun : ∀ a : Addr, (Instr.fieldAt t (.pointer (some a)) f).run P w = .ok (.pointer (some (a.add fd.offset))) w := by
        intro a
        simp only [Instr.fieldAt, Sem.run_bind, run_underlying h1, Result.andThen_ok, h2, Instr.sureAddr, Sem.run_pure, fieldPlace, run_sizeOf hz]
        rw [if_neg (by omega)]
        rfl
      split at h
      · rename_i id i j
        simp only [Option.some.injEq] at h
        subst h
        cases hp with
        | ptr _ _ _ _ b sz hr =>
          refine ⟨_, hrun _, ?_⟩
          rw [addr_add, Nat.add_assoc]
          exact .ptr _ _ _ _ _ _ hr
      · rename_i cs
        simp only [Option.some.injEq] at h
        subst h
        cases hp with
        | ip _ _ b off us hm hh =>
          refine ⟨_, hrun _, ?_⟩
          rw [addr_add]
          exact .ip _ _ _ _ (fun j => us (fd.offset + j)) (fun j x hj => by rw [List.getElem?_drop] at hj; rw [Nat.add_assoc]; exact hm _ _ hj) (fun j x hj => by rw [List.getElem?_drop] at hj; exact hh _ _ hj)
      · cases h
    · cases h
  · cases h
theorem afield_sound {t : TypeId} {x y : AV} {u : Value} {f : Nat} {ok : Nat → Nat → Prop} (hx : VR P ok w ρ x u) (h : afield P t x f = some y) : ∃ r, (Instr.field t u f).run P w = .ok r w ∧ VR P ok w ρ y r := by
  unfold afield at h
  split at h
  · rename_i off ty cs hf
    obtain ⟨fs, fd, h1, h2, rfl, rfl⟩ := fldT_some hf
    cases hx with
    | agg _ _ vs hl hh =>
      obtain ⟨r, hr, hV⟩ := part_sound (P := P) (w := w) (ρ := ρ) (ok := ok) (vs := vs.toArray) (by simpa using hl) (fun i x hx => by simpa using hh i x hx) h
      refine ⟨r, ?_, hV⟩
      simp only [Instr.field, Sem.run_bind, run_underlying h1, Result.andThen_ok, h2, asAgg, Sem.run_pure]
      exact hr
  · cases h

/-! ### operators -/
theorem abinInt_sound {op : BinOp} {k : IntKind} {a b : Int} {y : AV} {ok : Nat → Nat → Prop} (t : TypeId) (h : abinInt op k a b = some y) (hsh : op ≠ .shl) (hsr : op ≠ .shr) : ∃ r, (binOp op t (.int k a) (.int k b)).run P w = .ok r w ∧ VR P ok w ρ y r := by
  unfold abinInt at h
  split at h <;> try (first | (exact absurd rfl hsh) | (exact absurd rfl hsr))
  all_goals try (simp only [Option.some.injEq] at h; subst h)
  · exact ⟨_, by simp [binOp, Op.intArith], .int _ _ _⟩
  · exact ⟨_, by simp [binOp, Op.intArith], .int _ _ _⟩
  · exact ⟨_, by simp [binOp, Op.intArith], .int _ _ _⟩
  · split at h
    · cases h
    · rename_i hb
      simp only [Option.some.injEq] at h
      subst h
      exact ⟨_, by simp [binOp, Op.intDiv, hb], .int _ _ _⟩
  · split at h
    · cases h
    · rename_i hb
      simp only [Option.some.injEq] at h
      subst h
      exact ⟨_, by simp [binOp, Op.intDiv, hb], .int _ _ _⟩
  · exact ⟨.bool (a == b), by simp [binOp, Op.intCmp], by rw [show decide (a = b) = (a == b) from rfl]; exact .bool _ _⟩
  · exact ⟨.bool (a != b), by simp [binOp, Op.intCmp], by rw [show (!decide (a = b)) = (a != b) from rfl]; exact .bool _ _⟩
  · exact ⟨.bool (decide (a < b)), by simp [binOp, Op.intCmp], .bool _ _⟩
  · exact ⟨.bool (decide (a ≤ b)), by simp [binOp, Op.intCmp], .bool _ _⟩
  · exact ⟨.bool (decide (b < a)), by simp [binOp, Op.intCmp], .bool _ _⟩
  · exact ⟨.bool (decide (b ≤ a)), by simp [binOp, Op.intCmp], .bool _ _⟩
  · exact ⟨_, by simp [binOp, Op.intBits], .int _ _ _⟩
  · exact ⟨_, by simp [binOp, Op.intBits], .int _ _ _⟩
  · cases h
theorem shift_sound {op : BinOp} {k k' : IntKind} {a b : Int} {y : AV} {ok : Nat → Nat → Prop} (t : TypeId) (hop : op = .shl ∨ op = .shr) (h : abinInt op k a b = some y) : ∃ r, (binOp op t (.int k a) (.int k' b)).run P w = .ok r w ∧ VR P ok w ρ y r := by
  rcases hop with rfl | rfl
  · simp only [abinInt] at h
    split at h
    · rename_i hb
      simp only [Option.some.injEq] at h
      subst h
      refine ⟨_, ?_, .int _ _ _⟩
      simp only [binOp, Op.shift]
      rw [if_neg (by omega)]
      rfl
    · cases h
  · simp only [abinInt] at h
    split at h
    · rename_i hb
      simp only [Option.some.injEq] at h
      subst h
      refine ⟨_, ?_, .int _ _ _⟩
      simp only [binOp, Op.shift]
      rw [if_neg (by omega)]
      rfl
    · cases h
theorem abinStr_sound {op : BinOp} {a b : ByteArray} {y : AV} {ok : Nat → Nat → Prop} (t : TypeId) (h : abinStr op a.data.toList b.data.toList = some y) : ∃ r, (binOp op t (.string a) (.string b)).run P w = .ok r w ∧ VR P ok w ρ y r := by
  have ea := ByteArray.toList_eq a
  have eb := ByteArray.toList_eq b
  unfold abinStr at h
  split at h
  · split at h
    · rename_i hl
      simp only [Option.some.injEq] at h
      subst h
      have hsz : ¬ ((a.size + b.size : Nat) : Int) > IntKind.i64.max := by
        simp only [IntKind.max_i64]
        rw [Array.length_toList, Array.length_toList] at hl
        have : a.data.size = a.size := rfl
        have : b.data.size = b.size := rfl
        omega
      refine ⟨.string (a ++ b), ?_, ?_⟩
      · simp only [binOp, Op.stringOp]
        rw [if_neg hsz]
        rfl
      · have : (a ++ b).data.toList = a.data.toList ++ b.data.toList := by simp
        rw [← this]
        exact .str _ _
    · cases h
  all_goals try (simp only [Option.some.injEq] at h; subst h)
  · exact ⟨.bool (a.toList == b.toList), by simp [binOp, Op.stringOp], by rw [ea, eb]; exact .bool _ _⟩
  · exact ⟨.bool (!(a.toList == b.toList)), by simp [binOp, Op.stringOp], by rw [ea, eb]; exact .bool _ _⟩
  · exact ⟨.bool (Op.bytesLess a.toList b.toList), by simp [binOp, Op.stringOp], by rw [ea, eb]; exact .bool _ _⟩
  · exact ⟨.bool (Op.bytesLess a.toList b.toList || a.toList == b.toList), by simp [binOp, Op.stringOp], by rw [ea, eb]; exact .bool _ _⟩
  · exact ⟨.bool (!(Op.bytesLess a.toList b.toList || a.toList == b.toList)), by simp [binOp, Op.stringOp], by rw [ea, eb]; exact .bool _ _⟩
  · exact ⟨.bool (!(Op.bytesLess a.toList b.toList)), by simp [binOp, Op.stringOp], by rw [ea, eb]; exact .bool _ _⟩
  · cases h
end
end Go.Vam
/- The abstract machine VAM is sound: '==', conversions. -/

namespace Go.Vam
open Go.RowKit

section
variable {P : Program} {w : World} {B : Nat} {ok0 : Nat → Nat → Prop} {ρ : Pl} {H : AHeap}

theorem eqFields_sound {ok : Nat → Nat → Prop} (d : Nat) (vs us : Array Value) : ∀ (fs : List Field) (i : Nat) (xs ys : List AV) (b : Bool), plainFields P i fs = true → plainCells P fs xs = true → plainCells P fs ys = true →
    (∀ (j : Nat) (x : AV), xs[j]? = some x → VR P ok w ρ x (vs.toList.getD (i + j) undef)) → (∀ (j : Nat) (x : AV), ys[j]? = some x → VR P ok w ρ x (us.toList.getD (i + j) undef)) →
    i + xs.length = vs.size → i + ys.length = us.size → cellsEq xs ys = some b → (Op.eqFields (d + 1) vs us fs).run P w = .ok b w
  | [], i, xs, ys, b, hp, h1, h2, hx, hy, l1, l2, he => by
    cases xs with
    | cons a as => simp [plainCells] at h1
    | nil =>
      cases ys with
      | cons a as => simp [plainCells] at h2
      | nil =>
        simp only [cellsEq, Option.some.injEq] at he
        subst he
        rfl
  | f :: fs, i, [], ys, b, hp, h1, h2, hx, hy, l1, l2, he => by simp [plainCells] at h1
  | f :: fs, i, x :: xs, [], b, hp, h1, h2, hx, hy, l1, l2, he => by simp [plainCells] at h2
  | f :: fs, i, x :: xs, y :: ys, b, hp, h1, h2, hx, hy, l1, l2, he => by
    simp only [plainFields, Bool.and_eq_true, bne_iff_ne, ne_eq, beq_iff_eq] at hp
    obtain ⟨⟨⟨p1, p2⟩, p3⟩, p4⟩ := hp
    simp only [plainCells, Bool.and_eq_true] at h1 h2
    simp only [cellsEq] at he
    cases hc : cellEq x y with
    | none => rw [hc] at he; cases he
    | some c =>
      cases hcs : cellsEq xs ys with
      | none => rw [hc, hcs] at he; cases he
      | some cs =>
        rw [hc, hcs] at he
        simp only [Option.some.injEq] at he
        subst he
        have ih := eqFields_sound d vs us fs (i + 1) xs ys cs p4 h1.2 h2.2 (fun j z hz => by have := hx (j + 1) z (by simpa using hz); rwa [show i + (j + 1) = i + 1 + j by omega] at this) (fun j z hz => by have := hy (j + 1) z (by simpa using hz); rwa [show i + (j + 1) = i + 1 + j by omega] at this) (by simp only [List.length_cons] at l1; omega) (by simp only [List.length_cons] at l2; omega) hcs
        have vx := hx 0 x rfl
        have vy := hy 0 y rfl
        simp only [Nat.add_zero] at vx vy
        simp only [List.length_cons] at l1 l2
        have gx : vs[i]? = some (vs.toList.getD i undef) := by
          have : i < vs.size := by omega
          simp [List.getD, this]
        have gy : us[i]? = some (us.toList.getD i undef) := by
          have : i < us.size := by omega
          simp [List.getD, this]
        have hagg : aggT P f.type = some false := by
          unfold aggT
          split at p3
          · rename_i hu; rw [hu]
          · rename_i hu; rw [hu]
          · rename_i hu; rw [hu]
          · cases p3
        have px : (part f.type vs f.offset).run P w = .ok (vs.toList.getD i undef) w := by
          simp only [part, Sem.run_bind, run_isAgg hagg, Result.andThen_ok, Bool.false_eq_true, if_false, p2, gx, Sem.run_pure]
        have py : (part f.type us f.offset).run P w = .ok (us.toList.getD i undef) w := by
          simp only [part, Sem.run_bind, run_isAgg hagg, Result.andThen_ok, Bool.false_eq_true, if_false, p2, gy, Sem.run_pure]
        have heq : (Op.equalIn (d + 1) f.type (vs.toList.getD i undef) (us.toList.getD i undef)).run P w = .ok c w := by
          generalize vs.toList.getD i undef = v at vx
          generalize us.toList.getD i undef = u at vy
          have q1 := h1.1
          have q2 := h2.1
          split at q1
          · rename_i hk k n hu
            split at q2
            · rename_i hk2 k2 n2 hu2
              cases vx
              cases vy
              simp only [cellEq] at hc
              split at hc
              · rename_i hkk
                subst hkk
                simp only [Option.some.injEq] at hc
                subst hc
                exact run_equalIn_int w d f.type k _ n n2 hu
              · cases hc
            · rename_i b' hu2; rw [hu] at hu2; cases hu2
            · rename_i b' hu2; rw [hu] at hu2; cases hu2
            · cases q2
          · rename_i n hu
            split at q2
            · rename_i hk2 k2 n2 hu2; rw [hu] at hu2; cases hu2
            · rename_i n2 hu2
              cases vx
              cases vy
              simp only [cellEq, Option.some.injEq] at hc
              subst hc
              exact run_equalIn_bool w d f.type n n2 hu
            · rename_i n2 hu2; rw [hu] at hu2; cases hu2
            · cases q2
          · rename_i n hu
            split at q2
            · rename_i hk2 k2 n2 hu2; rw [hu] at hu2; cases hu2
            · rename_i n2 hu2; rw [hu] at hu2; cases hu2
            · rename_i n2 hu2
              cases vx with
              | str _ b1 =>
                cases vy with
                | str _ b2 =>
                  simp only [cellEq, Option.some.injEq] at hc
                  subst hc
                  rw [run_equalIn_string w d f.type b1 b2 hu, ByteArray.toList_eq, ByteArray.toList_eq]
            · cases q2
          · cases q1
        simp only [Op.eqFields]
        rw [if_pos p1]
        simp only [Sem.run_bind, px, py, heq, Result.andThen_ok]
        cases c with
        | true => simpa using ih
        | false => simp
theorem eqGuard_not {op : BinOp} {t : TypeId} {x y : Operand} {a b : Value} (h1 : ∀ xs, a ≠ .agg xs) (h2 : a ≠ .nilIface) : (eqGuard op t x y a b).run P w = .ok () w := by
  cases a <;> first | exact absurd rfl (h1 _) | exact absurd rfl h2 | (cases op <;> rfl)
theorem eqNil_sound {ok : Nat → Nat → Prop} {t : TypeId} {x y : AV} {u v : Value} {c : Bool} (hx : VR P ok w ρ x u) (hy : VR P ok w ρ y v) (h : eqNil P t x y = some c) :
    (∀ xs, u ≠ .agg xs) ∧ u ≠ .nilIface ∧ (Op.equal t u v).run P w = .ok c w := by
  have hp : ∀ {e}, P.underlying t = some (.pointer e) → ∀ {a b : Option Addr} {c : Bool}, (a = none ∧ c = b.isNone) ∨ (b = none ∧ c = a.isNone) → (Op.equal t (.pointer a) (.pointer b)).run P w = .ok c w := by
    intro e hu a b c hab
    have key : ∀ d, (Op.equalIn (d + 1) t (.pointer a) (.pointer b)).run P w = .ok c w := by
      intro d
      rcases hab with ⟨rfl, rfl⟩ | ⟨rfl, rfl⟩
      · simp [Op.equalIn, run_underlying hu]
      · cases a <;> simp [Op.equalIn, run_underlying hu]
    exact key 9999
  have hmm : ∀ {k e}, P.underlying t = some (.map k e) → ∀ {a b : Option Nat} {c : Bool}, (a = none ∧ c = b.isNone) ∨ (b = none ∧ c = a.isNone) → (Op.equal t (.map a) (.map b)).run P w = .ok c w := by
    intro k e hu a b c hab
    have key : ∀ d, (Op.equalIn (d + 1) t (.map a) (.map b)).run P w = .ok c w := by
      intro d
      rcases hab with ⟨rfl, rfl⟩ | ⟨rfl, rfl⟩
      · simp [Op.equalIn, run_underlying hu]
      · cases a <;> simp [Op.equalIn, run_underlying hu]
    exact key 9999
  have hpt : ptrT P t = true → ∃ e, P.underlying t = some (.pointer e) := by
    intro hh
    unfold ptrT at hh
    split at hh
    · rename_i e he; exact ⟨e, he⟩
    · cases hh
  have hmt : (mapT P t).isSome = true → ∃ k e, P.underlying t = some (.map k e) := by
    intro hh
    obtain ⟨⟨k, e⟩, hke⟩ := Option.isSome_iff_exists.1 hh
    exact ⟨k, e, mapT_some hke⟩
  unfold eqNil at h
  split at h <;> first
    | (split at h
       · rename_i hT
         simp only [Option.some.injEq] at h
         subst h
         first
           | (obtain ⟨e, he⟩ := hpt hT
              cases hx <;> cases hy <;> exact ⟨fun _ => by simp, by simp, hp he (by simp)⟩)
           | (obtain ⟨k, e, he⟩ := hmt hT
              cases hx <;> cases hy <;> exact ⟨fun _ => by simp, by simp, hmm he (by simp)⟩)
       · cases h)
    | cases h
theorem binOp_eql_any {t : TypeId} {a b : Value} (h : ∀ k n, a ≠ .int k n) (h2 : ∀ s, a ≠ .string s) (h3 : ∀ k n, a ≠ .float k n) (h4 : ∀ k n m, a ≠ .complex k n m) : binOp .eql t a b = (do pure (.bool (← Op.equal t a b))) := by
  cases a <;> first | exact absurd rfl (h _ _) | exact absurd rfl (h2 _) | exact absurd rfl (h3 _ _) | exact absurd rfl (h4 _ _ _) | rfl
theorem binOp_neq_any {t : TypeId} {a b : Value} (h : ∀ k n, a ≠ .int k n) (h2 : ∀ s, a ≠ .string s) (h3 : ∀ k n, a ≠ .float k n) (h4 : ∀ k n m, a ≠ .complex k n m) : binOp .neq t a b = (do pure (.bool (!(← Op.equal t a b)))) := by
  cases a <;> first | exact absurd rfl (h _ _) | exact absurd rfl (h2 _) | exact absurd rfl (h3 _ _) | exact absurd rfl (h4 _ _ _) | rfl
theorem eqNil_kind {ok : Nat → Nat → Prop} {t : TypeId} {x y : AV} {u v : Value} {c : Bool} (hx : VR P ok w ρ x u) (hy : VR P ok w ρ y v) (h : eqNil P t x y = some c) :
    (∀ k n, u ≠ .int k n) ∧ (∀ s, u ≠ .string s) ∧ (∀ k n, u ≠ .float k n) ∧ (∀ k n m, u ≠ .complex k n m) := by
  unfold eqNil at h
  split at h <;> first
    | (cases h; done)
    | (cases hx <;> simp)
theorem abin_sound {op : BinOp} {t : TypeId} {x y z : AV} {u v : Value} {ok : Nat → Nat → Prop} (o1 o2 : Operand) (hx : VR P ok w ρ x u) (hy : VR P ok w ρ y v) (h : abin P op t x y = some z) :
    ∃ r, (do eqGuard op t o1 o2 u v; binOp op t u v : Sem Value).run P w = .ok r w ∧ VR P ok w ρ z r := by
  have go : ((∀ xs, u ≠ .agg xs) ∧ u ≠ .nilIface) → (∃ r, (binOp op t u v).run P w = .ok r w ∧ VR P ok w ρ z r) → ∃ r, (do eqGuard op t o1 o2 u v; binOp op t u v : Sem Value).run P w = .ok r w ∧ VR P ok w ρ z r := by
    intro hg ⟨r, h1, h2⟩
    refine ⟨r, ?_, h2⟩
    simp only [Sem.run_bind, eqGuard_not hg.1 hg.2, Result.andThen_ok]
    exact h1
  unfold abin at h
  split at h
  · rename_i k a k' b
    cases hx
    cases hy
    refine go ⟨fun _ => by simp, by simp⟩ ?_
    split at h
    · exact shift_sound t (.inl rfl) h
    · exact shift_sound t (.inr rfl) h
    · rename_i h1 h2
      split at h
      · rename_i hk
        subst hk
        exact abinInt_sound t h (fun e => h1 e) (fun e => h2 e)
      · cases h
  · rename_i a b
    cases hx with
    | str _ a =>
      cases hy with
      | str _ b => exact go ⟨fun _ => by simp, by simp⟩ (abinStr_sound t h)
  · rename_i a b
    cases hx
    cases hy
    refine go ⟨fun _ => by simp, by simp⟩ ?_
    split at h
    · rename_i hT
      have hu : P.underlying t = some .bool := by
        unfold boolT at hT
        split at hT
        · rename_i e; exact e
        · cases hT
      split at h
      · simp only [Option.some.injEq] at h
        subst h
        exact ⟨_, run_eql_bool w t a b hu, .bool _ _⟩
      · simp only [Option.some.injEq] at h
        subst h
        exact ⟨_, run_neq_bool w t a b hu, .bool _ _⟩
      · cases h
    · cases h
  · rename_i xs ys
    split at h
    · rename_i hc
      obtain ⟨p1, p2, p3⟩ := hc
      cases hx with
      | agg _ _ vs hl hh =>
        cases hy with
        | agg _ _ us hl' hh' =>
          unfold plainT at p1
          split at p1
          · rename_i fs hfs
            simp only [Bool.and_eq_true, Bool.not_eq_true'] at p1
            obtain ⟨⟨q1, q2⟩, q3⟩ := p1
            have hfo : P.underlying t = some (.struct (P.fieldsOf t)) := by simp only [Program.fieldsOf, hfs]
            have hft : P.fieldsOf t = fs := by simp only [Program.fieldsOf, hfs]
            unfold fitsT at p2 p3
            rw [hfs] at p2 p3
            have key : ∀ c, cellsEq xs ys = some c → (Op.equalIn 10000 t (.agg vs.toArray) (.agg us.toArray)).run P w = .ok c w := by
              intro c hc
              rw [run_equalIn_struct w 9999 t _ _ hfo q2, hft]
              exact eqFields_sound 9998 vs.toArray us.toArray fs.toList 0 xs ys c q1 p2 p3 (fun j x hx => by simpa using hh j x hx) (fun j x hx => by simpa using hh' j x hx) (by simpa using hl) (by simpa using hl') hc
            have hguard := run_eqGuard_agg w op t o1 o2 vs.toArray us.toArray q3
            split at h
            · cases hce : cellsEq xs ys with
              | none => rw [hce] at h; cases h
              | some c =>
                rw [hce] at h
                simp only [Option.map_some, Option.some.injEq] at h
                subst h
                refine ⟨.bool c, ?_, .bool _ _⟩
                simp only [Sem.run_bind, hguard, Result.andThen_ok, run_eql_struct, key c hce]
            · cases hce : cellsEq xs ys with
              | none => rw [hce] at h; cases h
              | some c =>
                rw [hce] at h
                simp only [Option.map_some, Option.some.injEq] at h
                subst h
                refine ⟨.bool (!c), ?_, .bool _ _⟩
                simp only [Sem.run_bind, hguard, Result.andThen_ok, run_neq_struct, key c hce]
            · cases h
          · cases p1
    · cases h
  · split at h
    · cases he : eqNil P t x y with
      | none => rw [he] at h; cases h
      | some c =>
        rw [he] at h
        simp only [Option.map_some, Option.some.injEq] at h
        subst h
        obtain ⟨g1, g2, g3⟩ := eqNil_sound hx hy he
        obtain ⟨k1, k2, k3, k4⟩ := eqNil_kind hx hy he
        refine go ⟨g1, g2⟩ ⟨.bool c, ?_, .bool _ _⟩
        rw [binOp_eql_any k1 k2 k3 k4]
        simp only [Sem.run_bind, g3, Result.andThen_ok, Sem.run_pure]
    · cases he : eqNil P t x y with
      | none => rw [he] at h; cases h
      | some c =>
        rw [he] at h
        simp only [Option.map_some, Option.some.injEq] at h
        subst h
        obtain ⟨g1, g2, g3⟩ := eqNil_sound hx hy he
        obtain ⟨k1, k2, k3, k4⟩ := eqNil_kind hx hy he
        refine go ⟨g1, g2⟩ ⟨.bool (!c), ?_, .bool _ _⟩
        rw [binOp_neq_any k1 k2 k3 k4]
        simp only [Sem.run_bind, g3, Result.andThen_ok, Sem.run_pure]
    · cases h
theorem aunop_sound {op : UnOp} {x y : AV} {u : Value} {ok : Nat → Nat → Prop} (hx : VR P ok w ρ x u) (h : aunop op x = some y) : ∃ r, (Op.unary op u).run P w = .ok r w ∧ VR P ok w ρ y r := by
  unfold aunop at h
  split at h
  · cases hx
    simp only [Option.some.injEq] at h
    subst h
    exact ⟨_, rfl, .bool _ _⟩
  · cases hx
    simp only [Option.some.injEq] at h
    subst h
    exact ⟨_, rfl, .int _ _ _⟩
  · cases h
end
end Go.Vam
/- The abstract machine VAM is sound: conversions, maps, lengths, make, iterators over texts. -/

namespace Go.Vam
open Go.RowKit

section
variable {P : Program} {w : World} {B : Nat} {ok0 : Nat → Nat → Prop} {ρ : Pl} {H : AHeap}

theorem bytesOf_some : ∀ {es : List (List AV)} {s : List UInt8}, bytesOf es = some s → ∃ ns : List Int, es = ns.map (fun n => [AV.int .u8 n]) ∧ s = ns.map (fun n => UInt8.ofNat n.toNat)
  | [], s, h => by
    simp only [bytesOf, Option.some.injEq] at h
    subst h
    exact ⟨[], rfl, rfl⟩
  | e :: es, s, h => by
    unfold bytesOf at h
    split at h
    · rename_i h1; cases h1
    · rename_i n rest h1
      cases h1
      cases hb : bytesOf es with
      | none => rw [hb] at h; cases h
      | some s' =>
        rw [hb] at h
        simp only [Option.map_some, Option.some.injEq] at h
        subst h
        obtain ⟨ns, e1, e2⟩ := bytesOf_some hb
        exact ⟨n :: ns, by simp [e1], by simp [e2]⟩
    · cases h
theorem aconvert_sound {src dst : TypeId} {x : AV} {u : Value} {r : AV × AHeap} (hst : St P B ok0 ρ H w) (hB : B ≤ w.heap.size) (hx : VR P (okS B ok0 ρ H) w ρ x u) (h : aconvert P src dst x H = some r) :
    ∃ v w' ρ', (convert src dst u).run P w = .ok v w' ∧ St P B ok0 ρ' r.2 w' ∧ Evo B ok0 ρ H w ρ' r.2 w' ∧ VR P (okS B ok0 ρ' r.2) w' ρ' r.1 v := by
  unfold aconvert at h
  split at h
  · rename_i k n
    split at h
    · rename_i k1 k2 h1 h2
      simp only [Option.some.injEq] at h
      subst h
      cases hx
      refine ⟨.int k2 (k2.wrap n), w, ρ, ?_, hst, Evo.refl _ _ _ _ _, .int _ _ _⟩
      simp [convert, run_underlying (intT_some h1), run_underlying (intT_some h2), Conv.intToInt]
    · cases h
  · rename_i s
    split at h
    · rename_i h1
      cases hx with
      | str _ b =>
        split at h
        · rename_i h2
          simp only [Option.some.injEq] at h
          subst h
          refine ⟨.string b, w, ρ, ?_, hst, Evo.refl _ _ _ _ _, .str _ _⟩
          simp [convert, run_underlying (strT_true h1), run_underlying (strT_true h2)]
        · split at h
          · rename_i e h2
            split at h
            · rename_i hc
              simp only [Option.some.injEq] at h
              subst h
              have hcap := grownCap_ge w b.size 0 e
              have hbl : Below w.heap.size w (Lib.bytesWorld w e b) := by
                refine ⟨?_, ?_, ?_, by rw [Lib.bytesWorld_size]; omega, fun k hk => Lib.bytesWorld_at_old w e b k hk⟩
                all_goals simp [Lib.bytesWorld, World.freeze, World.alloc, World.drew, -World.alloc_eq, -World.drew_eq]
              have hlb : b.data.toList.length = b.size := by rw [Array.length_toList]; rfl
              have hCs : (Lib.bytesCells w e b).size = grownCap w b.size 0 e * 1 := by
                simp only [Lib.bytesCells, Array.size_append, Array.size_map, Array.size_replicate]
                have : b.data.size = b.size := rfl
                omega
              have hml : grownCap w b.size 0 e ≤ maxLen := grownCap_le_maxLen w b.size 0 e (by rw [← hlb]; exact hc.2.2)
              obtain ⟨a1, a2⟩ := hst.newArr (ty := e) (ap := false) (fz := 0) (es := b.data.toList.map fun c => [AV.int .u8 c.toNat]) (sz := 1) (cap := grownCap w b.size 0 e) hB hbl (Lib.bytesWorld_at_new w e b) (by omega) hc.2.1 (by simp) (by simp) (by intro o ho; simp only; omega) hCs (by rw [List.length_map, hlb]; exact hcap) hml
                (fun i e' j x he hj => by
                  rw [List.getElem?_map] at he
                  cases hbi : b.data.toList[i]? with
                  | none => rw [hbi] at he; cases he
                  | some c =>
                    rw [hbi] at he
                    simp only [Option.map_some, Option.some.injEq] at he
                    subst he
                    match j, hj with
                    | 0, hj =>
                      simp only [List.getElem?_cons_zero, Option.some.injEq] at hj
                      subst hj
                      have hlt := (List.getElem?_eq_some_iff.1 hbi).1
                      rw [hlb] at hlt
                      have hc' := Lib.bytesWorld_cell w e b i hlt
                      rw [cell_cells (Lib.bytesWorld_at_new w e b)] at hc'
                      refine ⟨_, by rw [show i * 1 + 0 = i by omega]; exact hc', ?_⟩
                      rw [List.getD, hbi]
                      exact .int _ _ _)
              refine ⟨_, _, _, Lib.run_convert_string_bytes w src dst e b (strT_true h1) (sliceT_some h2) (intT_some hc.1), a1, a2, ?_⟩
              have := hs_VR (P := P) (ok := okS B ok0 (ρ ++ [(w.heap.size, 1)]) (H ++ [.arr e false 0 (b.data.toList.map fun c => [AV.int .u8 c.toNat])])) (plNew hst (w.heap.size, 1)) hcap (Lib.bytesWorld_at_new w e b) hCs
              rw [hlb]
              exact this
            · cases h
          · cases h
    · cases h
  · rename_i hn1 hn2
    split at h
    · rename_i e h1
      split at h
      · rename_i hc
        cases hes : aelems x H with
        | none => rw [hes] at h; cases h
        | some es =>
          rw [hes] at h
          simp only [Option.bind_some] at h
          cases hb : bytesOf es with
          | none => rw [hb] at h; cases h
          | some s =>
            rw [hb] at h
            simp only [Option.map_some, Option.some.injEq] at h
            subst h
            obtain ⟨ns, e1, e2⟩ := bytesOf_some hb
            obtain ⟨A, cap, hu, hcap, hel⟩ := elems_sound hst hx hes
            subst hu
            have hl : es.length = ns.length := by rw [e1]; simp
            refine ⟨.string (strOfNums ns), w, ρ, ?_, hst, Evo.refl _ _ _ _ _, ?_⟩
            · rcases hel with hnil | ⟨b, off, sz, us, hE⟩
              · have hns : ns = [] := List.eq_nil_of_length_eq_zero (by rw [← hl, hnil]; rfl)
                subst hns
                rw [hnil]
                cases A with
                | none => exact run_convert_bytes_nil w src e (sliceT_some h1) (intT_some hc.2) _ _ dst (strT_true hc.1)
                | some a => 
                  simp [convert, run_underlying (sliceT_some h1), run_underlying (strT_true hc.1), run_underlying (intT_some hc.2), Conv.bytesToString, loadCells, loadCellsFrom]
                  rfl
              · rw [hE.addr]
                refine run_convert_bytes_arg w src e (sliceT_some h1) (intT_some hc.2) b off es.length cap ns hl.symm (fun i hi => ?_) dst (strT_true hc.1)
                have hi' : i < ns.length := by omega
                have hei : es[i]? = some [AV.int .u8 ns[i]] := by rw [e1]; simp [hi']
                have hsz : sz = 1 := (hE.hz _ (List.mem_of_getElem? hei)).symm
                have c1 := hE.cell i _ 0 _ hei rfl
                have v1 := hE.val i _ 0 _ hei rfl
                subst hsz
                simp only [Nat.mul_one, Nat.add_zero] at c1
                rw [c1]
                generalize us i 0 = q at v1
                cases v1
                simp [List.getD, hi']
            · rw [e2, ← strOfNums_data]
              exact .str _ _
      · cases h
    · cases h
end
end Go.Vam
/- The abstract machine VAM is sound: maps. -/


namespace Go.Vam
open Go.RowKit

section
variable {P : Program} {w : World} {B : Nat} {ok0 : Nat → Nat → Prop} {ρ : Pl} {H : AHeap}

theorem bytes_beq_list (a b : ByteArray) : (a == b) = (a.data.toList == b.data.toList) := by
  obtain ⟨⟨x⟩⟩ := a
  obtain ⟨⟨y⟩⟩ := b
  show ((⟨x⟩ : Array UInt8) == ⟨y⟩) = (x == y)
  exact List.beq_toArray ..
theorem keyT_is {ok : Nat → Nat → Prop} {kt : TypeId} {k : AV} {u : Value} (hk : keyT P kt k = true) (hu : VR P ok w ρ k u) : ∃ d, P.underlying kt = some d ∧ MapKept.IsKey d u := by
  unfold keyT at hk
  split at hk
  · rename_i h1; cases hu; exact ⟨_, h1, by simpa [MapKept.IsKey] using hk⟩
  · rename_i h1; cases hu; exact ⟨_, h1, trivial⟩
  · rename_i h1; cases hu; exact ⟨_, h1, trivial⟩
  · cases hk
theorem keyEq_sound {ok ok' : Nat → Nat → Prop} {ρ' : Pl} {kt : TypeId} {d : TypeDesc} {k a : AV} {u v : Value} {b : Bool} (hd : P.underlying kt = some d) (hk : keyT P kt k = true) (hu : VR P ok w ρ k u) (ha : VR P ok' w ρ' a v) (h : cellEq k a = some b) :
    Instr.sameNow d u v = some b ∧ (b = true → v = u) := by
  unfold keyT at hk
  unfold cellEq at h
  split at h
  · split at h
    · rename_i h1
      subst h1
      simp only [Option.some.injEq] at h
      subst h
      cases hu; cases ha
      rw [hd] at hk
      cases d <;> simp_all [Instr.sameNow]
      try exact ⟨by rw [Bool.eq_iff_iff]; simp, fun e => e.symm⟩
      try exact fun e => e.symm
      try (rw [Bool.eq_iff_iff]; simp)
    · cases h
  · simp only [Option.some.injEq] at h
    subst h
    cases hu; cases ha
    rw [hd] at hk
    cases d <;> simp_all [Instr.sameNow]
  · simp only [Option.some.injEq] at h
    subst h
    cases hu; cases ha
    rw [hd] at hk
    rename_i b1 b2
    cases d <;> simp_all [Instr.sameNow]
    constructor
    · have := bytes_beq_list b1 b2
      simpa using this
    · intro e
      obtain ⟨x⟩ := b1
      obtain ⟨y⟩ := b2
      simp at e
      rw [e]
  · cases h

def EntsR (P : Program) (ok : Nat → Nat → Prop) (w : World) (ρ : Pl) (es : List (AV × AV)) (ents : List MapEntry) : Prop :=
  es.length = ents.length ∧ (∀ (i : Nat) (k v : AV), es[i]? = some (k, v) → VR P ok w ρ k ((ents.getD i default).key)) ∧ (∀ (i : Nat) (k v : AV), es[i]? = some (k, v) → VR P ok w ρ v ((ents.getD i default).val))
theorem EntsR.cons {ok : Nat → Nat → Prop} {a v : AV} {es : List (AV × AV)} {ents : List MapEntry} (h : EntsR P ok w ρ ((a, v) :: es) ents) : ∃ e rest, ents = e :: rest ∧ VR P ok w ρ a e.key ∧ VR P ok w ρ v e.val ∧ EntsR P ok w ρ es rest := by
  obtain ⟨h1, h2, h3⟩ := h
  cases ents with
  | nil => simp at h1
  | cons e rest =>
    refine ⟨e, rest, rfl, h2 0 a v rfl, h3 0 a v rfl, by simpa using h1, fun i k v' hi => ?_, fun i k v' hi => ?_⟩
    · have := h2 (i + 1) k v' (by simpa using hi)
      simpa using this
    · have := h3 (i + 1) k v' (by simpa using hi)
      simpa using this
theorem EntsR.mk_cons {ok : Nat → Nat → Prop} {a v : AV} {es : List (AV × AV)} {e : MapEntry} {rest : List MapEntry} (ha : VR P ok w ρ a e.key) (hv : VR P ok w ρ v e.val) (h : EntsR P ok w ρ es rest) : EntsR P ok w ρ ((a, v) :: es) (e :: rest) := by
  obtain ⟨h1, h2, h3⟩ := h
  refine ⟨by simp [h1], fun i k v' hi => ?_, fun i k v' hi => ?_⟩
  · cases i with
    | zero => simp at hi; obtain ⟨rfl, rfl⟩ := hi; simpa using ha
    | succ i => simpa using h2 i k v' (by simpa using hi)
  · cases i with
    | zero => simp at hi; obtain ⟨rfl, rfl⟩ := hi; simpa using hv
    | succ i => simpa using h3 i k v' (by simpa using hi)

theorem findKey_sound {ok : Nat → Nat → Prop} {kt : TypeId} {d : TypeDesc} {k : AV} {u : Value} (hd : P.underlying kt = some d) (hk : keyT P kt k = true) (hu : VR P ok w ρ k u) : ∀ (es : List (AV × AV)) (ents : List MapEntry) (i : Nat) (r : Option AV), EntsR P ok w ρ es ents → findKey k es = some r →
    ∃ q, Instr.findNow d u ents i = some q ∧ ((r = none ∧ q = none) ∨ ∃ x j v, r = some x ∧ q = some (j, v) ∧ VR P ok w ρ x v)
  | [], ents, i, r, he, h => by
    cases ents with
    | nil =>
      simp only [findKey, Option.some.injEq] at h
      subst h
      exact ⟨none, rfl, .inl ⟨rfl, rfl⟩⟩
    | cons e l => have := he.1; simp at this
  | (a, x) :: es, ents, i, r, he, h => by
    obtain ⟨e, rest, rfl, ha, hv, hr⟩ := he.cons
    unfold findKey at h
    split at h
    · rename_i hc
      simp only [Option.some.injEq] at h
      subst h
      obtain ⟨s, _⟩ := keyEq_sound hd hk hu ha hc
      exact ⟨some (i, e.val), by simp [Instr.findNow, s], .inr ⟨x, i, e.val, rfl, rfl, hv⟩⟩
    · rename_i hc
      obtain ⟨s, _⟩ := keyEq_sound hd hk hu ha hc
      obtain ⟨q, h1, h2⟩ := findKey_sound hd hk hu es rest (i + 1) r hr h
      exact ⟨q, by simp [Instr.findNow, s, h1], h2⟩
    · cases h

theorem putKey_sound {ok : Nat → Nat → Prop} {kt : TypeId} {d : TypeDesc} {k y : AV} {u v : Value} (hd : P.underlying kt = some d) (hk : keyT P kt k = true) (hu : VR P ok w ρ k u) (hy : VR P ok w ρ y v) : ∀ (es : List (AV × AV)) (ents : List MapEntry) (i : Nat) (es' : List (AV × AV)), EntsR P ok w ρ es ents → putKey k y es = some es' →
    (Instr.findNow d u ents i = some none ∧ ∀ b, EntsR P ok w ρ es' (ents ++ [{ key := u, val := v, born := b }])) ∨
    ∃ (j : Nat) (e : MapEntry), Instr.findNow d u ents i = some (some (i + j, e.val)) ∧ ents[j]? = some e ∧ e.key = u ∧ EntsR P ok w ρ es' (ents.modify j fun e => { e with key := u, val := v })
  | [], ents, i, es', he, h => by
    cases ents with
    | nil =>
      simp only [putKey, Option.some.injEq] at h
      subst h
      exact .inl ⟨rfl, fun b => EntsR.mk_cons hu hy he⟩
    | cons e l => have := he.1; simp at this
  | (a, x) :: es, ents, i, es', he, h => by
    obtain ⟨e, rest, rfl, ha, hv, hr⟩ := he.cons
    unfold putKey at h
    split at h
    · rename_i hc
      simp only [Option.some.injEq] at h
      subst h
      obtain ⟨s, s2⟩ := keyEq_sound hd hk hu ha hc
      refine .inr ⟨0, e, by simp [Instr.findNow, s], rfl, s2 rfl, ?_⟩
      simp only [List.modify_zero_cons]
      exact EntsR.mk_cons hu hy hr
    · rename_i hc
      obtain ⟨s, _⟩ := keyEq_sound hd hk hu ha hc
      cases hp : putKey k y es with
      | none => rw [hp] at h; cases h
      | some es1 =>
        rw [hp] at h
        simp only [Option.map_some, Option.some.injEq] at h
        subst h
        rcases putKey_sound hd hk hu hy es rest (i + 1) es1 hr hp with ⟨h1, h2⟩ | ⟨j, e', h1, h2, h3, h4⟩
        · exact .inl ⟨by simp [Instr.findNow, s, h1], fun b => EntsR.mk_cons ha hv (h2 b)⟩
        · refine .inr ⟨j + 1, e', by simp [Instr.findNow, s, h1]; omega, by simpa using h2, h3, ?_⟩
          simp only [List.modify_succ_cons]
          exact EntsR.mk_cons ha hv h4
    · cases h

theorem delKey_sound {ok : Nat → Nat → Prop} {kt : TypeId} {d : TypeDesc} {k : AV} {u : Value} (hd : P.underlying kt = some d) (hk : keyT P kt k = true) (hu : VR P ok w ρ k u) : ∀ (es : List (AV × AV)) (ents : List MapEntry) (i : Nat) (es' : List (AV × AV)), EntsR P ok w ρ es ents → delKey k es = some es' →
    (Instr.findNow d u ents i = some none ∧ EntsR P ok w ρ es' ents) ∨
    ∃ (j : Nat) (e : MapEntry), Instr.findNow d u ents i = some (some (i + j, e.val)) ∧ j < ents.length ∧ EntsR P ok w ρ es' (ents.eraseIdx j)
  | [], ents, i, es', he, h => by
    cases ents with
    | nil =>
      simp only [delKey, Option.some.injEq] at h
      subst h
      exact .inl ⟨rfl, he⟩
    | cons e l => have := he.1; simp at this
  | (a, x) :: es, ents, i, es', he, h => by
    obtain ⟨e, rest, rfl, ha, hv, hr⟩ := he.cons
    unfold delKey at h
    split at h
    · rename_i hc
      simp only [Option.some.injEq] at h
      subst h
      obtain ⟨s, s2⟩ := keyEq_sound hd hk hu ha hc
      exact .inr ⟨0, e, by simp [Instr.findNow, s], by simp, by simpa using hr⟩
    · rename_i hc
      obtain ⟨s, _⟩ := keyEq_sound hd hk hu ha hc
      cases hp : delKey k es with
      | none => rw [hp] at h; cases h
      | some es1 =>
        rw [hp] at h
        simp only [Option.map_some, Option.some.injEq] at h
        subst h
        rcases delKey_sound hd hk hu es rest (i + 1) es1 hr hp with ⟨h1, h2⟩ | ⟨j, e', h1, h2, h4⟩
        · exact .inl ⟨by simp [Instr.findNow, s, h1], EntsR.mk_cons ha hv h2⟩
        · refine .inr ⟨j + 1, e', by simp [Instr.findNow, s, h1]; omega, by simpa using h2, ?_⟩
          simp only [List.eraseIdx_cons_succ]
          exact EntsR.mk_cons ha hv h4
    · cases h

theorem ents_sound {m : AV} {u : Value} {es : List (AV × AV)} (hst : St P B ok0 ρ H w) (hm : VR P (okS B ok0 ρ H) w ρ m u) (h : ents m H = some es) :
    (u = .map none ∧ es = []) ∨ ∃ b l ck, u = .map (some b) ∧ w.heap[b]? = some (.map (List.toArray l) ck) ∧ EntsR P (okS B ok0 ρ H) w ρ es l := by
  unfold ents at h
  split at h
  · simp only [Option.some.injEq] at h
    subst h
    cases hm with
    | pm _ _ b l ck hb ho hl h1 h2 => exact .inr ⟨b, l, ck, rfl, hb, hl, fun i k v hi => (h1 i k v hi).up, fun i k v hi => (h2 i k v hi).up⟩
    | pm0 => exact .inl ⟨rfl, rfl⟩
  · simp only [Option.some.injEq] at h
    subst h
    cases hm
    exact .inl ⟨rfl, rfl⟩
  · split at h
    · rename_i id es' hx
      simp only [Option.some.injEq] at h
      subst h
      cases hm with
      | mp _ _ b sz hr =>
        obtain ⟨l, ck, c1, _, c2, c3, c4⟩ := hst.map _ _ _ _ hx hr
        exact .inr ⟨b, l, ck, rfl, c1, c2, c3, c4⟩
    · cases h
  · cases h

theorem zeroV_sound {t : TypeId} {x : AV} {ok : Nat → Nat → Prop} (h : zeroV P t = some x) : ∃ z, (zeroValue t).run P w = .ok z w ∧ VR P ok w ρ x z := by
  unfold zeroV at h
  cases hi : P.info? t with
  | none => rw [hi] at h; cases h
  | some i =>
    rw [hi] at h
    simp only [Option.bind_some] at h
    cases hz : i.zero with
    | none => rw [hz] at h; cases h
    | some z =>
      rw [hz] at h
      refine ⟨z, run_zeroValue hi hz w, ?_⟩
      split at h
      · rename_i cs e
        simp only [Option.some.injEq] at h e
        subst h
        subst e
        have := VR.agg (P := P) (ok := ok) (w := w) ρ (cs.toList.map ofConst) cs.toList (by simp) (fun i x hx => by
          rw [List.getElem?_map] at hx
          cases hc : cs.toList[i]? with
          | none => rw [hc] at hx; cases hx
          | some c =>
            rw [hc] at hx
            simp only [Option.map_some, Option.some.injEq] at hx
            subst hx
            rw [List.getD, hc]
            exact ofConst_VR c)
        simpa using this
      · rename_i v _ e
        simp only [Option.some.injEq] at h e
        subst h
        subst e
        exact ofConst_VR _
      · rename_i e; cases e
theorem tup2_VR {ok : Nat → Nat → Prop} {x : AV} {v : Value} {b : Bool} (h : VR P ok w ρ x v) : VR P ok w ρ (.tup [x, .bool b]) (.tuple #[v, .bool b]) := by
  refine VR.tup ρ [x, .bool b] [v, .bool b] rfl fun i y hy => ?_
  match i, hy with
  | 0, hy => simp at hy; subst hy; exact h
  | 1, hy => simp at hy; subst hy; exact .bool _ _
  | i + 2, hy => simp at hy

theorem alookup_sound {t : TypeId} {m k x : AV} {u v : Value} {c : Bool} (hst : St P B ok0 ρ H w) (hm : VR P (okS B ok0 ρ H) w ρ m u) (hk : VR P (okS B ok0 ρ H) w ρ k v) (h : alookup P t m k c H = some x) :
    ∃ r, (Instr.lookup t u v c).run P w = .ok r w ∧ VR P (okS B ok0 ρ H) w ρ x r := by
  unfold alookup at h
  split at h
  · rename_i kt et es h1 h2
    split at h
    · rename_i h3
      obtain ⟨d, hd, hkey⟩ := keyT_is h3 hk
      have hT := mapT_some h1
      have hget : ∃ l : List MapEntry, EntsR P (okS B ok0 ρ H) w ρ es l ∧ ∀ (q : Option (Nat × Value)), Instr.findNow d v l 0 = some q → (Instr.lookup t u v c).run P w = ((match q with | some (_, v) => pure (v, true) | none => do pure (← zeroValue et, false) : Sem (Value × Bool)).run P w).andThen (fun a w => .ok (if c then .tuple #[a.1, .bool a.2] else a.1) w) := by
        rcases ents_sound hst hm h2 with ⟨rfl, rfl⟩ | ⟨b, l, ck, rfl, hb, he⟩
        · refine ⟨[], ⟨rfl, by simp, by simp⟩, fun q hq => ?_⟩
          simp only [Instr.lookup, Sem.run_bind, run_underlying hT, Result.andThen, Sem.run_pure, MapKept.run_checkKey hd hkey, MapKept.run_findKey hd hq]
          rcases q with _ | ⟨j, y⟩
          · simp only [Sem.run_bind, Sem.run_pure]
            cases (zeroValue et).run P w <;> rfl
          · rfl
        · refine ⟨l, he, fun q hq => ?_⟩
          simp only [Instr.lookup, Sem.run_bind, run_underlying hT, Result.andThen, Sem.run_pure, MapKept.run_getObj_map hb, MapKept.run_checkKey hd hkey, MapKept.run_findKey hd hq]
          rcases q with _ | ⟨j, y⟩
          · simp only [Sem.run_bind, Sem.run_pure]
            cases (zeroValue et).run P w <;> rfl
          · rfl
      obtain ⟨l, he, hrun⟩ := hget
      split at h
      · rename_i y hf
        obtain ⟨q, hq, hr⟩ := findKey_sound hd h3 hk es l 0 _ he hf
        rcases hr with ⟨e, _⟩ | ⟨x', j, z, e1, e2, hv⟩
        · cases e
        · simp only [Option.some.injEq] at e1 h
          subst e1
          subst e2
          refine ⟨_, (hrun _ hq).trans rfl, ?_⟩
          subst h
          cases c
          · exact hv
          · exact tup2_VR hv
      · rename_i hf
        obtain ⟨q, hq, hr⟩ := findKey_sound hd h3 hk es l 0 _ he hf
        rcases hr with ⟨_, e⟩ | ⟨x', j, z, e1, e2, hv⟩
        · subst e
          cases hz : zeroV P et with
          | none => rw [hz] at h; cases h
          | some zx =>
            rw [hz] at h
            simp only [Option.map_some, Option.some.injEq] at h
            obtain ⟨z, hz1, hz2⟩ := zeroV_sound (w := w) (ρ := ρ) (ok := okS B ok0 ρ H) hz
            refine ⟨if c then .tuple #[z, .bool false] else z, ?_, ?_⟩
            · rw [hrun _ hq]
              simp [hz1, Result.andThen]
            · subst h
              cases c
              · exact hz2
              · exact tup2_VR hz2
        · cases e1
      · cases h
    · cases h
  · cases h

theorem set_world {b : Nat} {o' : Obj} : Below b w { w with heap := w.heap.setIfInBounds b o' } := by
  refine ⟨rfl, rfl, rfl, by simp, fun k hk => ?_⟩
  show (w.heap.setIfInBounds b o')[k]? = _
  rw [Array.getElem?_setIfInBounds_ne (by omega)]

theorem Born.push {l : List MapEntry} {ck : Nat} (h : Born l ck) (u v : Value) : Born (l ++ [{ key := u, val := v, born := ck }]) (ck + 1) := by
  obtain ⟨h1, h2⟩ := h
  refine ⟨?_, fun e he => ?_⟩
  · rw [List.map_append, List.nodup_append]
    refine ⟨h1, by simp, fun a ha b hb => ?_⟩
    obtain ⟨e, he, rfl⟩ := List.mem_map.1 ha
    simp only [List.map_cons, List.map_nil, List.mem_singleton] at hb
    have := h2 e he
    omega
  · rcases List.mem_append.1 he with he | he
    · exact Nat.lt_succ_of_lt (h2 e he)
    · rw [List.mem_singleton] at he
      subst he
      exact Nat.lt_succ_self _
theorem Born.modify {l : List MapEntry} {ck : Nat} (h : Born l ck) (j : Nat) (u v : Value) : Born (l.modify j fun e => { e with key := u, val := v }) ck := by
  obtain ⟨h1, h2⟩ := h
  have key : ∀ (l : List MapEntry) (j : Nat), (l.modify j fun e => { e with key := u, val := v }).map (·.born) = l.map (·.born) := by
    intro l
    induction l with
    | nil => intro j; cases j <;> rfl
    | cons a l ih =>
      intro j
      cases j with
      | zero => rfl
      | succ j => simp only [List.modify_succ_cons, List.map_cons, ih]
  refine ⟨by rw [key]; exact h1, fun e he => ?_⟩
  have hm : e.born ∈ (l.modify j fun e => { e with key := u, val := v }).map (·.born) := List.mem_map.2 ⟨e, he, rfl⟩
  rw [key] at hm
  obtain ⟨e', he', hb⟩ := List.mem_map.1 hm
  rw [← hb]
  exact h2 e' he'
theorem Born.erase {l : List MapEntry} {ck : Nat} (h : Born l ck) (j : Nat) : Born (l.eraseIdx j) ck := by
  obtain ⟨h1, h2⟩ := h
  exact ⟨h1.sublist ((List.eraseIdx_sublist l j).map _), fun e he => h2 e ((List.eraseIdx_sublist l j).subset he)⟩
theorem St.setMap (hst : St P B ok0 ρ H w) {id : Nat} {es es' : List (AV × AV)} {b sz : Nat} {l l' : List MapEntry} {ck ck' : Nat} (hx : H[id]? = some (.map es)) (hr : ρ[id]? = some (b, sz)) (hb : w.heap[b]? = some (.map l.toArray ck))
    (he : EntsR P (okS B ok0 ρ H) w ρ es' l') (hbn : Born l' ck') :
    St P B ok0 ρ (H.set id (.map es')) { w with heap := w.heap.setIfInBounds b (.map l'.toArray ck') } ∧ Evo B ok0 ρ H w ρ (H.set id (.map es')) { w with heap := w.heap.setIfInBounds b (.map l'.toArray ck') } := by
  obtain ⟨s1, s2⟩ := MapKept.heap_set (o' := .map l'.toArray ck') hb
  refine hst.modify hx hr trivial trivial (fun o => Iff.rfl) set_world s2 s1 (fun o u hk => hk.elim) (fun s hs => ?_) (fun ty ap fz es e => by cases e) (fun es e => ?_) (fun s p e => by cases e)
  · simp [World.shape?, hb] at hs
  · cases e
    exact ⟨l', ck', rfl, hbn, he⟩

theorem amapUpdate_sound {t : TypeId} {m k x : AV} {u v y : Value} {H' : AHeap} (hst : St P B ok0 ρ H w) (hm : VR P (okS B ok0 ρ H) w ρ m u) (hk : VR P (okS B ok0 ρ H) w ρ k v) (hx : VR P (okS B ok0 ρ H) w ρ x y) (h : amapUpdate P t m k x H = some H') :
    ∃ w', (Instr.mapUpdate t u v y).run P w = .ok () w' ∧ St P B ok0 ρ H' w' ∧ Evo B ok0 ρ H w ρ H' w' := by
  unfold amapUpdate at h
  split at h
  · rename_i id kt et h1
    split at h
    · rename_i es hH
      split at h
      · rename_i h3
        cases hp : putKey k x es with
        | none => rw [hp] at h; cases h
        | some es' =>
          rw [hp] at h
          simp only [Option.map_some, Option.some.injEq] at h
          subst h
          cases hm with
          | mp _ _ b sz hr =>
            obtain ⟨l, ck, hb, hbn, he⟩ := hst.map _ _ _ _ hH hr
            obtain ⟨d, hd, hkey⟩ := keyT_is h3 hk
            have hT := mapT_some h1
            rcases putKey_sound hd h3 hk hx es l 0 es' he hp with ⟨f1, f2⟩ | ⟨j, e, f1, f2, f3, f4⟩
            · obtain ⟨a1, a2⟩ := hst.setMap (ck' := ck + 1) hH hr hb (f2 ck) (hbn.push _ _)
              refine ⟨_, ?_, a1, a2⟩
              simp [Instr.mapUpdate, run_underlying hT, MapKept.run_getObj_map hb, MapKept.run_checkKey hd hkey, MapKept.run_findKey hd f1, MapKept.run_setObj_map _ hb, Result.andThen]
            · obtain ⟨a1, a2⟩ := hst.setMap (ck' := ck) hH hr hb f4 (hbn.modify _ _ _)
              refine ⟨_, ?_, a1, a2⟩
              simp [Instr.mapUpdate, run_underlying hT, MapKept.run_getObj_map hb, MapKept.run_checkKey hd hkey, MapKept.run_findKey hd f1, f2, f3, MapKept.run_keyThatStays hkey, MapKept.run_setObj_map _ hb, Result.andThen]
      · cases h
    · cases h
  · cases h

theorem adelete_sound {t t2 ty : TypeId} {m k : AV} {u v : Value} {H' : AHeap} (hst : St P B ok0 ρ H w) (hm : VR P (okS B ok0 ρ H) w ρ m u) (hk : VR P (okS B ok0 ρ H) w ρ k v) (h : adelete P t m k H = some H') :
    ∃ w', (Builtin.delete_ #[t, t2] ty #[u, v]).run P w = .ok (.tuple #[]) w' ∧ St P B ok0 ρ H' w' ∧ Evo B ok0 ρ H w ρ H' w' := by
  unfold adelete at h
  split at h
  · rename_i id kt et h1
    split at h
    · rename_i es hH
      split at h
      · rename_i h3
        cases hp : delKey k es with
        | none => rw [hp] at h; cases h
        | some es' =>
          rw [hp] at h
          simp only [Option.map_some, Option.some.injEq] at h
          subst h
          cases hm with
          | mp _ _ b sz hr =>
            obtain ⟨l, ck, hb, hbn, he⟩ := hst.map _ _ _ _ hH hr
            obtain ⟨d, hd, hkey⟩ := keyT_is h3 hk
            have hT := mapT_some h1
            rcases delKey_sound hd h3 hk es l 0 es' he hp with ⟨f1, f2⟩ | ⟨j, e, f1, f2, f4⟩
            · obtain ⟨a1, a2⟩ := hst.setMap (ck' := ck) hH hr hb f2 hbn
              refine ⟨_, ?_, a1, a2⟩
              simp [Builtin.delete_, run_underlying hT, MapKept.run_getObj_map hb, MapKept.run_checkKey hd hkey, MapKept.run_findKey hd f1, MapKept.run_setObj_map _ hb, Result.andThen]
            · obtain ⟨a1, a2⟩ := hst.setMap (ck' := ck) hH hr hb f4 (hbn.erase _)
              refine ⟨_, ?_, a1, a2⟩
              simp [Builtin.delete_, run_underlying hT, MapKept.run_getObj_map hb, MapKept.run_checkKey hd hkey, MapKept.run_findKey hd f1, MapKept.run_setObj_map _ hb, Result.andThen, Array.eraseIdxIfInBounds, f2]
      · cases h
    · cases h
  · cases h
end
end Go.Vam
/- The abstract machine VAM is sound: append, copy. -/

namespace Go.Vam
open Go.RowKit

section
variable {P : Program} {w : World} {B : Nat} {ok0 : Nat → Nat → Prop} {ρ : Pl} {H : AHeap}

theorem lt_mul {i j z n : Nat} (h : j < z) (hi : i < n) : i * z + j < n * z := by
  have : (i + 1) * z ≤ n * z := Nat.mul_le_mul_right _ hi
  rw [Nat.add_mul] at this
  omega
theorem divmod_of {i j z : Nat} (h : j < z) : (i * z + j) / z = i ∧ (i * z + j) % z = j := by
  constructor
  · rw [Nat.add_comm, Nat.add_mul_div_right _ _ (by omega), Nat.div_eq_of_lt h, Nat.zero_add]
  · rw [Nat.add_comm, Nat.add_mul_mod_self_right, Nat.mod_eq_of_lt h]
/-- What is appended or copied, as the machine reads it. -/
structure News (P : Program) (ok : Nat → Nat → Prop) (w : World) (ρ : Pl) (v : Value) (ys : List (List AV)) (z : Nat) (news : List Value) : Prop where
  len : news.length = ys.length * z
  one : ∀ u ∈ news, u.oneCell' = true
  lenOf : ∀ w', (Builtin.lenOf v).run P w' = .ok ys.length w'
  first : ∀ w' m, (∀ a, w'.cell? a = w.cell? a) → m ≤ ys.length → (Builtin.firstCells z m v).run P w' = .ok (news.take (m * z)).toArray w'
  val : ∀ (i : Nat) (c : List AV) (j : Nat) (x : AV), ys[i]? = some c → c[j]? = some x → ∃ u, news[i * z + j]? = some u ∧ VR P ok w ρ x u

theorem asrc_sound {y : AV} {v : Value} {ys : List (List AV)} {z : Nat} (hst : St P B ok0 ρ H w) (hy : VR P (okS B ok0 ρ H) w ρ y v) (h : asrc y H = some ys) (hz : ∀ c ∈ ys, c.length = z) (h1 : ∀ c ∈ ys, c.all AV.isCell = true) :
    ∃ news, News P (okS B ok0 ρ H) w ρ v ys z news := by
  unfold asrc at h
  split at h
  · rename_i s
    simp only [Option.some.injEq] at h
    subst h
    cases hy with
    | str _ b =>
      have hbl : b.data.toList.length = b.size := by rw [Array.length_toList]; rfl
      by_cases hn : b.data.toList = []
      · have hbs : b.size = 0 := by rw [← hbl, hn]; rfl
        refine ⟨[], by simp [hn], by simp, fun w' => by simp [Builtin.lenOf, hbs, hn], fun w' m hw hm => ?_, by simp [hn]⟩
        have hm0 : m = 0 := by simp [hn] at hm; exact hm
        subst hm0
        simp [Builtin.firstCells]
      · have hz1 : z = 1 := by
          obtain ⟨c, rest, hc⟩ := List.exists_cons_of_ne_nil hn
          have := hz [AV.int .u8 c.toNat] (by rw [hc]; simp)
          simpa using this.symm
        subst hz1
        refine ⟨b.data.toList.map fun c => .int .u8 c.toNat, by simp, by simp [Value.oneCell'], fun w' => by simp [Builtin.lenOf], fun w' m hw hm => ?_, ?_⟩
        · simp only [List.length_map, hbl] at hm
          have hf : (Builtin.firstCells 1 m (.string b)).run P w' = .ok ((b.extract 0 m).data.map fun c => .int .u8 c.toNat) w' := rfl
          rw [hf]
          congr 1
          apply Array.ext'
          simp [← List.map_take]
        · intro i c j x hi hj
          rw [List.getElem?_map] at hi
          cases hb : b.data.toList[i]? with
          | none => rw [hb] at hi; cases hi
          | some q =>
            rw [hb] at hi
            simp only [Option.map_some, Option.some.injEq] at hi
            subst hi
            match j, hj with
            | 0, hj =>
              simp only [List.getElem?_cons_zero, Option.some.injEq] at hj
              subst hj
              refine ⟨.int .u8 q.toNat, ?_, .int _ _ _⟩
              rw [Nat.mul_one, Nat.add_zero, List.getElem?_map, hb]
              rfl
  · obtain ⟨A, cap, rfl, hcap, hel⟩ := elems_sound hst hy h
    rcases hel with rfl | ⟨b, off, sz, us, hE⟩
    · refine ⟨[], by simp, by simp, fun w' => rfl, fun w' m hw hm => ?_, by simp⟩
      have hm0 : m = 0 := by simpa using hm
      subst hm0
      cases A <;> simp [Builtin.firstCells, loadCells, loadCellsFrom]
    · by_cases hn : ys = []
      · subst hn
        refine ⟨[], by simp, by simp, fun w' => rfl, fun w' m hw hm => ?_, by simp⟩
        have hm0 : m = 0 := by simpa using hm
        subst hm0
        cases A <;> simp [Builtin.firstCells, loadCells, loadCellsFrom]
      · have hsz : sz = z := by
          obtain ⟨c, rest, hc⟩ := List.exists_cons_of_ne_nil hn
          have h1 := hz c (by rw [hc]; simp)
          have h2 := hE.hz c (by rw [hc]; simp)
          omega
        subst hsz
        rw [hE.addr]
        have at_ : ∀ q, q < ys.length * sz → ∃ e x, ys[q / sz]? = some e ∧ e[q % sz]? = some x := by
          intro q hq
          have h0 : 0 < sz := by
            rcases Nat.eq_zero_or_pos sz with e | e
            · subst e; simp at hq
            · exact e
          have hd : q / sz < ys.length := (Nat.div_lt_iff_lt_mul h0).2 hq
          have he : ys[q / sz]? = some ys[q / sz] := List.getElem?_eq_getElem hd
          have hle := hE.hz _ (List.mem_of_getElem? he)
          exact ⟨_, _, he, List.getElem?_eq_getElem (by rw [hle]; exact Nat.mod_lt _ h0)⟩
        refine ⟨(List.range (ys.length * sz)).map fun q => us (q / sz) (q % sz), by simp, ?_, fun w' => rfl, fun w' m hw hm => ?_, ?_⟩
        · intro u hu
          obtain ⟨q, hq, rfl⟩ := List.mem_map.1 hu
          obtain ⟨e, x, he, hx⟩ := at_ q (List.mem_range.1 hq)
          exact cell_oneCell (hE.val _ _ _ _ he hx) (List.all_eq_true.1 (h1 e (List.mem_of_getElem? he)) x (List.mem_of_getElem? hx))
        · refine run_firstCells_some w' sz m ⟨b, off, none⟩ ys.length cap _ ?_ ?_
          · rw [List.length_take]
            simp only [List.length_map, List.length_range]
            exact Nat.min_eq_left (Nat.mul_le_mul_right _ hm)
          · intro q u hq
            rw [List.getElem?_take] at hq
            split at hq
            · rename_i hlt
              rw [List.getElem?_map] at hq
              by_cases hq2 : q < ys.length * sz
              · rw [List.getElem?_range hq2] at hq
                simp only [Option.map_some, Option.some.injEq] at hq
                subst hq
                obtain ⟨e, x, he, hx⟩ := at_ q hq2
                have := hE.cell _ _ _ _ he hx
                rw [hw, addr_add]
                rw [Nat.add_assoc, Nat.mul_comm, Nat.div_add_mod] at this
                exact this
              · rw [List.getElem?_eq_none (by simp; omega)] at hq
                cases hq
            · cases hq
        · intro i c j x hi hj
          have hjl : j < sz := by rw [← hE.hz c (List.mem_of_getElem? hi)]; exact (List.getElem?_eq_some_iff.1 hj).1
          have hil := (List.getElem?_eq_some_iff.1 hi).1
          obtain ⟨d1, d2⟩ := divmod_of (i := i) hjl
          refine ⟨us i j, ?_, hE.val i c j x hi hj⟩
          rw [List.getElem?_map, List.getElem?_range (lt_mul hjl hil)]
          simp [d1, d2]

theorem notIntT_run {t : TypeId} (h : notIntT P t = true) : ∃ d, P.underlying t = some d ∧ ∀ k, d ≠ .int k := by
  unfold notIntT at h
  split at h
  · cases h
  · rename_i d hk hd
    exact ⟨d, hd, fun k e => hk k e⟩
  · cases h

/-- What append does where there is room. -/
theorem run_room {t t2 ty e : TypeId} {z : Nat} {base : Option Addr} {n cap : Nat} {v : Value} {ys : List (List AV)} {news : List Value} {ok : Nat → Nat → Prop} (hT : P.underlying t = some (.slice e)) (h2 : notIntT P t2 = true) (hz : szOf P e = some z)
    (hN : News P ok w ρ v ys z news) (hroom : n + ys.length ≤ cap) :
    (Builtin.append_ #[t, t2] ty #[.slice base n cap, v]).run P w = ((match base with | some a => storeCells (a.add (n * z)) news | none => pure ()).run P w).andThen fun _ w' => .ok (.slice base (n + ys.length) cap) w' := by
  obtain ⟨d, hd, hni⟩ := notIntT_run h2
  have hf := hN.first w ys.length (fun _ => rfl) (Nat.le_refl _)
  rw [← hN.len, List.take_length] at hf
  cases base with
  | none => 
    simp [Builtin.append_, run_underlying hT, run_underlying hd, run_sizeOf hz, hN.lenOf, hroom, hf, Result.andThen]
  | some a =>
    simp [Builtin.append_, run_underlying hT, run_underlying hd, run_sizeOf hz, hN.lenOf, hroom, hf, Result.andThen]

/-- What append does where it grows. -/
theorem run_grow {t t2 ty e : TypeId} {i : TypeInfo} {zv : Value} {base : Option Addr} {n cap : Nat} {v : Value} {ys : List (List AV)} {olds news : List Value} {ok : Nat → Nat → Prop} (hT : P.underlying t = some (.slice e)) (h2 : notIntT P t2 = true) (hi : P.info? e = some i) (hz : i.zero = some zv)
    (hN : News P ok w ρ v ys i.size news) (hold : ∀ w', (∀ a, w'.cell? a = w.cell? a) → (Builtin.firstCells i.size n (.slice base n cap)).run P w' = .ok olds.toArray w') (hgrow : cap < n + ys.length) (h63 : ((n + ys.length : Nat) : Int) ≤ 9223372036854775807) (hfit : (n + ys.length) * i.bytes ≤ 140737488355328) :
    (Builtin.append_ #[t, t2] ty #[.slice base n cap, v]).run P w = .ok (.slice (some ⟨w.heap.size, 0, none⟩) (n + ys.length) (grownCap w (n + ys.length) cap e))
        (w.drew.alloc (.cells ((olds ++ news).toArray ++ Builtin.zeroCells zv.cells (grownCap w (n + ys.length) cap e - (n + ys.length))) e)) := by
  obtain ⟨d, hd, hni⟩ := notIntT_run h2
  have hf := hN.first w.drew ys.length (fun _ => by simp) (Nat.le_refl _)
  rw [← hN.len, List.take_length] at hf
  have hfo := hold w.drew (fun _ => by simp)
  have hn : ¬ (n + ys.length ≤ cap) := by omega
  have h63' : ¬ (9223372036854775807 < ((n : Int) + (ys.length : Int))) := by omega
  have h48 := growslice_fits (bytes := i.bytes) hgrow hfit
  have h48' : ¬ (281474976710656 < Builtin.nextslicecap (n + ys.length) cap * i.bytes) := by omega
  simp [Builtin.append_, run_underlying hT, run_underlying hd, sizeOf, typeInfo, zeroValue, hi, hz, hN.lenOf, hn, h63', h48', Question.forced, hf, hfo, newRow, grownCap]
  congr 2
  apply Array.ext'
  simp
end
end Go.Vam
/- The abstract machine VAM is sound: append and copy, on the heap. -/

namespace Go.Vam
open Go.RowKit

section
variable {P : Program} {w : World} {B : Nat} {ok0 : Nat → Nat → Prop} {ρ : Pl} {H : AHeap}

theorem below_drew_alloc (w : World) (o : Obj) : Below w.heap.size w (w.drew.alloc o) :=
  ⟨rfl, rfl, rfl, by simp, fun k hk => (below_alloc' w.drew o).block k hk⟩

theorem grow_sound (hst : St P B ok0 ρ H w) (hB : B ≤ w.heap.size) {e : TypeId} {z cap fz : Nat} {zv : Value} {xs ys : List (List AV)} {olds news : List Value} (h0 : 0 < z) (hz : szOf P e = some z) (hzv : zv.cells.size = z)
    (hxl : ∀ c ∈ xs, c.length = z) (hyl : ∀ c ∈ ys, c.length = z) (hol : olds.length = xs.length * z) (hnl : news.length = ys.length * z)
    (hov : ∀ (i : Nat) (c : List AV) (j : Nat) (x : AV), xs[i]? = some c → c[j]? = some x → ∃ u, olds[i * z + j]? = some u ∧ VR P (okS B ok0 ρ H) w ρ x u)
    (hnv : ∀ (i : Nat) (c : List AV) (j : Nat) (x : AV), ys[i]? = some c → c[j]? = some x → ∃ u, news[i * z + j]? = some u ∧ VR P (okS B ok0 ρ H) w ρ x u) (h63 : xs.length + ys.length ≤ maxLen) :
    ∃ ρ', St P B ok0 ρ' (H ++ [.arr e true fz (xs ++ ys)]) (w.drew.alloc (.cells ((olds ++ news).toArray ++ Builtin.zeroCells zv.cells (grownCap w (xs.length + ys.length) cap e - (xs.length + ys.length))) e)) ∧
      Evo B ok0 ρ H w ρ' (H ++ [.arr e true fz (xs ++ ys)]) (w.drew.alloc (.cells ((olds ++ news).toArray ++ Builtin.zeroCells zv.cells (grownCap w (xs.length + ys.length) cap e - (xs.length + ys.length))) e)) ∧
      VR P (okS B ok0 ρ' (H ++ [.arr e true fz (xs ++ ys)])) (w.drew.alloc (.cells ((olds ++ news).toArray ++ Builtin.zeroCells zv.cells (grownCap w (xs.length + ys.length) cap e - (xs.length + ys.length))) e)) ρ'
        (.hs H.length 0 (xs.length + ys.length)) (.slice (some ⟨w.heap.size, 0, none⟩) (xs.length + ys.length) (grownCap w (xs.length + ys.length) cap e)) := by
  have hge := grownCap_ge w (xs.length + ys.length) cap e
  have hcm := grownCap_le_maxLen w (xs.length + ys.length) cap e h63
  generalize grownCap w (xs.length + ys.length) cap e = g at *
  have hCs : ((olds ++ news).toArray ++ Builtin.zeroCells zv.cells (g - (xs.length + ys.length))).size = g * z := by
    simp only [Array.size_append, List.size_toArray, List.length_append, size_zeroCells, hzv, hol, hnl, ← Nat.add_mul]
    congr 1
    omega
  have hnw := heap_alloc_new w.drew (.cells ((olds ++ news).toArray ++ Builtin.zeroCells zv.cells (g - (xs.length + ys.length))) e)
  obtain ⟨a1, a2⟩ := hst.newArr (ty := e) (ap := true) (fz := fz) (es := xs ++ ys) (fr := (0, 0)) (sz := z) (cap := g) hB (below_drew_alloc w _) hnw h0 hz
    (fun c hc => by
      rcases List.mem_append.1 hc with h | h
      · exact hxl c h
      · exact hyl c h) (fun _ => rfl) (by intro o ho; simp) hCs (by simpa using hge) hcm
    (fun i c j x hi hj => by
      have hget : ∀ {q : Nat} {u : Value}, (olds ++ news)[q]? = some u → ((olds ++ news).toArray ++ Builtin.zeroCells zv.cells (g - (xs.length + ys.length)))[q]? = some u := by
        intro q u hq
        rw [Array.getElem?_append_left (by simpa using (List.getElem?_eq_some_iff.1 hq).1)]
        simpa using hq
      have hjl : j < z := by
        have hlen : c.length = z := by
          rcases List.mem_append.1 (List.mem_of_getElem? hi) with h | h
          · exact hxl c h
          · exact hyl c h
        rw [← hlen]; exact (List.getElem?_eq_some_iff.1 hj).1
      by_cases hlt : i < xs.length
      · rw [List.getElem?_append_left hlt] at hi
        obtain ⟨u, h1, h2⟩ := hov i c j x hi hj
        exact ⟨u, hget (by rw [List.getElem?_append_left (List.getElem?_eq_some_iff.1 h1).1]; exact h1), h2⟩
      · rw [List.getElem?_append_right (by omega)] at hi
        obtain ⟨u, h1, h2⟩ := hnv _ c j x hi hj
        refine ⟨u, hget ?_, h2⟩
        have hm : xs.length * z ≤ i * z := Nat.mul_le_mul_right _ (by omega)
        rw [List.getElem?_append_right (by omega), hol, show i * z + j - xs.length * z = (i - xs.length) * z + j by rw [Nat.sub_mul]; omega]
        exact h1)
  exact ⟨_, a1, a2, hs_VR (plNew hst _) hge hnw hCs⟩

theorem take_drop_news {ys : List (List AV)} {news : List Value} {z : Nat} (h : news.length = ys.length * z) : news.take (ys.length * z) = news := by rw [← h, List.take_length]

theorem room_sound (hst : St P B ok0 ρ H w) {id : Nat} {ty : TypeId} {ap : Bool} {fz : Nat} {es ys : List (List AV)} {b sz n : Nat} {news : List Value} (hx : H[id]? = some (.arr ty ap fz es)) (hr : ρ[id]? = some (b, sz))
    (hyl : ∀ c ∈ ys, c.length = sz) (hnl : news.length = ys.length * sz) (hone : ∀ u ∈ news, u.oneCell' = true)
    (hnv : ∀ (i : Nat) (c : List AV) (j : Nat) (x : AV), ys[i]? = some c → c[j]? = some x → ∃ u, news[i * sz + j]? = some u ∧ VR P (okS B ok0 ρ H) w ρ x u)
    (hfz : fz ≤ n) (hn : n ≤ es.length) {s : TypeId × Nat} (hsh : w.shape? b = some s) (hfit : (n + ys.length) * sz ≤ s.2) :
    ∃ w', (storeCells ⟨b, n * sz, none⟩ news).run P w = .ok () w' ∧ St P B ok0 ρ (H.set id (.arr ty ap fz (es.take n ++ ys ++ es.drop (n + ys.length)))) w' ∧ Evo B ok0 ρ H w ρ (H.set id (.arr ty ap fz (es.take n ++ ys ++ es.drop (n + ys.length)))) w' := by
  obtain ⟨a1, a2, a3, C, fr, c1, c2, c3, ⟨cap, c4, c4', c4''⟩, c5⟩ := hst.arr id ty ap fz es b sz hx hr
  rw [shape_cells c1] at hsh
  simp only [Option.some.injEq] at hsh
  subst hsh
  simp only at hfit
  have hfit2 : n * sz + news.length ≤ C.size := by rw [hnl, ← Nat.add_mul]; exact hfit
  obtain ⟨w', e1, e2, e3, e4⟩ := run_storeCells_blk (P := P) b (n * sz) news 0 w C ty fr c1 (by simpa using hfit2) c3 hone
  simp only [Nat.add_zero] at e4
  have hlt : (es.take n).length = n := by simp; omega
  obtain ⟨s1, s2⟩ := hst.splice (es' := es.take n ++ ys ++ es.drop (n + ys.length)) (off := n * sz) (vs := news) hx hr c1 (Nat.mul_le_mul_right _ hfz) hfit2 e2 e3 e4
    (fun c hc => by
      rcases List.mem_append.1 hc with h | h
      · rcases List.mem_append.1 h with h | h
        · exact a3 c (List.mem_of_mem_take h)
        · exact hyl c h
      · exact a3 c (List.mem_of_mem_drop h))
    (by
      rw [c4]
      refine Nat.mul_le_mul_right _ ?_
      have hq : n + ys.length ≤ cap := by
        rw [c4] at hfit
        exact Nat.le_of_mul_le_mul_right hfit a1
      simp only [List.length_append, hlt, List.length_drop]
      omega)
    (fun i c j x hi hj => by
      by_cases h1 : i < n
      · rw [List.append_assoc, List.getElem?_append_left (by omega), List.getElem?_take, if_pos h1] at hi
        have hjl : j < sz := by rw [← a3 c (List.mem_of_getElem? hi)]; exact (List.getElem?_eq_some_iff.1 hj).1
        exact .inl ⟨c, hi, hj, .inl (lt_mul hjl h1)⟩
      · by_cases h2 : i < n + ys.length
        · rw [List.append_assoc, List.getElem?_append_right (by omega), hlt, List.getElem?_append_left (by omega)] at hi
          have hjl : j < sz := by rw [← hyl c (List.mem_of_getElem? hi)]; exact (List.getElem?_eq_some_iff.1 hj).1
          have hm : n * sz ≤ i * sz := Nat.mul_le_mul_right _ (by omega)
          obtain ⟨u, h3, h4⟩ := hnv _ c j x hi hj
          refine .inr ⟨by omega, ?_, u, ?_, h4⟩
          · rw [hnl, ← Nat.add_mul]
            exact lt_mul hjl h2
          · rw [show i * sz + j - n * sz = (i - n) * sz + j by rw [Nat.sub_mul]; omega]
            exact h3
        · rw [List.getElem?_append_right (by simp only [List.length_append, hlt]; omega), List.length_append, hlt, List.getElem?_drop, show n + ys.length + (i - (n + ys.length)) = i by omega] at hi
          refine .inl ⟨c, hi, hj, .inr ?_⟩
          rw [hnl, ← Nat.add_mul]
          exact Nat.le_trans (Nat.mul_le_mul_right _ (by omega)) (Nat.le_add_right _ _))
  exact ⟨w', e1, s1, s2⟩

theorem aappend_sound {t t2 ty : TypeId} {x y : AV} {u v : Value} {r : AV × AHeap} (hst : St P B ok0 ρ H w) (hB : B ≤ w.heap.size) (hx : VR P (okS B ok0 ρ H) w ρ x u) (hy : VR P (okS B ok0 ρ H) w ρ y v) (h : aappend P t t2 x y H = some r) :
    ∃ q w' ρ', (Builtin.append_ #[t, t2] ty #[u, v]).run P w = .ok q w' ∧ St P B ok0 ρ' r.2 w' ∧ Evo B ok0 ρ H w ρ' r.2 w' ∧ VR P (okS B ok0 ρ' r.2) w' ρ' r.1 q := by
  unfold aappend at h
  split at h
  · rename_i e ys h1 h2
    split at h
    · rename_i by_ k hby hz
      split at h
      · rename_i hc
        obtain ⟨hc1, hc2, hc3⟩ := hc
        have hT := sliceT_some h1
        have hyl : ∀ c ∈ ys, c.length = k + 1 := fun c hc => by
          have := (hc1 c hc).1
          rw [hz] at this
          simpa using this.symm
        obtain ⟨news, hN⟩ := asrc_sound hst hy h2 hyl fun c hc => (hc1 c hc).2
        obtain ⟨zs, hzs⟩ := Option.isSome_iff_exists.1 hc3
        obtain ⟨i, zv, hi, hzv, hzl, hzc, _, _, _⟩ := zeroT_some hzs
        have hsi : i.size = k + 1 := by
          simp only [szOf, hi, Option.map_some, Option.some.injEq] at hz
          exact hz
        have hbi : i.bytes = by_ := by
          simp only [bytesT, hi, Option.map_some, Option.some.injEq] at hby
          exact hby
        have hzvs : zv.cells.size = k + 1 := by omega
        rw [← hsi] at hN
        split at h
        · split at h
          · rename_i hb
            cases hx
            split at h
            · rename_i h0
              simp only [Option.some.injEq] at h
              subst h
              have := run_room (t := t) (t2 := t2) (ty := ty) (base := none) (n := 0) (cap := 0) hT hc2 (by rw [hz, hsi]) hN (by omega)
              rw [h0] at this
              exact ⟨.slice none 0 0, w, ρ, by rw [this]; rfl, hst, Evo.refl _ _ _ _ _, .nils _⟩
            · rename_i h0
              simp only [Option.some.injEq] at h
              subst h
              have hr := run_grow (t := t) (t2 := t2) (ty := ty) (base := none) (n := 0) (cap := 0) (olds := []) hT hc2 hi hzv hN (fun w' _ => by simp [Builtin.firstCells]) (by omega) (by simpa using hb.1) (by rw [hbi]; simpa using hb.2)
              obtain ⟨ρ', a1, a2, a3⟩ := grow_sound (cap := 0) (fz := 0) (xs := []) (ys := ys) (olds := []) (news := news) (zv := zv) hst hB (e := e) (z := k + 1) (by omega) hz hzvs (by simp) hyl (by simp) (by rw [hN.len, hsi]) (by simp) (by rw [← hsi]; exact hN.val) (by simp [maxLen]; omega)
              simp only [List.length_nil, Nat.zero_add, List.nil_append] at a1 a2 a3 hr
              exact ⟨_, _, ρ', hr, a1, a2, a3⟩
          · cases h
        · rename_i id i0 n
          split at h
          · rename_i ty0 ap fz es hid
            cases hx with
            | hs _ _ _ _ b sz cap ty' hr hn hs =>
              obtain ⟨a1, a2, a3, C, fr, c1, c2, c3, ⟨cap', c4, c4', c4''⟩, c5⟩ := hst.arr id ty0 ap fz es b sz hid hr
              have hsh := shape_cells c1
              rw [hs] at hsh
              simp only [Option.some.injEq, Prod.mk.injEq] at hsh
              obtain ⟨hty, hsz⟩ := hsh
              split at h
              · rename_i hb
                obtain ⟨rfl, rfl, rfl, rfl, hfz, hm1, hm2⟩ := hb
                have hzsz : sz = k + 1 := by rw [hz] at a2; simpa using a2.symm
                have hcc : cap = cap' := by
                  rw [c4, Nat.zero_add] at hsz
                  exact Nat.eq_of_mul_eq_mul_right a1 hsz
                subst hcc
                subst hzsz
                rw [hsi] at hN
                simp only [Nat.zero_mul] at hs ⊢
                split at h
                · rename_i h0
                  simp only [Option.some.injEq] at h
                  subst h
                  have := run_room (t := t) (t2 := t2) (ty := ty) (base := some ⟨b, 0, none⟩) (n := es.length) (cap := cap) hT hc2 hz hN (by omega)
                  have hnn : news = [] := List.eq_nil_of_length_eq_zero (by rw [hN.len, h0]; simp)
                  rw [h0, hnn] at this
                  refine ⟨_, w, ρ, by rw [this]; rfl, hst, Evo.refl _ _ _ _ _, ?_⟩
                  simp only [Nat.add_zero]
                  exact hs_VR hr hn c1 c4
                · rename_i h0
                  simp only [Option.some.injEq] at h
                  subst h
                  by_cases hroom : es.length + ys.length ≤ cap
                  · have hrun := run_room (t := t) (t2 := t2) (ty := ty) (base := some ⟨b, 0, none⟩) (n := es.length) (cap := cap) hT hc2 hz hN hroom
                    obtain ⟨m1, m2⟩ := hst.move hid hr
                    have hid' : (H.set id .dead ++ [AO.arr ty0 true fz es])[H.length]? = some (AO.arr ty0 true fz es) := by
                      rw [List.getElem?_append_right (by simp)]; simp
                    obtain ⟨w', f1, f2, f3⟩ := room_sound (n := es.length) m1 hid' (plNew hst (b, k + 1)) hyl hN.len hN.one (fun i c j x hi hj => let ⟨u, p1, p2⟩ := hN.val i c j x hi hj; ⟨u, p1, p2.mono m2.stab m2.pre⟩) hfz (Nat.le_refl _) hs (by simp only [Nat.zero_add]; exact Nat.mul_le_mul_right _ hroom)
                    have hset : (H.set id AO.dead ++ [AO.arr ty0 true fz es]).set H.length (AO.arr ty0 true fz (es.take es.length ++ ys ++ es.drop (es.length + ys.length))) = H.set id AO.dead ++ [AO.arr ty0 true fz (es ++ ys)] := by
                      rw [List.set_append_right _ _ (by simp)]
                      simp
                    rw [hset] at f2 f3
                    refine ⟨.slice (some ⟨b, 0, none⟩) (es.length + ys.length) cap, w', _, ?_, f2, m2.trans f3, ?_⟩
                    · rw [hrun]
                      simp only [addr_add, Nat.zero_add, f1]
                      rfl
                    · have := hst.len
                      have hsh' := f3.stab.shape _ _ hs
                      have := VR.hs (P := P) (ok := okS B ok0 (ρ ++ [(b, k + 1)]) (H.set id .dead ++ [.arr ty0 true fz (es ++ ys)])) (w := w') (ρ ++ [(b, k + 1)]) H.length 0 (es.length + ys.length) b (k + 1) cap ty' (plNew hst (b, k + 1)) hroom hsh'
                      simpa using this
                  · have hCl : C.toList.length = cap * (k + 1) := by rw [Array.length_toList]; exact c4
                    have hold : ∀ w', (∀ a, w'.cell? a = w.cell? a) → (Builtin.firstCells i.size es.length (.slice (some ⟨b, 0, none⟩) es.length cap)).run P w' = .ok (C.toList.take (es.length * (k + 1))).toArray w' := by
                      intro w' hw
                      refine run_firstCells_some w' i.size es.length ⟨b, 0, none⟩ es.length cap _ ?_ ?_
                      · rw [hsi, List.length_take, hCl]
                        exact Nat.min_eq_left (Nat.mul_le_mul_right _ hn)
                      · intro q u hq
                        rw [List.getElem?_take] at hq
                        split at hq
                        · rw [hw, addr_add, Nat.zero_add, cell_cells c1]
                          simpa using hq
                        · cases hq
                    have hrun := run_grow (t := t) (t2 := t2) (ty := ty) (base := some ⟨b, 0, none⟩) (n := es.length) (cap := cap) hT hc2 hi hzv (by rw [hsi]; exact hN) hold (by omega) hm1 (by rw [hbi]; exact hm2)
                    obtain ⟨m1, m2⟩ := hst.relax (H' := H.set id .dead) (by simp) (fun q x' hq => by
                      by_cases hqe : q = id
                      · subst hqe
                        rw [List.getElem?_set_self (List.getElem?_eq_some_iff.1 hid).1] at hq
                        simp only [Option.some.injEq] at hq
                        exact ⟨_, hid, .inr (.inl hq.symm)⟩
                      · rw [List.getElem?_set_ne (Ne.symm hqe)] at hq
                        exact ⟨_, hq, .inl rfl⟩)
                    obtain ⟨ρ', g1, g2, g3⟩ := grow_sound (cap := cap) (fz := fz) (xs := es) (ys := ys) (olds := C.toList.take (es.length * (k + 1))) (news := news) (zv := zv) m1 hB (e := ty0) (z := k + 1) (by omega) hz hzvs a3 hyl
                      (by rw [List.length_take, hCl]; exact Nat.min_eq_left (Nat.mul_le_mul_right _ hn)) hN.len
                      (fun q c j x hq hj => by
                        obtain ⟨u, cu, hu⟩ := c5 q c j x hq hj
                        have hjl : j < k + 1 := by rw [← a3 c (List.mem_of_getElem? hq)]; exact (List.getElem?_eq_some_iff.1 hj).1
                        refine ⟨u, ?_, hu.mono m2.stab m2.pre⟩
                        rw [List.getElem?_take, if_pos (lt_mul hjl (List.getElem?_eq_some_iff.1 hq).1)]
                        simpa using cu)
                      (fun q c j x hq hj => let ⟨u, p1, p2⟩ := hN.val q c j x hq hj; ⟨u, p1, p2.mono m2.stab m2.pre⟩) (by simp only [maxLen]; omega)
                    rw [List.length_set] at g3
                    exact ⟨_, _, ρ', hrun, g1, m2.trans g2, g3⟩
              · split at h
                · rename_i hb
                  obtain ⟨rfl, rfl, hm1, hm2⟩ := hb
                  simp only [Option.some.injEq] at h
                  subst h
                  have hzsz : sz = k + 1 := by rw [hz] at a2; simpa using a2.symm
                  have hcc : cap = cap' := by
                    rw [c4, Nat.zero_add] at hsz
                    exact Nat.eq_of_mul_eq_mul_right a1 hsz
                  subst hcc
                  subst hzsz
                  rw [hsi] at hN
                  simp only [Nat.zero_mul] at hs ⊢
                  have hroom : n + ys.length ≤ cap := by omega
                  have hrun := run_room (t := t) (t2 := t2) (ty := ty) (base := some ⟨b, 0, none⟩) (n := n) (cap := cap) hT hc2 hz hN hroom
                  obtain ⟨w', f1, f2, f3⟩ := room_sound (n := n) hst hid hr hyl hN.len hN.one hN.val hm2 (by omega) hs (by simp only [Nat.zero_add]; exact Nat.mul_le_mul_right _ hroom)
                  refine ⟨.slice (some ⟨b, 0, none⟩) (n + ys.length) cap, w', _, ?_, f2, f3, ?_⟩
                  · rw [hrun]
                    simp only [addr_add, Nat.zero_add, f1]
                    rfl
                  · have hsh' := f3.stab.shape _ _ hs
                    have := VR.hs (P := P) (ok := okS B ok0 ρ (H.set id (.arr ty0 ap fz (es.take n ++ ys ++ es.drop (n + ys.length))))) (w := w') ρ id 0 (n + ys.length) b (k + 1) cap ty' hr hroom hsh'
                    simpa using this
                · cases h
          · cases h
        · cases h
      · cases h
    · cases h
  · cases h

theorem acopy_sound {t t2 ty : TypeId} {x y : AV} {u v : Value} {r : AV × AHeap} (hst : St P B ok0 ρ H w) (hx : VR P (okS B ok0 ρ H) w ρ x u) (hy : VR P (okS B ok0 ρ H) w ρ y v) (h : acopy P t x y H = some r) :
    ∃ q w', (Builtin.copy_ #[t, t2] ty #[u, v]).run P w = .ok q w' ∧ St P B ok0 ρ r.2 w' ∧ Evo B ok0 ρ H w ρ r.2 w' ∧ VR P (okS B ok0 ρ r.2) w' ρ r.1 q := by
  unfold acopy at h
  split at h
  · rename_i e ys h1 h2
    split at h
    · rename_i hc
      obtain ⟨hc1, hc2⟩ := hc
      obtain ⟨z, hz⟩ := Option.isSome_iff_exists.1 hc2
      have hT := sliceT_some h1
      have hyl : ∀ c ∈ ys, c.length = z := fun c hc => by
        have := (hc1 c hc).1
        rw [hz] at this
        simpa using this.symm
      obtain ⟨news, hN⟩ := asrc_sound hst hy h2 hyl fun c hc => (hc1 c hc).2
      split at h
      · simp only [Option.some.injEq] at h
        subst h
        cases hx
        have hf := hN.first w 0 (fun _ => rfl) (Nat.zero_le _)
        refine ⟨.int .i64 0, w, ?_, hst, Evo.refl _ _ _ _ _, .int _ _ _⟩
        simp [Builtin.copy_, run_underlying hT, hN.lenOf, run_sizeOf hz, hf, goInt]
      · rename_i id i n
        split at h
        · rename_i ty0 ap fz es hid
          split at h
          · rename_i hb
            obtain ⟨rfl, hm1, hm2⟩ := hb
            simp only [Option.some.injEq] at h
            subst h
            cases hx with
            | hs _ _ _ _ b sz cap ty' hr hn hs =>
              obtain ⟨a1, a2, a3, _⟩ := hst.arr id ty0 ap fz es b sz hid hr
              have hzsz : sz = z := by rw [hz] at a2; simpa using a2.symm
              subst hzsz
              have hmle : min ys.length n ≤ ys.length := Nat.min_le_left _ _
              have hmn : min ys.length n ≤ n := Nat.min_le_right _ _
              have hf := hN.first w (min ys.length n) (fun _ => rfl) hmle
              have htl : (ys.take (min ys.length n)).length = min ys.length n := by simp
              obtain ⟨w', f1, f2, f3⟩ := room_sound (n := i) (ys := ys.take (min ys.length n)) (news := news.take (min ys.length n * sz)) hst hid hr (fun c hc => hyl c (List.mem_of_mem_take hc))
                (by rw [htl, List.length_take, hN.len]; exact Nat.min_eq_left (Nat.mul_le_mul_right _ hmle)) (fun u hu => hN.one u (List.mem_of_mem_take hu))
                (fun q c j x hq hj => by
                  rw [List.getElem?_take] at hq
                  split at hq
                  · rename_i hlt
                    obtain ⟨u, p1, p2⟩ := hN.val q c j x hq hj
                    have hjl : j < sz := by rw [← hyl c (List.mem_of_getElem? hq)]; exact (List.getElem?_eq_some_iff.1 hj).1
                    exact ⟨u, by rw [List.getElem?_take, if_pos (lt_mul hjl hlt)]; exact p1, p2⟩
                  · cases hq) hm2 (by omega) hs (by simp only [htl]; exact Nat.mul_le_mul_right _ (by omega))
              rw [htl] at f2 f3
              refine ⟨.int .i64 (min ys.length n : Nat), w', ?_, f2, f3, .int _ _ _⟩
              have hmm : Nat.min ys.length n = min ys.length n := rfl
              simp [Builtin.copy_, run_underlying hT, hN.lenOf, run_sizeOf hz, hmm, hf, f1, goInt]
          · cases h
        · cases h
      · cases h
    · cases h
  · cases h
end
end Go.Vam
/- The abstract machine VAM is sound: make, slice literals, lengths, iterators over texts. -/

namespace Go.Vam
open Go.RowKit

section
variable {P : Program} {w : World} {B : Nat} {ok0 : Nat → Nat → Prop} {ρ : Pl} {H : AHeap}

theorem amakeMap_sound (hst : St P B ok0 ρ H w) (hB : B ≤ w.heap.size) (t : TypeId) :
    ∃ v w' ρ', (Instr.makeMap t none).run P w = .ok v w' ∧ St P B ok0 ρ' (H ++ [.map []]) w' ∧ Evo B ok0 ρ H w ρ' (H ++ [.map []]) w' ∧ VR P (okS B ok0 ρ' (H ++ [.map []])) w' ρ' (.mp H.length) v := by
  obtain ⟨a1, a2⟩ := hst.alloc (x := .map []) (o := .map #[] 0) (sz := 0) hB (below_alloc' w (.map #[] 0)) (heap_alloc_new w _) (fun ty ap fz es e => by cases e)
    (fun es e => by cases e; exact ⟨[], 0, rfl, ⟨by simp, by simp⟩, rfl, by simp, by simp⟩) (fun s p e => by cases e)
  exact ⟨.map (some w.heap.size), _, _, by simp [Instr.makeMap], a1, a2, .mp _ _ _ _ (plNew hst _)⟩

theorem madeCells_get (z : Array Value) (n q : Nat) (h : q < n) : (madeCells z n)[q]? = some (z[q % z.size]!) := by
  simp [madeCells, h]
theorem made_cell {zs : List AV} {z : Value} {m : Nat} {ok : Nat → Nat → Prop} (hz : z.cells.size = zs.length) (hv : ∀ (i : Nat) (x : AV), zs[i]? = some x → VR P ok w ρ x (z.cells.toList.getD i undef))
    {i j : Nat} {e : List AV} {x : AV} (hi : (List.replicate m zs)[i]? = some e) (hj : e[j]? = some x) : ∃ u, (madeCells z.cells (m * zs.length))[i * zs.length + j]? = some u ∧ VR P ok w ρ x u := by
  have him : i < m := by simpa using (List.getElem?_eq_some_iff.1 hi).1
  rw [List.getElem?_replicate, if_pos him] at hi
  simp only [Option.some.injEq] at hi
  subst hi
  have hjl := (List.getElem?_eq_some_iff.1 hj).1
  refine ⟨_, madeCells_get _ _ _ (lt_mul hjl him), ?_⟩
  rw [hz, (divmod_of hjl).2]
  have := hv j x hj
  have hjz : j < z.cells.size := by omega
  simpa [List.getD, hjz] using this
theorem amakeSlice_sound {t : TypeId} {l c : AV} {u v : Value} {r : AV × AHeap} (hst : St P B ok0 ρ H w) (hB : B ≤ w.heap.size) (hl : VR P (okS B ok0 ρ H) w ρ l u) (hc : VR P (okS B ok0 ρ H) w ρ c v) (h : amakeSlice P t l c H = some r) :
    ∃ q w' ρ', (Instr.makeSlice t u v).run P w = .ok q w' ∧ St P B ok0 ρ' r.2 w' ∧ Evo B ok0 ρ H w ρ' r.2 w' ∧ VR P (okS B ok0 ρ' r.2) w' ρ' r.1 q := by
  unfold amakeSlice at h
  split at h
  · rename_i k1 a k2 b e h1
    split at h
    · rename_i z by_ h2 h3
      split at h
      · rename_i hh
        obtain ⟨rfl, g1, g2, g3⟩ := hh
        simp only [Option.some.injEq] at h
        subst h
        cases hl
        cases hc
        obtain ⟨i, zv, hi, hzv, s1, s2, s3, s4, s5⟩ := zeroT_some h2
        have hby : i.bytes = by_ := by
          simp only [bytesT, hi, Option.map_some, Option.some.injEq] at h3
          exact h3
        have hrun := run_make (P := P) w t e i zv (sliceT_some h1) hi hzv k1 k2 a a g1 (Int.le_refl _) (by rw [hby]; exact g3) g2
        rw [s1] at hrun
        have hnw := heap_alloc_new w (.cells (madeCells zv.cells (a.toNat * z.length)) e)
        obtain ⟨a1, a2⟩ := hst.newArr (ty := e) (ap := true) (fz := 0) (es := List.replicate a.toNat z) (fr := (0, 0)) (sz := z.length) (cap := a.toNat) hB (below_alloc' w _) hnw (List.length_pos_iff.2 s3) (zeroT_sz h2)
          (fun c hc => by rw [List.eq_of_mem_replicate hc]) (fun _ => rfl) (by intro o ho; simp) (size_madeCells _ _) (by simp) (by simp only [maxLen]; omega)
          (fun i' e' j x he hj => made_cell s2 s5 he hj)
        exact ⟨_, _, _, hrun, a1, a2, hs_VR (plNew hst _) (Nat.le_refl _) hnw (size_madeCells _ _)⟩
      · cases h
    · cases h
  · cases h

theorem fillS_sound {n : Nat} {ok : Nat → Nat → Prop} : ∀ (parts : List (Nat × AV)) (vs : List (Nat × Value)) (es es' : List (List AV)) (C : Array Value), parts.length = vs.length →
      (∀ (i : Nat) (q : Nat) (x : AV), parts[i]? = some (q, x) → (vs.getD i (0, undef)).1 = q ∧ VR P ok w ρ x (vs.getD i (0, undef)).2) → C.size = es.length * n → (∀ e ∈ es, e.length = n) →
      (∀ (i : Nat) (e : List AV) (j : Nat) (x : AV), es[i]? = some e → e[j]? = some x → ∃ u, C[i * n + j]? = some u ∧ VR P ok w ρ x u) → afillS n parts es = some es' →
      ∃ C', Instr.fill (fun i => some (i * n, n)) C vs = some C' ∧ C'.size = C.size ∧ es'.length = es.length ∧ (∀ e ∈ es', e.length = n) ∧ ∀ (i : Nat) (e : List AV) (j : Nat) (x : AV), es'[i]? = some e → e[j]? = some x → ∃ u, C'[i * n + j]? = some u ∧ VR P ok w ρ x u
  | [], vs, es, es', C, hlen, hv, hC, hz, hc, h => by
    have : vs = [] := List.eq_nil_of_length_eq_zero (by simpa using hlen.symm)
    subst this
    simp only [afillS, Option.some.injEq] at h
    subst h
    exact ⟨C, rfl, rfl, rfl, hz, hc⟩
  | (f, x) :: parts, [], es, es', C, hlen, hv, hC, hz, hc, h => by simp at hlen
  | (f, x) :: parts, (q, v) :: vs, es, es', C, hlen, hv, hC, hz, hc, h => by
    have h0 := hv 0 f x rfl
    simp only [List.getD_cons_zero] at h0
    obtain ⟨rfl, hx⟩ := h0
    simp only [afillS] at h
    split at h
    · rename_i hcond
      obtain ⟨k1, k2, k3⟩ := hcond
      obtain ⟨m1, m2⟩ := cells_VR hx k3
      have hfit : q * n + n ≤ C.size := by
        have : (q + 1) * n ≤ es.length * n := Nat.mul_le_mul_right _ k1
        rw [Nat.add_mul] at this
        omega
      have hvl : v.cells.toList.length = n := by simp only [Array.length_toList]; omega
      have hsp := fill_one C (q * n) v.cells.toList (by omega)
      simp only [Array.toArray_toList] at hsp
      have hsz := size_spliceA C (q * n) v.cells.toList (by omega)
      obtain ⟨C', e1, e2, e3, e4, e5⟩ := fillS_sound parts vs (es.set q x.cells) es' (spliceA C (q * n) v.cells.toList) (by simpa using hlen)
        (fun i q' y hy => by have := hv (i + 1) q' y (by simpa using hy); simpa using this) (by rw [hsz, hC]; simp)
        (fun e he => by
          rcases List.mem_or_eq_of_mem_set he with h | h
          · exact hz e h
          · rw [h]; exact k2)
        (fun i e j y hi hj => by
          rw [get_spliceA _ _ _ (by omega), hvl]
          by_cases hiq : i = q
          · subst hiq
            rw [List.getElem?_set_self k1] at hi
            simp only [Option.some.injEq] at hi
            subst hi
            have hjl := (List.getElem?_eq_some_iff.1 hj).1
            refine ⟨v.cells.toList.getD j undef, ?_, m2 j y hj⟩
            rw [if_neg (by omega), if_pos (by omega), show i * n + j - i * n = j by omega]
            exact getD_of (by omega)
          · rw [List.getElem?_set_ne (Ne.symm hiq)] at hi
            obtain ⟨u, cu, hu⟩ := hc i e j y hi hj
            have hjl : j < n := by rw [← hz e (List.mem_of_getElem? hi)]; exact (List.getElem?_eq_some_iff.1 hj).1
            refine ⟨u, ?_, hu⟩
            rcases Nat.lt_or_gt_of_ne hiq with hl | hl
            · rw [if_pos (lt_mul hjl hl)]; exact cu
            · have : (q + 1) * n ≤ i * n := Nat.mul_le_mul_right _ hl
              rw [Nat.add_mul] at this
              rw [if_neg (by omega), if_neg (by omega)]
              exact cu) h
      refine ⟨C', ?_, by rw [e2, hsz], by rw [e3]; simp, e4, e5⟩
      unfold Instr.fill
      simp only
      rw [if_neg (by simp only [Bool.or_eq_true, decide_eq_true_eq, ne_eq]; omega)]
      rw [hsp]
      exact e1
    · cases h

theorem abuildSlice_sound {t : TypeId} {len : Nat} {parts : List (Nat × AV)} {vs : List (Nat × Value)} {r : AV × AHeap} (hst : St P B ok0 ρ H w) (hB : B ≤ w.heap.size) (hlen : parts.length = vs.length)
    (hv : ∀ (i : Nat) (q : Nat) (x : AV), parts[i]? = some (q, x) → (vs.getD i (0, undef)).1 = q ∧ VR P (okS B ok0 ρ H) w ρ x (vs.getD i (0, undef)).2) (h : abuildSlice P t len parts H = some r) :
    ∃ q w' ρ', (Instr.buildSlice t len vs.toArray).run P w = .ok q w' ∧ St P B ok0 ρ' r.2 w' ∧ Evo B ok0 ρ H w ρ' r.2 w' ∧ VR P (okS B ok0 ρ' r.2) w' ρ' r.1 q := by
  unfold abuildSlice at h
  split at h
  · rename_i e h1
    split at h
    · rename_i z h2
      split at h
      · rename_i hcap
        cases hf : afillS z.length parts (List.replicate len z) with
        | none => rw [hf] at h; cases h
        | some es' =>
          rw [hf] at h
          simp only [Option.map_some, Option.some.injEq] at h
          subst h
          obtain ⟨i, zv, hi, hzv, s1, s2, s3, s4, s5⟩ := zeroT_some h2
          obtain ⟨C', e1, e2, e3, e4, e5⟩ := fillS_sound (P := P) (w := w) (ρ := ρ) (ok := okS B ok0 ρ H) parts vs (List.replicate len z) es' (madeCells zv.cells (len * z.length)) hlen hv (by simp [size_madeCells]) (fun c hc => by rw [List.eq_of_mem_replicate hc])
            (fun i' e' j x he hj => made_cell s2 s5 he hj) hf
          have hnw := heap_alloc_new w (.cells C' e)
          have hzs := zeroT_sz h2
          have hpos := List.length_pos_iff.2 s3
          have hC : C'.size = len * z.length := by rw [e2, size_madeCells]
          have hlm : len ≤ len * z.length := Nat.le_mul_of_pos_right _ hpos
          obtain ⟨a1, a2⟩ := hst.newArr (ty := e) (ap := true) (fz := 0) (es := es') (fr := (0, 0)) (sz := z.length) (cap := len) hB (below_alloc' w _) hnw hpos hzs e4 (fun _ => rfl) (by intro o ho; simp) hC (by rw [e3]; simp) (by simp only [maxLen]; omega) e5
          refine ⟨_, _, _, ?_, a1, a2, hs_VR (plNew hst _) (Nat.le_refl _) hnw hC⟩
          have hn : ¬ (16777216 < len * z.length) := by omega
          by_cases h0 : len * z.length = 0
          · have hl0 : len = 0 := by
              rcases Nat.mul_eq_zero.1 h0 with h | h
              · exact h
              · omega
            subst hl0
            simp only [Nat.zero_mul] at e1
            have hm : madeCells zv.cells 0 = #[] := by simp [madeCells]
            rw [hm] at e1
            have hr0 : (Array.range (0 * z.length)).map ((#[] : Array Value)[· % (#[] : Array Value).size]!) = #[] := by simp
            have hn' : ¬ (2 ^ 24 < 0 * z.length) := by omega
            simp only [Instr.buildSlice, Sem.run_bind, run_underlying (sliceT_some h1), Result.andThen_ok, run_sizeOf hzs, gt_iff_lt, if_neg hn', if_pos h0, Sem.run_pure, hr0, e1, run_newRow]
          · have e1' : Instr.fill (fun i => some (i * z.length, z.length)) ((Array.range (len * z.length)).map (zv.cells[· % zv.cells.size]!)) vs = some C' := e1
            have hn' : ¬ (2 ^ 24 < len * z.length) := hn
            simp only [Instr.buildSlice, Sem.run_bind, run_underlying (sliceT_some h1), Result.andThen_ok, run_sizeOf hzs, gt_iff_lt, if_neg hn', if_neg h0, run_zeroValue hi hzv, Sem.run_pure, e1', run_newRow]
      · cases h
    · cases h
  · cases h

theorem alen_sound {t ty : TypeId} {x : AV} {u : Value} {n : Int} (hst : St P B ok0 ρ H w) (hx : VR P (okS B ok0 ρ H) w ρ x u) (hl : lenT P t x = true) (h : alen x H = some n) : (Builtin.len_ #[t] ty #[u]).run P w = .ok (.int .i64 n) w := by
  unfold lenT at hl
  split at hl
  · rename_i h1
    simp only [alen, Option.some.injEq] at h
    subst h
    cases hx with
    | str _ b =>
      have hbl : (b.data.toList.length : Int) = b.size := by rw [Array.length_toList]; rfl
      rw [hbl]
      simp [Builtin.len_, run_underlying h1, goInt]
  · rename_i h1
    simp only [alen, Option.some.injEq] at h
    subst h
    cases hx <;> simp [Builtin.len_, run_underlying h1, goInt]
  · rename_i h1
    simp only [alen, Option.some.injEq] at h
    subst h
    cases hx
    simp [Builtin.len_, run_underlying h1, goInt]
  · rename_i h1
    simp only [alen, Option.some.injEq] at h
    subst h
    cases hx
    simp [Builtin.len_, run_underlying h1, goInt]
  · rename_i h1
    simp only [alen, Option.some.injEq] at h
    subst h
    cases hx
    simp [Builtin.len_, run_underlying h1, goInt]
  · rename_i h1
    simp only [alen, Option.some.injEq] at h
    subst h
    cases hx with
    | pm _ es b l ck hb ho hl h1' h2 => simp [Builtin.len_, run_underlying h1, goInt, MapKept.run_getObj_map hb, hl]
    | pm0 => simp [Builtin.len_, run_underlying h1, goInt]
  · rename_i id h1
    unfold alen at h
    cases hx with
    | mp _ _ b sz hr =>
      simp only at h
      split at h
      · rename_i es hid
        simp only [Option.some.injEq] at h
        subst h
        obtain ⟨l, ck, c1, _, c2, _, _⟩ := hst.map _ _ _ _ hid hr
        simp [Builtin.len_, run_underlying h1, goInt, MapKept.run_getObj_map c1, c2]
      · cases h
  · cases hl

theorem arange_sound {t : TypeId} {l : List UInt8} {u : Value} (hst : St P B ok0 ρ H w) (hB : B ≤ w.heap.size) (hT : strT P t = true) (hx : VR P (okS B ok0 ρ H) w ρ (.str l) u) :
    ∃ q w' ρ', (Instr.range t u).run P w = .ok q w' ∧ St P B ok0 ρ' (H ++ [.siter l 0]) w' ∧ Evo B ok0 ρ H w ρ' (H ++ [.siter l 0]) w' ∧ VR P (okS B ok0 ρ' (H ++ [.siter l 0])) w' ρ' (.it H.length) q := by
  cases hx with
  | str _ b =>
    obtain ⟨a1, a2⟩ := hst.alloc (x := .siter b.data.toList 0) (o := .stringIter b 0) (sz := 0) hB (below_alloc' w (.stringIter b 0)) (heap_alloc_new w _) (fun ty ap fz es e => by cases e)
      (fun es e => by cases e) (fun s p e => by cases e; rfl)
    exact ⟨.pointer (some ⟨w.heap.size, 0, none⟩), _, _, by simp [Instr.range, run_underlying (strT_true hT)], a1, a2, .it _ _ _ _ (plNew hst _)⟩

theorem tup_VR {ok : Nat → Nat → Prop} {xs : List AV} {vs : List Value} (hl : xs.length = vs.length) (h : ∀ i x, xs[i]? = some x → VR P ok w ρ x (vs.getD i undef)) : VR P ok w ρ (.tup xs) (.tuple vs.toArray) := .tup _ _ _ hl h

theorem anext_sound {id : Nat} {l : List UInt8} {pos : Nat} {u : Value} {t : TypeId} (hst : St P B ok0 ρ H w) (hx : VR P (okS B ok0 ρ H) w ρ (.it id) u) (hid : H[id]? = some (.siter l pos)) (hlt : pos < l.length) :
    ∃ q w', (Instr.next u true t).run P w = .ok q w' ∧ St P B ok0 ρ (H.set id (.siter l (pos + (Utf8.decode ⟨l.toArray⟩ pos).2))) w' ∧ Evo B ok0 ρ H w ρ (H.set id (.siter l (pos + (Utf8.decode ⟨l.toArray⟩ pos).2))) w' ∧
      VR P (okS B ok0 ρ (H.set id (.siter l (pos + (Utf8.decode ⟨l.toArray⟩ pos).2)))) w' ρ (.tup [.bool true, .int .i64 pos, .int .i32 (Utf8.decode ⟨l.toArray⟩ pos).1]) q := by
  cases hx with
  | it _ _ b sz hr =>
    have hb := hst.siter _ _ _ _ _ hid hr
    obtain ⟨s1, s2⟩ := MapKept.heap_set (o' := .stringIter ⟨l.toArray⟩ (pos + (Utf8.decode ⟨l.toArray⟩ pos).2)) hb
    obtain ⟨a1, a2⟩ := hst.modify (x' := .siter l (pos + (Utf8.decode ⟨l.toArray⟩ pos).2)) hid hr trivial trivial (fun o => Iff.rfl) (set_world (w := w) (o' := .stringIter ⟨l.toArray⟩ (pos + (Utf8.decode ⟨l.toArray⟩ pos).2))) s2 s1 (fun o u hk => hk.elim) (fun s hs => by simp [World.shape?, hb] at hs) (fun ty ap fz es e => by cases e) (fun es e => by cases e) (fun s p e => by cases e; rfl)
    refine ⟨.tuple #[.bool true, goInt pos, .int .i32 (Utf8.decode ⟨l.toArray⟩ pos).1], _, ?_, a1, a2, ?_⟩
    · have hsz : pos < (ByteArray.mk l.toArray).size := by show pos < l.toArray.size; simpa using hlt
      simp [Instr.next, getObj, setObj, Sem.run, hb, hsz]
    · refine VR.tup ρ _ [.bool true, goInt pos, .int .i32 (Utf8.decode ⟨l.toArray⟩ pos).1] rfl fun i x hx => ?_
      match i, hx with
      | 0, hx => simp at hx; subst hx; exact .bool _ _
      | 1, hx => simp at hx; subst hx; exact .int _ _ _
      | 2, hx => simp at hx; subst hx; exact .int _ _ _
      | i + 3, hx => simp at hx
theorem anext_over {id : Nat} {l : List UInt8} {pos : Nat} {u : Value} {t : TypeId} (hst : St P B ok0 ρ H w) (hx : VR P (okS B ok0 ρ H) w ρ (.it id) u) (hid : H[id]? = some (.siter l pos)) (hlt : ¬ pos < l.length) :
    ∃ q, (Instr.next u true t).run P w = .ok q w ∧ VR P (okS B ok0 ρ H) w ρ (.tup [.bool false]) q := by
  cases hx with
  | it _ _ b sz hr =>
    have hb := hst.siter _ _ _ _ _ hid hr
    refine ⟨.tuple #[.bool false], ?_, ?_⟩
    · have hsz : ¬ pos < (ByteArray.mk l.toArray).size := by show ¬ pos < l.toArray.size; simpa using hlt
      simp [Instr.next, getObj, Sem.run, hb, hsz]
    · refine VR.tup ρ _ [.bool false] rfl fun i x hx => ?_
      match i, hx with
      | 0, hx => simp at hx; subst hx; exact .bool _ _
      | i + 1, hx => simp at hx
end
end Go.Vam
/- The abstract machine VAM is sound: values that go into a call that leaves the heap alone, and come out of it. -/

namespace Go.Vam
open Go.RowKit

theorem mapO_some {α β : Type} {f : α → Option β} : ∀ {l : List α} {r : List β}, mapO f l = some r → r.length = l.length ∧ ∀ (i : Nat) (y : β), r[i]? = some y → ∃ x, l[i]? = some x ∧ f x = some y
  | [], r, h => by
    simp only [mapO, Option.some.injEq] at h
    subst h
    exact ⟨rfl, by simp⟩
  | a :: l, r, h => by
    unfold mapO at h
    cases hf : f a with
    | none => rw [hf] at h; cases h
    | some b =>
      rw [hf] at h
      simp only at h
      cases hm : mapO f l with
      | none => rw [hm] at h; cases h
      | some r' =>
        rw [hm] at h
        simp only [Option.map_some, Option.some.injEq] at h
        subst h
        obtain ⟨h1, h2⟩ := mapO_some hm
        refine ⟨by simp [h1], fun i y hi => ?_⟩
        cases i with
        | zero => simp at hi; subst hi; exact ⟨a, rfl, hf⟩
        | succ i => simpa using h2 i y (by simpa using hi)

section
variable {P : Program} {w : World} {B : Nat} {ok0 : Nat → Nat → Prop} {ρ : Pl} {H : AHeap}

/-- What is done above the blocks that were there turns nothing of an abstract heap. -/
theorem St.below {w' : World} (h : St P B ok0 ρ H w) (hB : B ≤ w.heap.size) (hw : Below w.heap.size w w') : St P B ok0 ρ H w' ∧ Evo B ok0 ρ H w ρ H w' := by
  have hcell : ∀ b o, b < w.heap.size → w'.cell? ⟨b, o, none⟩ = w.cell? ⟨b, o, none⟩ := fun b o hb => hw.cell (p := ⟨b, o, none⟩) hb
  have hst : Stable (okS B ok0 ρ H) w (okS B ok0 ρ H) w' := by
    refine ⟨fun b o u hk hc => ⟨?_, hk⟩, fun b s hs => ?_, fun b es ck hk hm => ⟨(hw.block b (lt_of_heap hm)).trans hm, hk⟩⟩
    · exact (hcell b o (World.block_lt_of_cell? w _ hc)).trans hc
    · have hb : b < w.heap.size := by
        simp only [World.shape?] at hs
        split at hs
        · rename_i hh; exact lt_of_heap hh
        · cases hs
      simp only [World.shape?, hw.block b hb]
      exact hs
  have up : ∀ {y : AV} {u : Value}, VR P (okS B ok0 ρ H) w ρ y u → VR P (okS B ok0 ρ H) w' ρ y u := fun hv => hv.mono hst (Pre.refl _)
  refine ⟨⟨h.len, fun id b sz hr => ⟨(h.base id b sz hr).1, Nat.lt_of_lt_of_le (h.base id b sz hr).2 hw.size⟩, h.uniq, ?_, ?_, ?_, ?_⟩, ⟨hw.mono hB, hst, Pre.refl _⟩⟩
  · intro id ty ap fz es b sz hx hr
    obtain ⟨a1, a2, a3, C, fr, c1, c2, c3, c4, c5⟩ := h.arr id ty ap fz es b sz hx hr
    exact ⟨a1, a2, a3, C, fr, (hw.block b (h.base id b sz hr).2).trans c1, c2, c3, c4, fun i e j y he hy => let ⟨u, cu, hu⟩ := c5 i e j y he hy; ⟨u, cu, up hu⟩⟩
  · intro id es b sz hx hr
    obtain ⟨ents, ck, c1, cb, c2, c3, c4⟩ := h.map id es b sz hx hr
    exact ⟨ents, ck, (hw.block b (h.base id b sz hr).2).trans c1, cb, c2, fun i k v hh => up (c3 i k v hh), fun i k v hh => up (c4 i k v hh)⟩
  · intro id s p b sz hx hr
    exact (hw.block b (h.base id b sz hr).2).trans (h.siter id s p b sz hx hr)
  · intro id o b sz hx hr
    exact (hw.block b (h.base id b sz hr).2).trans (h.raw id o b sz hx hr)

/-! ### settling -/
structure HLe (H Hs : AHeap) : Prop where
  len : Hs.length = H.length
  le : ∀ (id : Nat) (x' : AO), Hs[id]? = some x' → ∃ x, H[id]? = some x ∧ x.le x'
theorem AO.le_refl (x : AO) : x.le x := .inl rfl
theorem AO.le_trans {x y z : AO} (h : x.le y) (g : y.le z) : x.le z := by
  rcases h with rfl | rfl | ⟨ty, ap, f1, f2, es, rfl, rfl, h⟩
  · exact g
  · rcases g with rfl | rfl | ⟨_, _, _, _, _, e, _⟩
    · exact .inr (.inl rfl)
    · exact .inr (.inl rfl)
    · cases e
  · rcases g with rfl | rfl | ⟨_, _, f3, f4, _, e, rfl, g⟩
    · exact .inr (.inr ⟨_, _, _, _, _, rfl, rfl, h⟩)
    · exact .inr (.inl rfl)
    · cases e
      exact .inr (.inr ⟨_, _, _, _, _, rfl, rfl, Nat.le_trans h g⟩)
theorem HLe.refl (H : AHeap) : HLe H H := ⟨rfl, fun _ x h => ⟨x, h, .inl rfl⟩⟩
theorem HLe.trans {H1 H2 H3 : AHeap} (h : HLe H1 H2) (g : HLe H2 H3) : HLe H1 H3 :=
  ⟨g.len.trans h.len, fun id x hx => let ⟨y, hy, a⟩ := g.le id x hx; let ⟨z, hz, b⟩ := h.le id y hy; ⟨z, hz, AO.le_trans b a⟩⟩
def SettledAt (H Hs : AHeap) (id : Nat) : Prop :=
  (∀ ty ap fz es, H[id]? = some (.arr ty ap fz es) → ∃ x, Hs[id]? = some x ∧ (x = .dead ∨ ∃ fz', x = .arr ty ap fz' es ∧ es.length ≤ fz')) ∧ (∀ es, H[id]? = some (.map es) → Hs[id]? = some .dead)
theorem settled_le {H H1 H2 : AHeap} {id : Nat} (h : SettledAt H H1 id) (g : HLe H1 H2) : SettledAt H H2 id := by
  constructor
  · intro ty ap fz es hx
    obtain ⟨x, h1, h2⟩ := h.1 ty ap fz es hx
    have hlt := (List.getElem?_eq_some_iff.1 h1).1
    rw [← g.len] at hlt
    obtain ⟨y, hy, hle⟩ := g.le id _ (List.getElem?_eq_getElem hlt)
    rw [h1] at hy
    simp only [Option.some.injEq] at hy
    subst hy
    refine ⟨_, List.getElem?_eq_getElem hlt, ?_⟩
    rcases hle with e | e | ⟨_, _, f1, f2, _, e1, e2, hf⟩
    · rw [e]; exact h2
    · exact .inl e
    · rcases h2 with e | ⟨fz', e, hh⟩
      · rw [e] at e1; cases e1
      · rw [e] at e1
        cases e1
        exact .inr ⟨f2, e2, Nat.le_trans hh hf⟩
  · intro es hx
    have h1 := h.2 es hx
    have hlt := (List.getElem?_eq_some_iff.1 h1).1
    rw [← g.len] at hlt
    obtain ⟨y, hy, hle⟩ := g.le id _ (List.getElem?_eq_getElem hlt)
    rw [h1] at hy
    simp only [Option.some.injEq] at hy
    subst hy
    rw [List.getElem?_eq_getElem hlt]
    rcases hle with e | e | ⟨_, _, f1, f2, _, e1, e2, hf⟩
    · rw [e]
    · rw [e]
    · cases e1
theorem settle1_le (H : AHeap) (id : Nat) : HLe H (settle1 H id) ∧ SettledAt H (settle1 H id) id := by
  unfold settle1
  split
  · rename_i ty ap fz es hx
    have hlt := (List.getElem?_eq_some_iff.1 hx).1
    refine ⟨⟨by simp, fun q x' hq => ?_⟩, ⟨fun ty' ap' fz' es' he => ?_, fun es' he => (by rw [hx] at he; cases he)⟩⟩
    · by_cases e : q = id
      · subst e
        rw [List.getElem?_set_self hlt] at hq
        simp only [Option.some.injEq] at hq
        exact ⟨_, hx, .inr (.inr ⟨_, _, _, _, _, rfl, hq.symm, Nat.le_max_left _ _⟩)⟩
      · rw [List.getElem?_set_ne (Ne.symm e)] at hq
        exact ⟨_, hq, .inl rfl⟩
    · rw [hx] at he
      cases he
      exact ⟨_, List.getElem?_set_self hlt, .inr ⟨_, rfl, Nat.le_max_right _ _⟩⟩
  · rename_i es hx
    have hlt := (List.getElem?_eq_some_iff.1 hx).1
    refine ⟨⟨by simp, fun q x' hq => ?_⟩, ⟨fun ty' ap' fz' es' he => (by rw [hx] at he; cases he), fun es' he => List.getElem?_set_self hlt⟩⟩
    by_cases e : q = id
    · subst e
      rw [List.getElem?_set_self hlt] at hq
      simp only [Option.some.injEq] at hq
      exact ⟨_, hx, .inr (.inl hq.symm)⟩
    · rw [List.getElem?_set_ne (Ne.symm e)] at hq
      exact ⟨_, hq, .inl rfl⟩
  · rename_i h1 h2
    exact ⟨HLe.refl _, fun ty ap fz es he => absurd he (h1 ty ap fz es), fun es he => absurd he (h2 es)⟩
theorem settled_of_le {H H1 H2 : AHeap} {id : Nat} (hl : HLe H H1) (h : SettledAt H1 H2 id) (h2 : HLe H1 H2) : SettledAt H H2 id := by
  constructor
  · intro ty ap fz es hx
    have hlt := (List.getElem?_eq_some_iff.1 hx).1
    rw [← hl.len] at hlt
    obtain ⟨y, hy, hle⟩ := hl.le id _ (List.getElem?_eq_getElem hlt)
    rw [hx] at hy
    simp only [Option.some.injEq] at hy
    subst hy
    have hl2 : id < H2.length := by rw [h2.len]; exact hlt
    have key : H1[id] = .dead → ∃ x, H2[id]? = some x ∧ (x = .dead ∨ ∃ fz', x = .arr ty ap fz' es ∧ es.length ≤ fz') := by
      intro e
      obtain ⟨z, hz, hzl⟩ := h2.le id _ (List.getElem?_eq_getElem hl2)
      rw [List.getElem?_eq_getElem hlt, e] at hz
      simp only [Option.some.injEq] at hz
      subst hz
      refine ⟨_, List.getElem?_eq_getElem hl2, .inl ?_⟩
      rcases hzl with e | e | ⟨_, _, _, _, _, e1, _⟩
      · exact e
      · exact e
      · cases e1
    rcases hle with e | e | ⟨_, _, f1, f2, _, e1, e2, hf⟩
    · exact h.1 ty ap fz es (by rw [List.getElem?_eq_getElem hlt, e])
    · exact key e
    · cases e1
      exact h.1 ty ap f2 es (by rw [List.getElem?_eq_getElem hlt, e2])
  · intro es hx
    have hlt := (List.getElem?_eq_some_iff.1 hx).1
    rw [← hl.len] at hlt
    obtain ⟨y, hy, hle⟩ := hl.le id _ (List.getElem?_eq_getElem hlt)
    rw [hx] at hy
    simp only [Option.some.injEq] at hy
    subst hy
    have hl2 : id < H2.length := by rw [h2.len]; exact hlt
    rcases hle with e | e | ⟨_, _, f1, f2, _, e1, e2, hf⟩
    · exact h.2 es (by rw [List.getElem?_eq_getElem hlt, e])
    · obtain ⟨z, hz, hzl⟩ := h2.le id _ (List.getElem?_eq_getElem hl2)
      rw [List.getElem?_eq_getElem hlt, e] at hz
      simp only [Option.some.injEq] at hz
      subst hz
      rw [List.getElem?_eq_getElem hl2]
      rcases hzl with e | e | ⟨_, _, _, _, _, e1, _⟩
      · rw [e]
      · rw [e]
      · cases e1
    · cases e1
theorem settle_le : ∀ (l : List Nat) (H : AHeap), HLe H (l.foldl settle1 H) ∧ ∀ id ∈ l, SettledAt H (l.foldl settle1 H) id
  | [], H => ⟨HLe.refl _, by simp⟩
  | a :: l, H => by
    obtain ⟨h1, h2⟩ := settle1_le H a
    obtain ⟨h3, h4⟩ := settle_le l (settle1 H a)
    refine ⟨h1.trans h3, fun id hid => ?_⟩
    rcases List.mem_cons.1 hid with rfl | hid
    · exact settled_le h2 h3
    · exact settled_of_le h1 (h4 id hid) h3

theorem HLe.live {H Hs : AHeap} (h : HLe H Hs) {id : Nat} {x' : AO} (hx : Hs[id]? = some x') (hv : x'.live) : ∃ x, H[id]? = some x ∧ x.live := by
  obtain ⟨x, h1, h2⟩ := h.le id x' hx
  refine ⟨x, h1, ?_⟩
  rcases h2 with rfl | rfl | ⟨ty, ap, fz, fz', es, rfl, rfl, _⟩
  · exact hv
  · exact hv.elim
  · trivial
theorem settled_arr (h : St P B ok0 ρ H w) {Hs : AHeap} (hl : HLe H Hs) {id b sz : Nat} {ty : TypeId} {ap : Bool} {fz : Nat} {es : List (List AV)} (hx : H[id]? = some (.arr ty ap fz es)) (hr : ρ[id]? = some (b, sz)) (hs : SettledAt H Hs id) {o : Nat} (ho : o < es.length * sz) : okS B ok0 ρ Hs b o := by
  refine .inr ⟨(h.base id b sz hr).1, fun id' x' sz' hx' hr' => ?_⟩
  by_cases hd : x' = .dead
  · subst hd; trivial
  · have hlv : x'.live := by cases x' <;> first | trivial | exact absurd rfl hd
    obtain ⟨x0, g1, g2⟩ := hl.live hx' hlv
    have e := h.uniq id' id x0 _ b sz' sz g1 hx g2 trivial hr' hr
    subst e
    rw [hr] at hr'
    simp only [Option.some.injEq, Prod.mk.injEq, true_and] at hr'
    subst hr'
    obtain ⟨y, h1, h2⟩ := hs.1 ty ap fz es hx
    rw [hx'] at h1
    simp only [Option.some.injEq] at h1
    subst h1
    rcases h2 with e | ⟨fz', e, hh⟩
    · exact absurd e hd
    · subst e
      exact Nat.lt_of_lt_of_le ho (Nat.mul_le_mul_right _ hh)
theorem settled_map (h : St P B ok0 ρ H w) {Hs : AHeap} (hl : HLe H Hs) {id b sz : Nat} {es : List (AV × AV)} (hx : H[id]? = some (.map es)) (hr : ρ[id]? = some (b, sz)) (hs : SettledAt H Hs id) (o : Nat) : okS B ok0 ρ Hs b o := by
  refine .inr ⟨(h.base id b sz hr).1, fun id' x' sz' hx' hr' => ?_⟩
  by_cases hd : x' = .dead
  · subst hd; trivial
  · have hlv : x'.live := by cases x' <;> first | trivial | exact absurd rfl hd
    obtain ⟨x0, g1, g2⟩ := hl.live hx' hlv
    have e := h.uniq id' id x0 _ b sz' sz g1 hx g2 trivial hr' hr
    subst e
    rw [hs.2 es hx] at hx'
    simp only [Option.some.injEq] at hx'
    exact absurd hx'.symm hd

theorem reach_agg {n : Nat} {xs : List AV} {x : AV} (h : x ∈ xs) : ∀ q ∈ reach n H x, q ∈ reach (n + 1) H (.agg xs) := fun _ hid => List.mem_flatMap.2 ⟨x, h, hid⟩
theorem reach_tup {n : Nat} {xs : List AV} {x : AV} (h : x ∈ xs) : ∀ q ∈ reach n H x, q ∈ reach (n + 1) H (.tup xs) := fun _ hid => List.mem_flatMap.2 ⟨x, h, hid⟩
theorem reach_hs {n id i m : Nat} {ty : TypeId} {ap : Bool} {fz : Nat} {es : List (List AV)} {e : List AV} {x : AV} (hx : H[id]? = some (.arr ty ap fz es)) (he : e ∈ es) (h : x ∈ e) : ∀ q ∈ reach n H x, q ∈ reach (n + 1) H (.hs id i m) := fun q hq => by
  simp only [reach, hx]
  exact List.mem_cons_of_mem _ (List.mem_flatMap.2 ⟨e, he, List.mem_flatMap.2 ⟨x, h, hq⟩⟩)
theorem reach_mp {n id : Nat} {es : List (AV × AV)} {e : AV × AV} (hx : H[id]? = some (.map es)) (he : e ∈ es) : (∀ q ∈ reach n H e.1, q ∈ reach (n + 1) H (.mp id)) ∧ ∀ q ∈ reach n H e.2, q ∈ reach (n + 1) H (.mp id) := by
  constructor <;> intro q hq <;> simp only [reach, hx]
  · exact List.mem_cons_of_mem _ (List.mem_flatMap.2 ⟨e, he, List.mem_append_left _ hq⟩)
  · exact List.mem_cons_of_mem _ (List.mem_flatMap.2 ⟨e, he, List.mem_append_right _ hq⟩)

/-- A FROZEN VALUE, where what it leads to is settled. -/
theorem frz_sound (h : St P B ok0 ρ H w) {Hs : AHeap} (hl : HLe H Hs) : ∀ (n : Nat) (x y : AV) (v : Value), VR P (okS B ok0 ρ H) w ρ x v → frz n H x = some y → (∀ id ∈ reach n H x, SettledAt H Hs id) → VR P (okS B ok0 ρ Hs) w [] y v := by
  have hev := (h.relax hl.len hl.le).2
  have hst := hev.stab
  have low : ∀ {x : AV} {v : Value}, VR P (okS B ok0 ρ H) w [] x v → VR P (okS B ok0 ρ Hs) w [] x v := fun hv => hv.mono hst (Pre.refl _)
  intro n
  induction n with
  | zero =>
    intro x y v hv hf hs
    cases hv with
    | junk => simp only [frz, Option.some.injEq] at hf; subst hf; exact .junk _ _
    | int => simp only [frz, Option.some.injEq] at hf; subst hf; exact .int _ _ _
    | bool => simp only [frz, Option.some.injEq] at hf; subst hf; exact .bool _ _
    | str => simp only [frz, Option.some.injEq] at hf; subst hf; exact .str _ _
    | agg => simp only [frz, reduceCtorEq] at hf
    | tup => simp only [frz, reduceCtorEq] at hf
    | sl _ es b off sz cap us hz hc hm hh => simp only [frz, Option.some.injEq] at hf; subst hf; exact low (.sl _ _ _ _ _ _ _ hz hc hm hh)
    | sl0 => simp only [frz, Option.some.injEq] at hf; subst hf; exact .sl0 _ _ _
    | hs => simp only [frz, reduceCtorEq] at hf
    | nils => simp only [frz, Option.some.injEq] at hf; subst hf; exact .sl0 _ _ _
    | ptr => simp only [frz, reduceCtorEq] at hf
    | ip _ cs b off us hm hh => simp only [frz, Option.some.injEq] at hf; subst hf; exact low (.ip _ _ _ _ _ hm hh)
    | nilp => simp only [frz, Option.some.injEq] at hf; subst hf; exact .nilp _
    | fn _ f xs vs hlen hh => cases xs with
      | nil => simp only [frz, Option.some.injEq] at hf; subst hf; exact .fn _ _ _ _ hlen (by simp)
      | cons a as => simp only [frz, reduceCtorEq] at hf
    | nilf => simp only [frz, Option.some.injEq] at hf; subst hf; exact .nilf _
    | mp => simp only [frz, reduceCtorEq] at hf
    | nilm => simp only [frz, Option.some.injEq] at hf; subst hf; exact .pm0 _
    | pm _ es b ents ck hb ho hlen h1 h2 => simp only [frz, Option.some.injEq] at hf; subst hf; exact low (.pm _ _ _ _ _ hb ho hlen h1 h2)
    | pm0 => simp only [frz, Option.some.injEq] at hf; subst hf; exact .pm0 _
    | it => simp only [frz, reduceCtorEq] at hf
  | succ n ih =>
    intro x y v hv hf hs
    cases hv with
    | junk => simp only [frz, Option.some.injEq] at hf; subst hf; exact .junk _ _
    | int => simp only [frz, Option.some.injEq] at hf; subst hf; exact .int _ _ _
    | bool => simp only [frz, Option.some.injEq] at hf; subst hf; exact .bool _ _
    | str => simp only [frz, Option.some.injEq] at hf; subst hf; exact .str _ _
    | agg _ xs vs hlen hh =>
      simp only [frz] at hf
      cases hm : mapO (frz n H) xs with
      | none => rw [hm] at hf; cases hf
      | some ys =>
        rw [hm] at hf
        simp only [Option.map_some, Option.some.injEq] at hf
        subst hf
        obtain ⟨m1, m2⟩ := mapO_some hm
        refine .agg _ _ _ (by omega) fun i y hy => ?_
        obtain ⟨x, hx, hfx⟩ := m2 i y hy
        exact ih x y _ (hh i x hx) hfx fun id hid => hs id (reach_agg (List.mem_of_getElem? hx) id hid)
    | tup _ xs vs hlen hh =>
      simp only [frz] at hf
      cases hm : mapO (frz n H) xs with
      | none => rw [hm] at hf; cases hf
      | some ys =>
        rw [hm] at hf
        simp only [Option.map_some, Option.some.injEq] at hf
        subst hf
        obtain ⟨m1, m2⟩ := mapO_some hm
        refine .tup _ _ _ (by omega) fun i y hy => ?_
        obtain ⟨x, hx, hfx⟩ := m2 i y hy
        exact ih x y _ (hh i x hx) hfx fun id hid => hs id (reach_tup (List.mem_of_getElem? hx) id hid)
    | sl _ es b off sz cap us hz hc hm hh => simp only [frz, Option.some.injEq] at hf; subst hf; exact low (.sl _ _ _ _ _ _ _ hz hc hm hh)
    | sl0 => simp only [frz, Option.some.injEq] at hf; subst hf; exact .sl0 _ _ _
    | hs _ id i m b sz cap ty hr hn hsh =>
      simp only [frz] at hf
      split at hf
      · rename_i ty' ap fz es hx
        split at hf
        · rename_i hle
          cases hm : mapO (fun e => mapO (frz n H) e) ((es.drop i).take m) with
          | none => rw [hm] at hf; cases hf
          | some ys =>
            rw [hm] at hf
            simp only [Option.map_some, Option.some.injEq] at hf
            subst hf
            obtain ⟨m1, m2⟩ := mapO_some hm
            have hset : SettledAt H Hs id := hs id (by simp only [reach]; exact List.mem_cons_self)
            obtain ⟨a1, a2, a3, C, fr, c1, c2, c3, c4, c5⟩ := h.arr id ty' ap fz es b sz hx hr
            have hlen : ys.length = m := by rw [m1, List.length_take, List.length_drop]; omega
            have get : ∀ (q : Nat) (c : List AV), ((es.drop i).take m)[q]? = some c → es[i + q]? = some c := by
              intro q c hq
              rw [List.getElem?_take] at hq
              split at hq
              · rwa [List.getElem?_drop] at hq
              · cases hq
            have key : ∀ (q : Nat) (c' : List AV) (j : Nat) (y : AV), ys[q]? = some c' → c'[j]? = some y → ∃ c x u, es[i + q]? = some c ∧ c[j]? = some x ∧ frz n H x = some y ∧ C[(i + q) * sz + j]? = some u ∧ VR P (okS B ok0 ρ H) w ρ x u := by
              intro q c' j y hq hj
              obtain ⟨c, hc, hfc⟩ := m2 q c' hq
              obtain ⟨_, k2⟩ := mapO_some hfc
              obtain ⟨x, hx', hfx⟩ := k2 j y hj
              obtain ⟨u, cu, hu⟩ := c5 (i + q) c j x (get q c hc) hx'
              exact ⟨c, x, u, get q c hc, hx', hfx, cu, hu⟩
            rw [← hlen]
            refine .sl _ ys b (i * sz) sz cap (fun q j => C.getD ((i + q) * sz + j) undef) ?_ (by omega) ?_ ?_
            · intro c' hc'
              obtain ⟨q, hq⟩ := List.getElem?_of_mem hc'
              obtain ⟨c, hc, hfc⟩ := m2 q c' hq
              rw [(mapO_some hfc).1]
              exact a3 c (List.mem_of_getElem? (get q c hc))
            · intro q c' j y hq hj
              obtain ⟨c, x, u, e1, e2, e3, e4, e5⟩ := key q c' j y hq hj
              rw [cell_cells c1, show i * sz + q * sz + j = (i + q) * sz + j by rw [Nat.add_mul], e4]
              refine ⟨by simp [Array.getD_eq_getD_getElem?, e4], settled_arr h hl hx hr hset ?_⟩
              refine lt_mul ?_ (List.getElem?_eq_some_iff.1 e1).1
              rw [← a3 c (List.mem_of_getElem? e1)]
              exact (List.getElem?_eq_some_iff.1 e2).1
            · intro q c' j y hq hj
              obtain ⟨c, x, u, e1, e2, e3, e4, e5⟩ := key q c' j y hq hj
              have := ih x y u e5 e3 fun id' hid => hs id' (reach_hs hx (List.mem_of_getElem? e1) (List.mem_of_getElem? e2) id' hid)
              simpa [Array.getD_eq_getD_getElem?, e4] using this
        · cases hf
      · cases hf
    | nils => simp only [frz, Option.some.injEq] at hf; subst hf; exact .sl0 _ _ _
    | ptr => simp only [frz, reduceCtorEq] at hf
    | ip _ cs b off us hm hh => simp only [frz, Option.some.injEq] at hf; subst hf; exact low (.ip _ _ _ _ _ hm hh)
    | nilp => simp only [frz, Option.some.injEq] at hf; subst hf; exact .nilp _
    | fn _ f xs vs hlen hh => cases xs with
      | nil => simp only [frz, Option.some.injEq] at hf; subst hf; exact .fn _ _ _ _ hlen (by simp)
      | cons a as => simp only [frz, reduceCtorEq] at hf
    | nilf => simp only [frz, Option.some.injEq] at hf; subst hf; exact .nilf _
    | mp _ id b sz hr =>
      simp only [frz] at hf
      split at hf
      · rename_i es hx
        cases hm : mapO (fun e : AV × AV => (frz n H e.1).bind fun a => (frz n H e.2).map fun b => (a, b)) es with
        | none => rw [hm] at hf; cases hf
        | some ys =>
          rw [hm] at hf
          simp only [Option.map_some, Option.some.injEq] at hf
          subst hf
          obtain ⟨m1, m2⟩ := mapO_some hm
          have hset : SettledAt H Hs id := hs id (by simp only [reach]; exact List.mem_cons_self)
          obtain ⟨ents, ck, c1, cb, c2, c3, c4⟩ := h.map id es b sz hx hr
          have key : ∀ (i : Nat) (k v : AV), ys[i]? = some (k, v) → ∃ k0 v0, es[i]? = some (k0, v0) ∧ frz n H k0 = some k ∧ frz n H v0 = some v := by
            intro i k v hi
            obtain ⟨⟨k0, v0⟩, hk0, hb⟩ := m2 i (k, v) hi
            cases hfk : frz n H k0 with
            | none => simp [hfk] at hb
            | some k' =>
              cases hfv : frz n H v0 with
              | none => simp [hfk, hfv] at hb
              | some v' =>
                simp [hfk, hfv] at hb
                obtain ⟨rfl, rfl⟩ := hb
                exact ⟨k0, v0, hk0, hfk, hfv⟩
          refine .pm _ ys b ents ck c1 (settled_map h hl hx hr hset) (by omega) ?_ ?_
          · intro i k v hi
            obtain ⟨k0, v0, e1, e2, e3⟩ := key i k v hi
            exact ih k0 k _ (c3 i k0 v0 e1) e2 fun id' hid => hs id' ((reach_mp hx (List.mem_of_getElem? e1)).1 id' hid)
          · intro i k v hi
            obtain ⟨k0, v0, e1, e2, e3⟩ := key i k v hi
            exact ih v0 v _ (c4 i k0 v0 e1) e3 fun id' hid => hs id' ((reach_mp hx (List.mem_of_getElem? e1)).2 id' hid)
      · cases hf
    | nilm => simp only [frz, Option.some.injEq] at hf; subst hf; exact .pm0 _
    | pm _ es b ents ck hb ho hlen h1 h2 => simp only [frz, Option.some.injEq] at hf; subst hf; exact low (.pm _ _ _ _ _ hb ho hlen h1 h2)
    | pm0 => simp only [frz, Option.some.injEq] at hf; subst hf; exact .pm0 _
    | it => simp only [frz, reduceCtorEq] at hf

/-- A value that leads to no memory says the same of every world. -/
theorem noleads {ok ok' : Nat → Nat → Prop} {w' : World} {ρ' : Pl} : ∀ (n : Nat) (x : AV) (v : Value), VR P ok w [] x v → leads n x = false → VR P ok' w' ρ' x v := by
  intro n
  induction n with
  | zero =>
    intro x v hv hn
    cases hv with
    | junk => exact .junk _ _
    | int => exact .int _ _ _
    | bool => exact .bool _ _
    | str => exact .str _ _
    | agg => simp only [leads, Bool.true_eq_false] at hn
    | tup => simp only [leads, Bool.true_eq_false] at hn
    | sl _ es b off sz cap us hz hc hm hh =>
      simp only [leads, Bool.not_eq_false', List.isEmpty_iff] at hn
      subst hn
      exact .sl0 _ _ _
    | sl0 => exact .sl0 _ _ _
    | hs _ id i m b sz cap ty hr hn hsh => simp at hr
    | nils => exact .nils _
    | ptr _ id i j b sz hr => simp at hr
    | ip => simp only [leads, Bool.true_eq_false] at hn
    | nilp => exact .nilp _
    | fn _ f xs vs hlen hh =>
      simp only [leads, Bool.not_eq_false', List.isEmpty_iff] at hn
      subst hn
      exact .fn _ _ _ _ hlen (by simp)
    | nilf => exact .nilf _
    | mp _ id b sz hr => simp at hr
    | nilm => exact .nilm _
    | pm => simp only [leads, Bool.true_eq_false] at hn
    | pm0 => exact .pm0 _
    | it _ id b sz hr => simp at hr
  | succ n ih =>
    intro x v hv hn
    cases hv with
    | junk => exact .junk _ _
    | int => exact .int _ _ _
    | bool => exact .bool _ _
    | str => exact .str _ _
    | agg _ xs vs hlen hh =>
      simp only [leads, List.any_eq_false] at hn
      exact .agg _ _ _ hlen fun i x hx => ih x _ (hh i x hx) (by simpa using hn x (List.mem_of_getElem? hx))
    | tup _ xs vs hlen hh =>
      simp only [leads, List.any_eq_false] at hn
      exact .tup _ _ _ hlen fun i x hx => ih x _ (hh i x hx) (by simpa using hn x (List.mem_of_getElem? hx))
    | sl _ es b off sz cap us hz hc hm hh =>
      simp only [leads, Bool.not_eq_false', List.isEmpty_iff] at hn
      subst hn
      exact .sl0 _ _ _
    | sl0 => exact .sl0 _ _ _
    | hs _ id i m b sz cap ty hr hn hsh => simp at hr
    | nils => exact .nils _
    | ptr _ id i j b sz hr => simp at hr
    | ip => simp only [leads, Bool.true_eq_false] at hn
    | nilp => exact .nilp _
    | fn _ f xs vs hlen hh =>
      simp only [leads, Bool.not_eq_false', List.isEmpty_iff] at hn
      subst hn
      exact .fn _ _ _ _ hlen (by simp)
    | nilf => exact .nilf _
    | mp _ id b sz hr => simp at hr
    | nilm => exact .nilm _
    | pm => simp only [leads, Bool.true_eq_false] at hn
    | pm0 => exact .pm0 _
    | it _ id b sz hr => simp at hr

/-! ### calls -/
/-- What a call that is told to come back with r and H' does. -/
def Told (P : Program) (f : FuncId) (xs : List AV) (H : AHeap) (r : AV) (H' : AHeap) : Prop :=
  (∃ fn c, P.funcs[f]? = some fn ∧ fn.body = some c ∧ fn.name ≠ "runtime.NumGoroutine") ∧
  ∀ (B : Nat) (ok0 : Nat → Nat → Prop) (ρ : Pl) (w : World) (vs : List Value), St P B ok0 ρ H w → B ≤ w.heap.size → vs.length = xs.length → (∀ i x, xs[i]? = some x → VR P (okS B ok0 ρ H) w ρ x (vs.getD i undef)) →
    Calls P f vs.toArray w fun e w' => match e with
      | .returned v => ∃ ρ', St P B ok0 ρ' H' w' ∧ Evo B ok0 ρ H w ρ' H' w' ∧ VR P (okS B ok0 ρ' H') w' ρ' r v
      | _ => False
def CallOk (cx : Cx) : Prop := ∀ f xs H r H', cx.call f xs H = some (r, H') → Told cx.P f xs H r H'

theorem St.empty (P : Program) (ok0 : Nat → Nat → Prop) (w : World) : St P w.heap.size ok0 [] [] w :=
  ⟨rfl, by simp, by simp, by simp, by simp, by simp, by simp⟩

theorem acallf_sound {cx : Cx} (hc : CallOk cx) {f : FuncId} {xs : List AV} {r : AV} {H' : AHeap} (h : acallf cx f xs H = some (r, H')) : Told cx.P f xs H r H' := by
  unfold acallf at h
  split at h
  · cases hm : mapO (frz depth H) xs with
    | none => rw [hm] at h; cases h
    | some ys =>
      rw [hm] at h
      simp only at h
      cases hcall : cx.call f ys [] with
      | none => rw [hcall] at h; cases h
      | some q =>
        obtain ⟨r1, H1⟩ := q
        rw [hcall] at h
        simp only at h
        cases hz : frz depth H1 r1 with
        | none => rw [hz] at h; cases h
        | some z =>
          rw [hz] at h
          simp only [Option.some.injEq, Prod.mk.injEq] at h
          obtain ⟨rfl, rfl⟩ := h
          obtain ⟨hfn, htold⟩ := hc _ _ _ _ _ hcall
          refine ⟨hfn, fun B ok0 ρ w vs hst hB hlen hargs => ?_⟩
          obtain ⟨m1, m2⟩ := mapO_some hm
          obtain ⟨hle, hset⟩ := settle_le (xs.flatMap (reach depth H)) H
          have hcallee := htold w.heap.size (okS B ok0 ρ ((xs.flatMap (reach depth H)).foldl settle1 H)) [] w vs (St.empty _ _ _) (Nat.le_refl _) (by omega) (fun i y hy => by
            obtain ⟨x, hx, hf⟩ := m2 i y hy
            have hv := frz_sound hst hle depth x y _ (hargs i x hx) hf fun id hid => hset id (List.mem_flatMap.2 ⟨x, List.mem_of_getElem? hx, hid⟩)
            refine hv.mono ⟨fun b o u hk hc => ⟨hc, .inl ⟨World.block_lt_of_cell? w _ hc, hk⟩⟩, fun b s hs => hs, fun b es ck hk hm => ⟨hm, fun o => .inl ⟨lt_of_heap hm, hk o⟩⟩⟩ (Pre.refl _))
          refine Calls.mono hcallee fun e w1 he => ?_
          cases e with
          | returned v =>
            obtain ⟨ρ1, s1, e1, v1⟩ := he
            have hbw : Below w.heap.size w w1 := e1.below
            obtain ⟨hle1, hset1⟩ := settle_le (reach depth H1 r1) H1
            have hz1 := frz_sound s1 hle1 depth r1 z v v1 hz fun id hid => hset1 id hid
            by_cases hnl : leads depth z = true
            · rw [if_pos hnl]
              obtain ⟨t1, t2⟩ := hst.relax hle.len hle.le
              obtain ⟨t3, t4⟩ := t1.below hB hbw
              refine ⟨ρ, t3, t2.trans t4, ?_⟩
              refine hz1.mono ?_ (Pre.nil _)
              have hok : ∀ b o, okS w.heap.size (okS B ok0 ρ ((xs.flatMap (reach depth H)).foldl settle1 H)) ρ1 ((reach depth H1 r1).foldl settle1 H1) b o → okS B ok0 ρ ((xs.flatMap (reach depth H)).foldl settle1 H) b o := by
                intro b o hk
                rcases hk with ⟨_, hk⟩ | ⟨hb, _⟩
                · exact hk
                · refine .inr ⟨by omega, fun id x sz hx hr => ?_⟩
                  have := (hst.base id b sz hr).2
                  omega
              exact ⟨fun b o u hk hc => ⟨hc, hok b o hk⟩, fun b s hs => hs, fun b es ck hk hm => ⟨hm, fun o => hok b o (hk o)⟩⟩
            · rw [if_neg hnl]
              obtain ⟨t3, t4⟩ := hst.below hB hbw
              exact ⟨ρ, t3, t4, noleads depth z v hz1 (by simpa using hnl)⟩
          | panicked _ => exact he.elim
          | outgrown => exact he.elim
  · exact hc _ _ _ _ _ h
end
end Go.Vam
