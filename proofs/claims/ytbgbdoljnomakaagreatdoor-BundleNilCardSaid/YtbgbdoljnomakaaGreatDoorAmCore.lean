/- The abstract machine: values, heaps, operations and steps of a deterministic evaluator of programs of the model. -/
import Derived.AtR
import Derived.Below
import Derived.Lib.Bytealg
import Derived.Lib.MakeNoZero
namespace Go.AM
noncomputable section

/-! ### A tree addressed by numbers -/
inductive T (α : Type) where
  | leaf
  | node (l : T α) (v : α) (r : T α)

/-- The way to a number's place. -/
inductive Way where
  | here
  | l (p : Way)
  | r (p : Way)

def wayF : Nat → Nat → Way
  | 0, _ => .here
  | f + 1, n =>
    match n with
    | 0 => .here
    | m + 1 =>
      match m % 2 with
      | 0 => .l (wayF f (m / 2))
      | _ + 1 => .r (wayF f (m / 2))

def FUEL : Nat := 32
def wayOf (n : Nat) : Way := wayF FUEL n

def T.getW {α : Type} (d : α) (p : Way) : T α → α :=
  Way.rec (fun t => T.rec d (fun _ v _ _ _ => v) t) (fun _ ih t => T.rec d (fun l _ _ _ _ => ih l) t) (fun _ ih t => T.rec d (fun _ _ r _ _ => ih r) t) p

def T.get {α : Type} (d : α) (t : T α) (n : Nat) : α := T.getW d (wayOf n) t

/-- 'k t', the tree's head worked out first. -/
def T.seq {α β : Type} (t : T α) (k : T α → β) : β := T.rec (k .leaf) (fun l v r _ _ => k (.node l v r)) t

def T.setW {α : Type} (d x : α) (p : Way) : T α → T α :=
  Way.rec (fun t => T.rec (.node .leaf x .leaf) (fun l _ r _ _ => .node l x r) t)
    (fun _ ih t => T.rec (T.seq (ih .leaf) fun l => .node l d .leaf) (fun l v r _ _ => T.seq (ih l) fun l => .node l v r) t)
    (fun _ ih t => T.rec (T.seq (ih .leaf) fun r => .node .leaf d r) (fun l v r _ _ => T.seq (ih r) fun r => .node l v r) t) p

def T.set {α : Type} (d : α) (n : Nat) (t : T α) (x : α) : T α := T.setW d x (wayOf n) t

/-! ### Values -/
inductive AV where
  | nil
  | cons (h t : AV)
  | junk
  | bool (b : Bool)
  | int (k : IntKind) (n : Int)
  | str (len n : Nat)
  | pnil
  | ptr (b off : Nat)
  | snil
  | slice (b off len cap esz : Nat)
  | eslice
  | mnil
  | map (b : Nat)
  | fnil
  | func (fn : Fn) (first captured : AV)
  | yield (b : Nat)
  | inil
  | iface (t : Nat) (v : AV)
  | agg (l : AV)
  | tup (l : AV)
  | ext (i : Nat)

def AV.undef : AV := .tup .nil

def strVal (l : List UInt8) : Nat := l.foldl (fun a b => a * 256 + b.toNat) 0
def strOf (l : List UInt8) : AV := .str l.length (strVal l)

def ofScalar : Value → Option AV
  | .bool b => some (.bool b)
  | .int k n => some (.int k n)
  | .string s => some (strOf s.data.toList)
  | .pointer none => some .pnil
  | .slice none 0 0 => some .snil
  | .map none => some .mnil
  | .nilFunc => some .fnil
  | .nilIface => some .inil
  | _ => none

def ofScalars : List Value → Option AV
  | [] => some .nil
  | v :: vs =>
    match ofScalar v with
    | some a => match ofScalars vs with
      | some l => some (.cons a l)
      | none => none
    | none => none

def ofConst (v : Value) : Option AV :=
  match ofScalar v with
  | some a => some a
  | none =>
    match v with
    | .agg ⟨cs⟩ => (ofScalars cs).map .agg
    | .tuple ⟨cs⟩ => (ofScalars cs).map .tup
    | .func (.func f) ⟨[]⟩ ⟨[]⟩ => some (.func (.func f) .nil .nil)
    | .iface t x => (ofScalar x).map (.iface t)
    | _ => none

def AV.one : AV → Bool
  | .nil | .cons .. | .agg _ | .tup _ => false
  | _ => true

def AV.len : AV → Nat
  | .cons _ t => t.len + 1
  | _ => 0

/-- The cells of a value, as a chain. -/
def AV.cells : AV → AV
  | .agg l => l
  | v => .cons v .nil

def AV.allOne : AV → Bool
  | .nil => true
  | .cons h t => h.one && t.allOne
  | _ => false

def AV.nth : AV → Nat → Option AV
  | .cons h t, n => match n with
    | 0 => some h
    | m + 1 => t.nth m
  | _, _ => none

def AV.drop : AV → Nat → AV
  | .cons h t, n => match n with
    | 0 => .cons h t
    | m + 1 => t.drop m
  | v, _ => v

def AV.take : AV → Nat → AV
  | .cons h t, n => match n with
    | 0 => .nil
    | m + 1 => .cons h (t.take m)
  | _, _ => .nil

def AV.append : AV → AV → AV
  | .cons h t, b => .cons h (t.append b)
  | _, b => b

/-- 'c' with the chain 'v' laid over it from 'off' on. -/
def AV.splice : AV → Nat → AV → Option AV
  | .cons _ t, 0, .cons x xs => match t.splice 0 xs with | some r => some (.cons x r) | none => none
  | .cons h t, o + 1, v => match t.splice o v with | some r => some (.cons h r) | none => none
  | c, _, .nil => some c
  | _, _, _ => none

def AV.ofList : List AV → AV
  | [] => .nil
  | v :: vs => .cons v (AV.ofList vs)

def AV.toList : AV → List AV
  | .cons h t => h :: t.toList
  | _ => []

/-! ### The heap -/
inductive AObj where
  | free
  | cells (row : T AV) (n : Nat) (elem : Nat) (opn : Bool) (fz : Nat) (mk ro : Bool)
  | map (es : List (AV × AV × Nat)) (clock : Nat)
  | sit (len n pos : Nat)
  | mit (m : Option Nat) (since : Nat) (seen : List Nat) (last : Nat)
  | loop (state : LoopState) (pending : Option Code) (fn : Nat) (env : T AV) (size : Nat) (params : List Nat) (assign body : Code) (df : Nat)
  | dfr (open_ : Bool)

structure Heap where
  objs : T AObj
  next : Nat

def LIMIT : Nat := 1000000
/-- No entry's stamp: it stands behind the entries seen where nobody knows which was the last. -/
def BOGUS : Nat := 1000000000

def Heap.at (h : Heap) (b : Nat) : AObj := T.get .free h.objs b
def Heap.put (h : Heap) (b : Nat) (o : AObj) : Heap := ⟨T.set .free b h.objs o, h.next⟩
def Heap.push (h : Heap) (o : AObj) : Heap := ⟨T.set .free h.next h.objs o, h.next + 1⟩

def envGet (e : T AV) (t : Nat) : AV := T.get AV.undef e t
def envSet (e : T AV) (t : Nat) (v : AV) : T AV := T.set AV.undef t e v

def rowSet (r : T AV) (i : Nat) (v : AV) : T AV := T.set AV.junk i r v
def rowGet (r : T AV) (i : Nat) : AV := T.get AV.junk r i

/-- A row out of a chain, from place i on, over the row r. -/
def rowLay : AV → Nat → T AV → T AV
  | .cons h t, i, r => rowLay t (i + 1) (rowSet r i h)
  | _, _, r => r

/-- The n cells from place i on, as a chain. -/
def rowRead (r : T AV) : Nat → Nat → AV
  | 0, _ => .nil
  | n + 1, i => .cons (rowGet r i) (rowRead r n (i + 1))

/-- n copies of the chain z. -/
def repeatC (z : AV) : Nat → AV
  | 0 => .nil
  | n + 1 => z.append (repeatC z n)

/-- A new row of variables. -/
def newCells (c : AV) (elem : Nat) (opn : Bool) (fz : Nat) (mk : Bool) : Option AObj :=
  bif Nat.ble c.len LIMIT && c.allOne then some (T.seq (rowLay c 0 .leaf) fun row => .cells row c.len elem opn fz mk false) else none

/-! ### Types -/
def isAggD : TypeDesc → Bool
  | .struct _ | .array _ _ => true
  | _ => false

def zeroOf (P : Program) (t : Nat) : Option AV :=
  match P.info? t with
  | some i => match i.zero with
    | some z => match ofConst z with
      | some v => some v
      | none => none
    | none => none
  | none => none

def zeroCells (P : Program) (t : Nat) : Option AV :=
  match zeroOf P t with
  | some v => some v.cells
  | none => none

def sizeOfT (P : Program) (t : Nat) : Option Nat :=
  match P.info? t with
  | some i => some i.size
  | none => none

def bytesOfT (P : Program) (t : Nat) : Option Nat :=
  match P.info? t with
  | some i => some i.bytes
  | none => none

/-! ### Numbers -/
def wrapTo (k : IntKind) (n : Int) : Int :=
  match k with
  | .i64 => match n with
    | .ofNat m => bif Nat.ble m 9223372036854775807 then .ofNat m else k.wrap n
    | .negSucc m => bif Nat.ble m 9223372036854775807 then .negSucc m else k.wrap n
  | .u64 => match n with
    | .ofNat m => .ofNat (m % 18446744073709551616)
    | _ => k.wrap n
  | .u8 => match n with
    | .ofNat m => .ofNat (m % 256)
    | _ => k.wrap n
  | _ => k.wrap n

def natSeq {β : Type} (n : Nat) (k : Nat → β) : β :=
  match n with
  | 0 => k 0
  | m + 1 => k (Nat.succ m)

def intSeq {β : Type} (n : Int) (k : Int → β) : β :=
  match n with
  | .ofNat m => natSeq m fun m => k (.ofNat m)
  | .negSucc m => natSeq m fun m => k (.negSucc m)

def mkInt (k : IntKind) (n : Int) : AV := intSeq n fun n => .int k n
def mkStr (len n : Nat) : AV := natSeq len fun len => natSeq n fun n => .str len n
def mkBool (b : Bool) : AV := match b with | true => .bool true | false => .bool false

def intLt (a b : Int) : Bool :=
  match a, b with
  | .ofNat x, .ofNat y => Nat.blt x y
  | .ofNat _, .negSucc _ => false
  | .negSucc _, .ofNat _ => true
  | .negSucc x, .negSucc y => Nat.blt y x

def intEq (a b : Int) : Bool :=
  match a, b with
  | .ofNat x, .ofNat y => Nat.beq x y
  | .negSucc x, .negSucc y => Nat.beq x y
  | _, _ => false

def intOp (op : BinOp) (k : IntKind) (a b : Int) : Option AV :=
  match op with
  | .add => some (mkInt k (wrapTo k (a + b)))
  | .sub => some (mkInt k (wrapTo k (a - b)))
  | .mul => some (mkInt k (wrapTo k (a * b)))
  | .quo => bif intEq b 0 then none else some (mkInt k (wrapTo k (a.tdiv b)))
  | .rem => bif intEq b 0 then none else some (mkInt k (a.tmod b))
  | .eql => some (mkBool (intEq a b))
  | .neq => some (mkBool (!intEq a b))
  | .lss => some (mkBool (intLt a b))
  | .leq => some (mkBool (!intLt b a))
  | .gtr => some (mkBool (intLt b a))
  | .geq => some (mkBool (!intLt a b))
  | .and =>
    match a, b with
    | .ofNat x, .ofNat y => bif Nat.blt x (2 ^ k.bits) && Nat.blt y (2 ^ k.bits) then some (mkInt k (wrapTo k (.ofNat (Nat.land x y)))) else none
    | _, _ => none
  | .or =>
    match a, b with
    | .ofNat x, .ofNat y => bif Nat.blt x (2 ^ k.bits) && Nat.blt y (2 ^ k.bits) then some (mkInt k (wrapTo k (.ofNat (Nat.lor x y)))) else none
    | _, _ => none
  | .xor =>
    match a, b with
    | .ofNat x, .ofNat y => bif Nat.blt x (2 ^ k.bits) && Nat.blt y (2 ^ k.bits) then some (mkInt k (wrapTo k (.ofNat (Nat.xor x y)))) else none
    | _, _ => none
  | .andNot => some (mkInt k (k.wrap ((BitVec.ofInt k.bits a &&& ~~~(BitVec.ofInt k.bits b)).toNat)))
  | .shl => none
  | .shr => none

def shiftOp (op : BinOp) (k : IntKind) (a b : Int) : Option AV :=
  match b with
  | .ofNat n =>
    match op with
    | .shl => some (mkInt k (wrapTo k (a * 2 ^ (min n k.bits))))
    | .shr => match a with
      | .ofNat x => some (mkInt k (.ofNat (Nat.shiftRight x (min n k.bits))))
      | _ => some (mkInt k (a.fdiv (2 ^ (min n k.bits))))
    | _ => none
  | _ => none

/-! ### Strings: len bytes, the first one the greatest place -/
def strByte (len n i : Nat) : Nat := n / 256 ^ (len - 1 - i) % 256
def strSub (len n lo hi : Nat) : AV := mkStr (hi - lo) (n / 256 ^ (len - hi) % 256 ^ (hi - lo))
def strBytes : Nat → Nat → List UInt8
  | 0, _ => []
  | k + 1, n => strBytes k (n / 256) ++ [UInt8.ofNat (n % 256)]

def strOp (op : BinOp) (la a lb b : Nat) : Option AV :=
  match op with
  | .add => bif Nat.ble (la + lb) 1000000000 then some (mkStr (la + lb) (a * 256 ^ lb + b)) else none
  | .eql => some (mkBool (Nat.beq la lb && Nat.beq a b))
  | .neq => some (mkBool (!(Nat.beq la lb && Nat.beq a b)))
  | .lss => some (mkBool (Op.bytesLess (strBytes la a) (strBytes lb b)))
  | .leq => some (mkBool (Op.bytesLess (strBytes la a) (strBytes lb b) || (Nat.beq la lb && Nat.beq a b)))
  | .gtr => some (mkBool (!(Op.bytesLess (strBytes la a) (strBytes lb b) || (Nat.beq la lb && Nat.beq a b))))
  | .geq => some (mkBool (!(Op.bytesLess (strBytes la a) (strBytes lb b))))
  | _ => none

/-! ### Equality -/
/-- The row at b is plain: no byte of it is shared with a string. -/
def plainAt (h : Heap) (b : Nat) : Bool :=
  match h.at b with
  | .cells _ _ _ _ fz mk ro => Nat.beq fz 0 && !mk && !ro
  | _ => false

def eqPtr (h : Heap) (b o b' o' : Nat) : Option Bool :=
  bif Nat.beq b b' then some (Nat.beq o o')
  else bif plainAt h b && plainAt h b' then some false else none

/-- '==' of two cells of no aggregate type and no interface. -/
def eqBase (P : Program) (h : Heap) (t : Nat) (x y : AV) : Option Bool :=
  match P.underlying t with
  | some d =>
    match d, x, y with
    | .bool, .bool a, .bool b => some (a == b)
    | .int _, .int k a, .int k' b => if k = k' then some (intEq a b) else none
    | .string, .str la a, .str lb b => some (Nat.beq la lb && Nat.beq a b)
    | .pointer _, .pnil, .pnil => some true
    | .pointer _, .pnil, .ptr _ _ => some false
    | .pointer _, .ptr _ _, .pnil => some false
    | .pointer e, .ptr b o, .ptr b' o' =>
      match sizeOfT P e with
      | some (_ + 1) => eqPtr h b o b' o'
      | _ => none
    | .interface _, .inil, .inil => some true
    | .interface _, .inil, .iface _ _ => some false
    | .interface _, .iface _ _, .inil => some false
    | .slice _, .snil, .snil => some true
    | .slice _, .snil, .slice .. => some false
    | .slice _, .slice .., .snil => some false
    | .slice _, .snil, .eslice => some false
    | .slice _, .eslice, .snil => some false
    | .map _ _, .mnil, .mnil => some true
    | .map _ _, .mnil, .map _ => some false
    | .map _ _, .map _, .mnil => some false
    | .func _ _ _, .fnil, .fnil => some true
    | .func _ _ _, .fnil, .func .. => some false
    | .func _ _ _, .func .., .fnil => some false
    | _, _, _ => none
  | none => none

/-- '==' of two cells of no aggregate type. -/
def eqCell (P : Program) (h : Heap) (t : Nat) (x y : AV) : Option Bool :=
  match x, y with
  | .iface tx vx, .iface ty vy =>
    match P.underlying t with
    | some (.interface _) =>
      bif Nat.beq tx ty then
        match P.info? tx with
        | some i => bif i.comparable then
            match P.underlying tx with
            | some d => bif isAggD d then none else eqBase P h tx vx vy
            | none => none
          else none
        | none => none
      else some false
    | _ => none
  | _, _ => eqBase P h t x y

/-- '==' over the fields of a struct of plain cells. -/
def eqFields (P : Program) (h : Heap) (x y : AV) : List Field → Option Bool
  | [] => some true
  | f :: fs =>
    bif f.name == "_" then none else
    match P.underlying f.type with
    | some d =>
      bif isAggD d then none else
      match x.nth f.offset, y.nth f.offset with
      | some a, some b =>
        match eqCell P h f.type a b with
        | some true => eqFields P h x y fs
        | some false => some false
        | none => none
      | _, _ => none
    | none => none

/-- '==' over the elements of an array of plain cells. -/
def eqElems (P : Program) (h : Heap) (e : Nat) (x y : AV) : Nat → Nat → Option Bool
  | 0, _ => some true
  | n + 1, i =>
    match x.nth i, y.nth i with
    | some a, some b =>
      match eqCell P h e a b with
      | some true => eqElems P h e x y n (i + 1)
      | some false => some false
      | none => none
    | _, _ => none

def eqVal (P : Program) (h : Heap) (t : Nat) (x y : AV) : Option Bool :=
  match x, y with
  | .agg xs, .agg ys =>
    match P.underlying t with
    | some (.struct fs) => bif P.stoodInHeld t then none else eqFields P h xs ys fs.toList
    | some (.array len e) =>
      match P.underlying e with
      | some d => bif isAggD d then none else
        match sizeOfT P e with
        | some 1 => eqElems P h e xs ys len 0
        | _ => none
      | none => none
    | _ => none
  | _, _ => eqCell P h t x y

def isConstO : Operand → Bool
  | .const _ => true
  | _ => false

/-- A value that '==' compares by its type's own rule, and no number or string. -/
def AV.plainEq : AV → Bool
  | .nil | .cons .. | .junk | .ext _ | .int .. | .str .. | .tup _ | .yield _ => false
  | _ => true

def guardOk (P : Program) (t : Nat) (x y : Operand) (a b : AV) : Bool :=
  a.plainEq && match a, b with
  | .inil, .inil => isConstO x || isConstO y
  | .agg _, .agg _ => !P.eqGuardType P.depth t
  | .ext _, _ => false
  | _, .ext _ => false
  | .junk, _ => false
  | _, .junk => false
  | _, _ => true

/-! ### Memory -/
def readCell (h : Heap) (b off : Nat) : Option AV :=
  match h.at b with
  | .cells row n _ _ _ _ _ => bif Nat.blt off n then some (rowGet row off) else none
  | _ => none

def readCells (h : Heap) (b off n : Nat) : Option AV :=
  match n with
  | 0 => some .nil
  | _ + 1 =>
    match h.at b with
    | .cells row m _ _ _ _ _ => bif Nat.ble (off + n) m then some (rowRead row n off) else none
    | _ => none

def loadVarA (P : Program) (t : Nat) (h : Heap) (b off : Nat) : Option AV :=
  match P.underlying t with
  | some d =>
    bif isAggD d then
      match sizeOfT P t with
      | some n => match readCells h b off n with
        | some c => some (.agg c)
        | none => none
      | none => none
    else readCell h b off
  | none => none

/-- Cells stored from off on: the row must be one that may be written there. -/
def storeAt (h : Heap) (b off : Nat) (c : AV) : Option Heap :=
  match c with
  | .nil => some h
  | _ =>
    match h.at b with
    | .cells row n e opn fz mk ro =>
      bif !ro && Nat.ble fz off && Nat.ble (off + c.len) n && Nat.ble (off + c.len) LIMIT && c.allOne then
        some (h.put b (T.seq (rowLay c off row) fun row => .cells row n e opn fz mk ro))
      else none
    | _ => none

def storeVarA (P : Program) (t : Nat) (h : Heap) (b off : Nat) (v : AV) : Option Heap :=
  match sizeOfT P t with
  | some n => bif Nat.beq v.cells.len n && v.cells.allOne then storeAt h b off v.cells else none
  | none => none

/-- The bytes of a chain as a string. -/
def bytesStr : AV → Nat → Nat → Option AV
  | .cons (.int .u8 (.ofNat b)) t, len, acc => natSeq (acc * 256 + b % 256) fun acc => bytesStr t (len + 1) acc
  | .nil, len, acc => some (mkStr len acc)
  | _, _, _ => none

/-- The n bytes of a string, as a chain of cells. -/
def strCells (len n : Nat) : Nat → Nat → AV
  | 0, _ => .nil
  | k + 1, i => .cons (mkInt .u8 (.ofNat (strByte len n i))) (strCells len n k (i + 1))

end
end Go.AM
namespace Go.AM
noncomputable section

/-! ### Operations that only read -/
def asIntA : AV → Option Int
  | .int _ n => some n
  | _ => none

def asBoolA : AV → Option Bool
  | .bool b => some b
  | _ => none

/-- A bound of a slice expression. -/
def boundA (x : AV) (y : Nat) : Option Nat :=
  match x with
  | .int _ (.ofNat n) => bif Nat.ble n y then some n else none
  | _ => none

def optBound (x : Option AV) (dflt y : Nat) : Option Nat :=
  match x with
  | some v => boundA v y
  | none => some dflt

/-- A slice expression over a slice whose capacity is open: the upper bound at most the length (or what is sure to be there). -/
def sliceA (P : Program) (t : Nat) (x : AV) (low high max : Option AV) : Option AV :=
  match P.underlying t with
  | some (.array n e) =>
    match x, sizeOfT P e, optBound max n n with
    | .ptr b off, some s, some m =>
      match optBound high n m with
      | some hi => match optBound low 0 hi with
        | some lo => some (bif Nat.beq m lo then .slice b off (hi - lo) (m - lo) 0 else .slice b (off + lo * s) (hi - lo) (m - lo) 0)
        | none => none
      | none => none
    | _, _, _ => none
  | some .string =>
    match x, max with
    | .str len n, none =>
      match optBound high len len with
      | some hi => match optBound low 0 hi with
        | some lo => some (strSub len n lo hi)
        | none => none
      | none => none
    | _, _ => none
  | some (.slice e) =>
    match x, sizeOfT P e with
    | .snil, some _ =>
      match optBound max 0 0 with
      | some m => match optBound high 0 m with
        | some hi => match optBound low 0 hi with
          | some _ => some .snil
          | none => none
        | none => none
      | none => none
    | .eslice, some _ =>
      match max, optBound high 0 0, optBound low 0 0 with
      | none, some _, some _ => some .eslice
      | _, _, _ => none
    | .slice b off len cap 0, some s =>
      match optBound max cap cap with
      | some m => match optBound high len m with
        | some hi => match optBound low 0 hi with
          | some lo => some (bif Nat.beq m lo then .slice b off (hi - lo) (m - lo) 0 else .slice b (off + lo * s) (hi - lo) (m - lo) 0)
          | none => none
        | none => none
      | none => none
    | .slice b off len _ (z + 1), some s =>
      bif Nat.beq (z + 1) s then
        match max with
        | some m =>
          match boundA m len with
          | some m => match optBound high len m with
            | some hi => match optBound low 0 hi with
              | some lo => some (bif Nat.beq m lo then .slice b off (hi - lo) (m - lo) 0 else .slice b (off + lo * s) (hi - lo) (m - lo) 0)
              | none => none
            | none => none
          | none => none
        | none =>
          match optBound high len len with
          | some hi => match optBound low 0 hi with
            | some lo =>
              bif Nat.blt lo len then some (.slice b (off + lo * s) (hi - lo) 0 s)
              else bif Nat.beq lo 0 then some (.slice b off 0 0 s)
              else some .eslice
            | none => none
          | none => none
      else none
    | _, _ => none
  | _ => none

/-- The key of a look-up or an update is one that Go can always hash: plain cells alone. -/
def keyKind (P : Program) (t : Nat) : Bool :=
  match P.underlying t with
  | some (.int _) | some .string | some .bool => true
  | _ => false

def keyOk (P : Program) (t : Nat) (k : AV) : Bool :=
  match P.underlying t with
  | some (.int _) => match k with | .int .. | .ext _ => true | _ => false
  | some .string => match k with | .str .. | .ext _ => true | _ => false
  | some .bool => match k with | .bool _ | .ext _ => true | _ => false
  | some (.array len e) =>
    match k with
    | .agg c => keyKind P e && (match sizeOfT P e with | some 1 => true | _ => false) && Nat.beq c.len len
    | _ => false
  | _ => false

def findKeyA (P : Program) (h : Heap) (t : Nat) (k : AV) : List (AV × AV × Nat) → Nat → Option (Option (Nat × AV × AV × Nat))
  | [], _ => some none
  | (k', v, born) :: es, i =>
    match eqVal P h t k k' with
    | some true => some (some (i, k', v, born))
    | some false => findKeyA P h t k es (i + 1)
    | none => none

def mapAt (h : Heap) (b : Nat) : Option (List (AV × AV × Nat) × Nat) :=
  match h.at b with
  | .map es clock => some (es, clock)
  | _ => none

def lookupA (P : Program) (h : Heap) (t : Nat) (x k : AV) (ok : Bool) : Option AV :=
  match P.underlying t with
  | some (.map kt et) =>
    bif keyOk P kt k then
      match (match x with | .mnil => some ([], 0) | .map b => mapAt h b | _ => none) with
      | some (es, _) =>
        match findKeyA P h kt k es 0 with
        | some (some (_, _, v, _)) => some (bif ok then .tup (.cons v (.cons (.bool true) .nil)) else v)
        | some none => match zeroOf P et with
          | some z => some (bif ok then .tup (.cons z (.cons (.bool false) .nil)) else z)
          | none => none
        | none => none
      | none => none
    else none
  | _ => none

def fieldOff (P : Program) (s f : Nat) : Option (Nat × Nat) :=
  match P.underlying s with
  | some (.struct fs) => match fs.toList[f]? with
    | some f => some (f.offset, f.type)
    | none => none
  | _ => none

def indexAddrA (P : Program) (t : Nat) (x i : AV) : Option AV :=
  match i with
  | .int _ (.ofNat i) =>
    match P.underlying t with
    | some (.array len e) =>
      match x, sizeOfT P e with
      | .ptr b off, some s => bif Nat.blt i len then some (.ptr b (off + i * s)) else none
      | _, _ => none
    | some (.slice e) =>
      match x, sizeOfT P e with
      | .slice b off len _ _, some s => bif Nat.blt i len then some (.ptr b (off + i * s)) else none
      | _, _ => none
    | _ => none
  | _ => none

def partA (P : Program) (t : Nat) (c : AV) (off : Nat) : Option AV :=
  match P.underlying t with
  | some d =>
    bif isAggD d then
      match sizeOfT P t with
      | some n => bif Nat.ble (off + n) c.len then some (.agg ((c.drop off).take n)) else none
      | none => none
    else c.nth off
  | none => none

def indexA (P : Program) (t : Nat) (x i : AV) : Option AV :=
  match i with
  | .int _ (.ofNat i) =>
    match P.underlying t, x with
    | some (.array len e), .agg c =>
      match sizeOfT P e with
      | some s => bif Nat.blt i len then partA P e c (i * s) else none
      | none => none
    | some .string, .str len n => bif Nat.blt i len then some (mkInt .u8 (.ofNat (strByte len n i))) else none
    | _, _ => none
  | _ => none

/-- 'build': the zero value with the parts laid over it. -/
def placeOf (P : Program) (t : Nat) (i : Nat) : Option (Nat × Nat) :=
  match P.underlying t with
  | some (.struct fs) => match fs.toList[i]? with
    | some f => match sizeOfT P f.type with
      | some n => some (f.offset, n)
      | none => none
    | none => none
  | some (.array _ e) => match sizeOfT P e with
    | some n => some (i * n, n)
    | none => none
  | _ => none

def fillA (place : Nat → Option (Nat × Nat)) (c : AV) : List (Nat × AV) → Option AV
  | [] => some c
  | (i, v) :: rest =>
    match place i with
    | some (off, n) =>
      bif Nat.beq v.cells.len n && Nat.ble (off + n) c.len then
        match c.splice off v.cells with
        | some c => fillA place c rest
        | none => none
      else none
    | none => none

def sizesOk (P : Program) (t : Nat) : Bool :=
  match P.underlying t with
  | some (.struct fs) => fs.toList.all fun f => (sizeOfT P f.type).isSome
  | some (.array _ e) => (sizeOfT P e).isSome
  | _ => false

def buildA (P : Program) (t : Nat) (parts : List (Nat × AV)) : Option AV :=
  match zeroCells P t with
  | some z => bif sizesOk P t then
      match fillA (placeOf P t) z parts with
      | some c => some (.agg c)
      | none => none
    else none
  | none => none

def convA (P : Program) (h : Heap) (src dst : Nat) (x : AV) : Option AV :=
  match P.underlying src, P.underlying dst, x with
  | some _, some (.int k), .int _ n => some (mkInt k (wrapTo k n))
  | some _, some .string, .str l n => some (.str l n)
  | some _, some .string, .int _ n => some (strOf (Utf8.encode n).data.toList)
  | some (.slice e), some .string, .snil => match P.underlying e with
    | some (.int .u8) => some (.str 0 0)
    | _ => none
  | some (.slice e), some .string, .eslice => match P.underlying e with
    | some (.int .u8) => some (.str 0 0)
    | _ => none
  | some (.slice e), some .string, .slice b off len _ _ => match P.underlying e with
    | some (.int .u8) => match readCells h b off len with
      | some c => bytesStr c 0 0
      | none => none
    | _ => none
  | some (.pointer t), some .unsafePointer, .ptr b off =>
    match h.at b, sizeOfT P t with
    | .cells _ n _ _ _ _ _, some (_ + 1) => bif Nat.blt off n then some (.ptr b off) else none
    | _, _ => none
  | some .unsafePointer, some (.pointer t), .ptr b off =>
    match h.at b, sizeOfT P t with
    | .cells _ n e opn _ _ ro, some _ => bif !opn && !ro && liesAt P P.depth e (n / P.cellsOf e) off t 1 then some (.ptr b off) else none
    | _, _ => none
  | _, _, _ => none

def lenA (P : Program) (h : Heap) (t : Nat) (x : AV) : Option AV :=
  match P.underlying t, x with
  | some .string, .str l _ => some (mkInt .i64 (.ofNat l))
  | some (.slice _), .snil => some (.int .i64 0)
  | some (.slice _), .eslice => some (.int .i64 0)
  | some (.slice _), .slice _ _ l _ _ => some (mkInt .i64 (.ofNat l))
  | some (.array n _), _ => some (mkInt .i64 (.ofNat n))
  | some (.pointer a), _ => match P.underlying a with
    | some (.array n _) => some (mkInt .i64 (.ofNat n))
    | _ => none
  | some (.map _ _), .mnil => some (.int .i64 0)
  | some (.map _ _), .map b => match mapAt h b with
    | some (es, _) => some (mkInt .i64 (.ofNat es.length))
    | none => none
  | _, _ => none

def capA (P : Program) (t : Nat) (x : AV) : Option AV :=
  match P.underlying t, x with
  | some (.slice _), .snil => some (.int .i64 0)
  | some (.slice _), .slice _ _ _ c 0 => some (mkInt .i64 (.ofNat c))
  | _, _ => none

def minMaxA (isMax : Bool) : List AV → Option AV
  | [] => none
  | .int k x :: rest => rest.foldl (fun acc v => match acc, v with
      | some (.int k x), .int _ y => some (.int k (bif isMax then (bif intLt x y then y else x) else (bif intLt y x then y else x)))
      | _, _ => none) (some (.int k x))
  | _ => none

def unOpA (op : UnOp) (x : AV) : Option AV :=
  match op, x with
  | .neg, .int k n => some (mkInt k (wrapTo k (0 - n)))
  | .not, .bool b => some (mkBool (!b))
  | .xor, .int k n => bif k.signed then some (mkInt k (k.wrap ((BitVec.ofInt k.bits (-1) ^^^ BitVec.ofInt k.bits n)).toNat)) else some (mkInt k (k.wrap ((BitVec.ofInt k.bits k.max ^^^ BitVec.ofInt k.bits n)).toNat))
  | _, _ => none

def sliceDataA (x : AV) : Option AV :=
  match x with
  | .snil => some .pnil
  | .slice b off _ (_ + 1) 0 => some (.ptr b off)
  | .slice b off (_ + 1) _ (_ + 1) => some (.ptr b off)
  | _ => none

def zipParts : List Nat → List AV → List (Nat × AV)
  | i :: is, v :: vs => (i, v) :: zipParts is vs
  | _, _ => []

/-- An operation that leaves the memory as it is; 'vals': its operands' values, in the order of Op.operands. -/
def readA (P : Program) (h : Heap) (o : Oper) (vals : List AV) : Option AV :=
  match o.op, vals with
  | .move _, [x] => some x
  | .assign _, [x] => some x
  | .pick _ _ _, [c, a, b] => match c with
    | .bool true => some a
    | .bool false => some b
    | _ => none
  | .load t _, [.ptr b off] => loadVarA P t h b off
  | .nilCheck _, [x] => match x with
    | .ptr .. => some x
    | .func (.func _) .. => some x
    | .yield _ => some x
    | .iface .. => some x
    | _ => none
  | .binOp op t x y _, [a, b] =>
    match a, b with
    | .int k n, .int k' m => match op with
      | .shl | .shr => shiftOp op k n m
      | _ => bif decide (k = k') then intOp op k n m else none
    | .str la a, .str lb b => strOp op la a lb b
    | _, _ =>
      bif guardOk P t x y a b then
        match op with
        | .eql => match eqVal P h t a b with
          | some r => some (mkBool r)
          | none => none
        | .neq => match eqVal P h t a b with
          | some r => some (mkBool (!r))
          | none => none
        | _ => none
      else none
  | .unOp op _ _, [x] => unOpA op x
  | .convert s d _, [x] => convA P h s d x
  | .makeInterface t _, [x] => match P.underlying t with
    | some (.interface _) => none
    | some _ => some (.iface t x)
    | none => none
  | .makeFunc fn first _, vs => match fn with
    | .func f => some (.func (.func f) (AV.ofList (vs.take first.size)) (AV.ofList (vs.drop first.size)))
    | _ => none
  | .slice t _ low high max, x :: vs =>
    match low, high, max, vs with
    | none, none, none, [] => sliceA P t x none none none
    | some _, none, none, [l] => sliceA P t x (some l) none none
    | none, some _, none, [hi] => sliceA P t x none (some hi) none
    | some _, some _, none, [l, hi] => sliceA P t x (some l) (some hi) none
    | none, some _, some _, [hi, m] => sliceA P t x none (some hi) (some m)
    | some _, some _, some _, [l, hi, m] => sliceA P t x (some l) (some hi) (some m)
    | _, _, _, _ => none
  | .sliceToArrayPointer t _, [.slice b off len _ _] => match P.underlying t with
    | some (.array n _) => bif Nat.ble n len then some (.ptr b off) else none
    | _ => none
  | .fieldAddr s _ f, [.ptr b off] => match fieldOff P s f with
    | some (o, t) => match sizeOfT P t with
      | some (_ + 1) => some (.ptr b (off + o))
      | _ => none
    | none => none
  | .field s _ f, [.agg c] => match fieldOff P s f with
    | some (o, t) => partA P t c o
    | none => none
  | .indexAddr t _ _, [x, i] => indexAddrA P t x i
  | .index t _ _, [x, i] => indexA P t x i
  | .lookup t _ _ ok, [x, k] => lookupA P h t x k ok
  | .build t parts, vs => buildA P t (zipParts (parts.toList.map (·.1)) vs)
  | .extract _ i, [.tup c] => c.nth i
  | .call { callee := .builtin b, argTypes, .. }, vs =>
    match b, argTypes.toList, vs with
    | .len, t :: _, [x] => lenA P h t x
    | .cap, t :: _, [x] => capA P t x
    | .min, _, vs => minMaxA false vs
    | .max, _, vs => minMaxA true vs
    | .unsafeSliceData, _, [x] => sliceDataA x
    | _, _, _ => none
  | .entry _, [.ptr b 0] =>
    match h.at b with
    | .mit (some m) _ seen last =>
      match mapAt h m, seen.getLast? with
      | some (es, clock), some stamp =>
        bif Nat.beq clock last && Nat.blt stamp BOGUS then
          match es.find? (fun e => Nat.beq e.2.2 stamp) with
          | some e => some (.tup (.cons e.1 (.cons e.2.1 .nil)))
          | none => none
        else none
      | _, _ => none
    | _ => none
  | _, _ => none

/-! ### Operations that make one new object, out of their operands alone -/
/-- What became: the object, and the value that names it. -/
inductive New where
  | ptr (o : AObj)
  | slice (o : AObj) (len cap esz : Nat)
  | map (o : AObj)

def New.obj : New → AObj
  | .ptr o | .slice o _ _ _ | .map o => o
def New.val : New → Nat → AV
  | .ptr _, b => .ptr b 0
  | .slice _ len cap esz, b => .slice b 0 len cap esz
  | .map _, b => .map b

def makeA (P : Program) (o : Oper) (vals : List AV) : Option New :=
  match o.op, vals with
  | .alloc t, [] => match zeroCells P t with
    | some z => match newCells z t false 0 false with
      | some o => some (.ptr o)
      | none => none
    | none => none
  | .box t _, [x] => match newCells x.cells t false 0 false with
    | some o => some (.ptr o)
    | none => none
  | .buildSlice t len parts, vs =>
    match P.underlying t with
    | some (.slice e) =>
      match zeroCells P e, sizeOfT P e with
      | some z, some s =>
        bif Nat.beq z.len s && Nat.ble (len * s) 100000 then
          match fillA (fun i => some (i * s, s)) (repeatC z len) (zipParts (parts.toList.map (·.1)) vs) with
          | some c => match newCells c e false 0 false with
            | some o => some (.slice o len len 0)
            | none => none
          | none => none
        else none
      | _, _ => none
    | _ => none
  | .makeMap t r, vs => match r, vs with
    | none, [] => some (.map (.map [] 0))
    | some _, [.int _ _] => match P.underlying t with
      | some (.map _ _) => some (.map (.map [] 0))
      | _ => none
    | _, _ => none
  | .makeSlice t _ _, [.int _ (.ofNat l), .int _ (.ofNat c)] =>
    match P.underlying t with
    | some (.slice e) =>
      match zeroCells P e, sizeOfT P e, bytesOfT P e with
      | some z, some s, some bytes =>
        bif Nat.ble l c && Nat.beq z.len s && Nat.ble (c * bytes) 10000000 && Nat.ble (c * s) 100000 && Nat.ble c 10000000 then
          match newCells (repeatC z c) e false 0 false with
          | some o => some (.slice o l c 0)
          | none => none
        else none
      | _, _, _ => none
    | _ => none
  | .convert s d _, [.str len n] =>
    match P.underlying s, P.underlying d with
    | some _, some (.slice e) => match P.underlying e with
      | some (.int .u8) =>
        match newCells (strCells len n len 0) e true 0 true with
        | some o => some (.slice o len 0 1)
        | none => none
      | _ => none
    | _, _ => none
  | .range t _, [x] =>
    match P.underlying t, x with
    | some .string, .str len n => some (.ptr (.sit len n 0))
    | _, _ => none
  | _, _ => none

/-! ### Operations that write -/
inductive Wr where
  | val (v : AV) (h : Heap)
  | skip (h : Heap)

def firstCellsA (h : Heap) (size n : Nat) (x : AV) : Option AV :=
  match x with
  | .snil => match n with | 0 => some .nil | _ => none
  | .eslice => match n with | 0 => some .nil | _ => none
  | .slice b off len _ _ => bif Nat.ble n len then readCells h b off (n * size) else none
  | .str len m => bif Nat.ble n len then some (strCells len m n 0) else none
  | _ => none

def lenOfA : AV → Option Nat
  | .snil => some 0
  | .eslice => some 0
  | .slice _ _ len _ _ => some len
  | .str len _ => some len
  | _ => none

/-- A new row for an append that grows: its room is open. -/
def growA (h : Heap) (old new : AV) (e size need : Nat) : Option Wr :=
  match newCells (old.append new) e true 0 false with
  | some o => some (.val (.slice h.next 0 need 0 size) (h.push o))
  | none => none

def freeAt (h : Heap) (b : Nat) : Heap := h.put b .free

def appendA (P : Program) (h : Heap) (argTypes : List Nat) (s x : AV) : Option Wr :=
  match argTypes with
  | t :: u :: _ =>
    match P.underlying t, P.underlying u with
    | some (.slice e), some du =>
      match (match du with | .int _ => none | _ => sizeOfT P e), bytesOfT P e, lenOfA x, zeroCells P e with
      | some (z + 1), some bytes, some n, some zc =>
        match firstCellsA h (z + 1) n x with
        | some new =>
          bif Nat.beq zc.len (z + 1) && new.allOne && Nat.ble (n * bytes) 1000000 && Nat.ble 1 bytes && Nat.beq new.len (n * (z + 1)) then
          match s with
          | .snil =>
            match n with
            | 0 => some (.val .snil h)
            | _ => growA h .nil new e (z + 1) n
          | .slice b off len cap 0 =>
            bif Nat.ble (len + n) cap then
              match storeAt h b (off + len * (z + 1)) new with
              | some h => some (.val (.slice b off (len + n) cap 0) h)
              | none => none
            else bif Nat.ble ((len + n + cap) * bytes) 10000000 then
              match readCells h b off (len * (z + 1)) with
              | some old => growA h old new e (z + 1) (len + n)
              | none => none
            else none
          | .slice b off len _ (w + 1) =>
            bif Nat.beq w z && Nat.ble ((len + n) * bytes) 10000000 then
              match h.at b with
              | .cells _ m e' true fz false false =>
                bif Nat.ble (off + (len + n) * (z + 1)) m then
                  match storeAt h b (off + len * (z + 1)) new with
                  | some h => some (.val (.slice b off (len + n) 0 (z + 1)) h)
                  | none => none
                else
                  bif Nat.beq e e' && Nat.ble fz (off + len * (z + 1)) && Nat.ble (off + len * (z + 1)) m then
                    match readCells h b off (len * (z + 1)) with
                    | some old =>
                      match newCells (old.append new) e true (fz - off) false with
                      | some o => some (.val (.slice h.next 0 (len + n) 0 (z + 1)) ((freeAt h b).push o))
                      | none => none
                    | none => none
                  else none
              | _ => none
            else none
          | _ => none
          else none
        | none => none
      | _, _, _, _ => none
    | _, _ => none
  | _ => none

def copyA (P : Program) (h : Heap) (argTypes : List Nat) (d x : AV) : Option Wr :=
  match argTypes with
  | t :: _ =>
    match P.underlying t with
    | some (.slice e) =>
      match sizeOfT P e, lenOfA d, lenOfA x with
      | some s, some ld, some lx =>
        let n := Nat.min lx ld
        match firstCellsA h s n x with
        | some c =>
          match d with
          | .snil => some (.val (mkInt .i64 (.ofNat n)) h)
          | .slice b off _ _ _ => match storeAt h b off c with
            | some h => some (.val (mkInt .i64 (.ofNat n)) h)
            | none => none
          | _ => none
        | none => none
      | _, _, _ => none
    | _ => none
  | _ => none

def clearA (P : Program) (h : Heap) (argTypes : List Nat) (x : AV) : Option Wr :=
  match argTypes with
  | t :: _ =>
    match P.underlying t, x with
    | some (.slice _), .snil => some (.val .undef h)
    | some (.slice _), .eslice => some (.val .undef h)
    | some (.slice _), .slice _ _ 0 _ _ => some (.val .undef h)
    | some (.slice e), .slice b off len _ _ =>
      match zeroCells P e with
      | some z => bif Nat.ble (len * z.len) 100000 then
          match storeAt h b off (repeatC z len) with
          | some h => some (.val .undef h)
          | none => none
        else none
      | none => none
    | _, _ => none
  | _ => none

def sameKey : AV → AV → Bool
  | .int j a, .int k b => decide (j = k) && intEq a b
  | .str la a, .str lb b => Nat.beq la lb && Nat.beq a b
  | .bool a, .bool b => a == b
  | _, _ => false

def sameKeys : AV → AV → Bool
  | .cons a s, .cons b t => sameKey a b && sameKeys s t
  | .nil, .nil => true
  | _, _ => false

def keyStays (a b : AV) : Bool :=
  match a, b with
  | .agg s, .agg t => sameKeys s t
  | a, b => sameKey a b

def setNth {α : Type} : List α → Nat → α → List α
  | [], _, _ => []
  | _ :: l, 0, x => x :: l
  | a :: l, n + 1, x => a :: setNth l n x

def mapUpdateA (P : Program) (h : Heap) (t : Nat) (m k v : AV) : Option Wr :=
  match P.underlying t, m with
  | some (.map kt _), .map b =>
    bif keyOk P kt k then
      match mapAt h b with
      | some (es, clock) =>
        match findKeyA P h kt k es 0 with
        | some (some (i, k', _, born)) => bif keyStays k' k then some (.skip (h.put b (.map (setNth es i (k, v, born)) clock))) else none
        | some none => some (.skip (h.put b (.map (es ++ [(k, v, clock)]) (clock + 1))))
        | none => none
      | none => none
    else none
  | _, _ => none

def deleteA (P : Program) (h : Heap) (argTypes : List Nat) (m k : AV) : Option Wr :=
  match argTypes with
  | t :: _ =>
    match P.underlying t, m with
    | some (.map kt _), .map b =>
      bif keyOk P kt k then
        match mapAt h b with
        | some (es, clock) =>
          match findKeyA P h kt k es 0 with
          | some (some (i, _, _, _)) => some (.val .undef (h.put b (.map (es.eraseIdx i) clock)))
          | some none => some (.val .undef h)
          | none => none
        | none => none
      else none
    | some (.map kt _), .mnil => bif keyOk P kt k then some (.val .undef h) else none
    | _, _ => none
  | _ => none

/-- unsafe.String(p, n): the bytes as a string; they are shared from now on. -/
def unsafeStringA (P : Program) (h : Heap) (argTypes : List Nat) (p n : AV) : Option Wr :=
  match argTypes with
  | t :: _ =>
    match P.underlying t, n with
    | some (.pointer u), .int _ (.ofNat n) =>
      match p, n with
      | .pnil, 0 => some (.val (.str 0 0) h)
      | .ptr _ _, 0 => some (.val (.str 0 0) h)
      | .ptr b off, n =>
        match h.at b with
        | .cells row m e opn fz false ro =>
          bif !ro && Nat.beq (P.cellsOf e) 1 && Nat.ble (off + n) m && sameLayout P P.depth e u && Nat.ble n 1000000000 && Nat.blt 0 P.depth then
            match bytesStr (rowRead row n off) 0 0 with
            | some s => some (.val s (h.put b (.cells row m e opn (Nat.max fz (off + n)) false false)))
            | none => none
          else none
        | _ => none
      | _, _ => none
    | _, _ => none
  | _ => none

def nextA (h : Heap) (it : AV) (isString : Bool) : Option Wr :=
  match it with
  | .ptr b 0 =>
    match h.at b, isString with
    | .sit len n pos, true =>
      bif Nat.blt pos len then
        let s := strBytes len n
        let d := Utf8.decode ⟨⟨s⟩⟩ pos
        some (.val (.tup (.cons (.bool true) (.cons (mkInt .i64 (.ofNat pos)) (.cons (mkInt .i32 (.ofNat d.1)) .nil)))) (h.put b (natSeq (pos + d.2) fun p => .sit len n p)))
      else some (.val (.tup (.cons (.bool false) .nil)) h)
    | .mit none _ _ _, false => some (.val (.tup (.cons (.bool false) .nil)) h)
    | .mit (some m) since seen last, false =>
      match mapAt h m with
      | some (es, clock) =>
        bif (!seen.isEmpty && !es.isEmpty && es.all (fun e => Nat.ble last e.2.2)) || !es.all (fun e => Nat.blt e.2.2 BOGUS) then none else
        match es.filter (fun e => !seen.any (Nat.beq e.2.2)) with
        | [] => some (.val (.tup (.cons (.bool false) .nil)) h)
        | [(k, v, born)] =>
          bif Nat.blt born since then
            some (.val (.tup (.cons (.bool true) (.cons k (.cons v .nil)))) (h.put b (.mit (some m) since (seen ++ [born]) clock)))
          else none
        | _ => none
      | none => none
    | _, _ => none
  | _ => none

/-- The next entry of a map, where more than one may come next: what each leaves. -/
def nextsA (h : Heap) (it : AV) : Option (List (AV × Heap)) :=
  match it with
  | .ptr b 0 =>
    match h.at b with
    | .mit (some m) since seen last =>
      match mapAt h m with
      | some (es, clock) =>
        bif (!seen.isEmpty && !es.isEmpty && es.all (fun e => Nat.ble last e.2.2)) || !es.all (fun e => Nat.blt e.2.2 BOGUS) then none else
        match es.filter (fun e => !seen.any (Nat.beq e.2.2)) with
        | x :: y :: l =>
          bif (x :: y :: l).all (fun e => Nat.blt e.2.2 since) then
            some ((x :: y :: l).map fun e => (.tup (.cons (.bool true) (.cons e.1 (.cons e.2.1 .nil))), h.put b (.mit (some m) since (seen ++ [e.2.2]) clock)))
          else none
        | _ => none
      | none => none
    | _ => none
  | _ => none

def writeA (P : Program) (h : Heap) (o : Oper) (vals : List AV) : Option Wr :=
  match o.op, vals with
  | .store t _ _, [.ptr b off, x] => match storeVarA P t h b off x with
    | some h => some (.skip h)
    | none => none
  | .mapUpdate t _ _ _, [m, k, v] => mapUpdateA P h t m k v
  | .insert t _ _ _, [m, k, v] => mapUpdateA P h t m k v
  | .next _ isString, [it] => nextA h it isString
  | .range t _, [x] =>
    match P.underlying t, x with
    | some (.map _ _), .mnil => some (.val (.ptr h.next 0) (h.push (.mit none 0 [] 0)))
    | some (.map _ _), .map b => match mapAt h b with
      | some (_, clock) => some (.val (.ptr h.next 0) (h.push (.mit (some b) clock [] clock)))
      | none => none
    | _, _ => none
  | .call { callee := .builtin b, argTypes, .. }, vs =>
    match b, vs with
    | .append, [s, x] => appendA P h argTypes.toList s x
    | .copy, [d, x] => copyA P h argTypes.toList d x
    | .clear, [x] => clearA P h argTypes.toList x
    | .delete, [m, k] => deleteA P h argTypes.toList m k
    | .unsafeString, [p, n] => unsafeStringA P h argTypes.toList p n
    | _, _ => none
  | _, _ => none

/-! ### Functions without a Go body that the model answers -/
inductive ExtF where
  | noEscape
  | indexByteString
  | countString

def extOf (fn : Func) : Option ExtF :=
  if fn.origin = "" then
    if fn.name = "internal/abi.NoEscape" then some .noEscape
    else if fn.name = "internal/bytealg.IndexByteString" then some .indexByteString
    else if fn.name = "internal/bytealg.CountString" then some .countString
    else none
  else none

def findByte (len n : Nat) (c : Nat) : Nat → Nat → Option Nat
  | 0, _ => none
  | k + 1, i => bif Nat.beq (strByte len n i) c then some i else findByte len n c k (i + 1)

def extA (fn : Func) (args : List AV) : Option AV :=
  match extOf fn, args with
  | some .noEscape, [x] => some x
  | some .indexByteString, [.str len n, .int .u8 (.ofNat c)] =>
    match findByte len n (c % 256) len 0 with
    | some i => some (mkInt .i64 (.ofNat i))
    | none => some (.int .i64 (-1))
  | some .countString, [.str len n, .int .u8 (.ofNat c)] => some (mkInt .i64 (.ofNat (Lib.countByte (strBytes len n) (UInt8.ofNat c))))
  | _, _ => none

/-- What 'internal/bytealg.MakeNoZero' makes: a row of unknown room, of bytes that are any. -/
def newA (P : Program) (fn : Func) (args : List AV) : Option New :=
  if fn.origin = "" then
    if fn.name = "internal/bytealg.MakeNoZero" then
      match args, fn.resultTypes.toList with
      | [.int .i64 (.ofNat n)], [t] =>
        match P.underlying t with
        | some (.slice e) => bif Nat.ble n 1000000 then some (.slice (.cells .leaf n e true 0 false false) n 0 1) else none
        | _ => none
      | _, _ => none
    else none
  else none

end
end Go.AM
namespace Go.AM
noncomputable section

/-- Calls whose answer is known: what a function answers for these arguments, over this heap. -/
class Summ where
  sm : Program → Heap → Nat → List AV → Option AV

/-! ### Frames -/
structure Pend where
  ix : Nat
  o : Oper
  vals : List AV
  v : AV

structure DReg where
  ops : Array Oper
  env0 : T AV
  todo : List (Nat × Nat × Oper)
  done : Nat
  pend : List Pend

inductive AItem where
  | code (c : Code)
  | inBlock (id : Nat)
  | inLoop (body : Code)
  | inScope (body : Code)
  | reg (ops : Array Oper) (rest : List Oper)
  | dreg (d : DReg)
  | inRF (l : Nat)
  | endRF (l : Nat)
  | beginRound

structure AFr where
  fn : Nat
  size : Nat
  env : T AV
  todo : List AItem
  defers : List Nat
  round : Option Nat

structure ASt where
  fr : AFr
  cs : List AFr
  h : Heap

inductive AOut where
  | next (s : ASt)
  | done (v : AV) (h : Heap)
  | fail (why : Nat)
  | fork (l : List ASt)

def evalA (g : Nat) (env : T AV) : Operand → Option AV
  | .tmp t => some (envGet env t)
  | .const v => ofConst v
  | .global n => bif Nat.testBit g n then some (.ptr n 0) else none
  | .func f => some (.func (.func f) .nil .nil)

def evalAll (g : Nat) (env : T AV) : List Operand → Option (List AV)
  | [] => some []
  | x :: xs =>
    match evalA g env x with
    | some v => match evalAll g env xs with
      | some vs => some (v :: vs)
      | none => none
    | none => none

def putEnv (size : Nat) (env : T AV) (dst : Option Nat) (v : AV) : Option (T AV) :=
  match dst with
  | none => some env
  | some d => bif Nat.blt d size && Nat.blt d LIMIT then some (envSet env d v) else none

/-- Is the operation wanted? (Its guard names an operation of the region.) -/
def wantedA (ops : Array Oper) (env : T AV) (o : Oper) : Option Bool :=
  match o.guard with
  | none => some true
  | some (j, want) =>
    match ops.toList[j]? with
    | some g => match g.dst with
      | some d => match envGet env d with
        | .bool b => some (b == want)
        | .tup .nil => some false
        | _ => none
      | none => none
    | none => none

/-- The arguments laid in the first slots. -/
def layArgs : List AV → Nat → T AV → T AV
  | [], _, e => e
  | v :: vs, i, e => layArgs vs (i + 1) (envSet e i v)

def enterA (P : Program) (f : Nat) (args : List AV) : Option AFr :=
  match P.funcs.toList[f]? with
  | some fn =>
    match fn.body with
    | some c =>
      bif Nat.ble args.length fn.ntmps && Nat.blt args.length LIMIT then
        some { fn := f, size := fn.ntmps, env := layArgs args 0 .leaf, todo := [.code c], defers := [], round := none }
      else none
    | none => none
  | none => none

def setParams : List Nat → List AV → T AV → Option (T AV)
  | [], [], e => some e
  | p :: ps, v :: vs, e => bif Nat.blt p LIMIT then setParams ps vs (envSet e p v) else none
  | _, _, _ => none

/-- A frame for a round of a range over a function. -/
def roundA (h : Heap) (l : Nat) (args : List AV) : Option AFr :=
  match h.at l with
  | .loop _ _ fn env size params assign body _ =>
    bif params.all (fun p => Nat.blt p size) then
      match setParams params args env with
      | some e => some { fn := fn, size := size, env := e, todo := [.code assign, .beginRound, .code body], defers := [], round := some l }
      | none => none
    else none
  | _ => none

inductive Act1 where
  | val (v : AV) (h : Heap)
  | enter (fr : AFr)
  | ret (f : Nat) (args : List AV) (v : AV)

def hasBody (fn : Func) : Bool := match fn.body with | some _ => true | none => false

/-- A call of a value. -/
def callA [Summ] (P : Program) (h : Heap) (f : AV) (args : List AV) : Option Act1 :=
  match f with
  | .yield l => match roundA h l args with
    | some fr => some (.enter fr)
    | none => none
  | .func (.func f) first captured =>
    match P.funcs.toList[f]? with
    | some fn =>
      bif fn.name == "runtime.NumGoroutine" then none else
      bif hasBody fn then
        match Summ.sm P h f (first.toList ++ (args ++ captured.toList)) with
        | some v => some (.ret f (first.toList ++ (args ++ captured.toList)) v)
        | none =>
          match enterA P f (first.toList ++ (args ++ captured.toList)) with
          | some fr => some (.enter fr)
          | none => none
      else
        match extA fn (first.toList ++ (args ++ captured.toList)) with
        | some v => some (.val v h)
        | none =>
          match newA P fn (first.toList ++ (args ++ captured.toList)) with
          | some n => bif Nat.blt h.next LIMIT then some (.val (n.val h.next) (h.push n.obj)) else none
          | none => none
    | none => none
  | _ => none

inductive Kind where
  | read
  | make
  | write
  | call
  | bad

def kindOf (P : Program) (o : Op) : Kind :=
  match o with
  | .move _ | .assign _ | .pick .. | .load .. | .nilCheck _ | .binOp .. | .unOp .. | .makeInterface .. | .makeFunc .. | .slice .. | .fieldAddr .. | .field ..
  | .indexAddr .. | .index .. | .lookup .. | .build .. | .extract .. | .entry _ | .sliceToArrayPointer .. => .read
  | .alloc _ | .box .. | .buildSlice .. | .makeMap .. | .makeSlice .. => .make
  | .convert s d _ => match P.underlying s, P.underlying d with
    | some .string, some (.slice _) => .make
    | _, _ => .read
  | .range t _ => match P.underlying t with
    | some .string => .make
    | _ => .write
  | .store .. | .mapUpdate .. | .insert .. | .next .. => .write
  | .call c => match c.callee with
    | .builtin .len | .builtin .cap | .builtin .min | .builtin .max | .builtin .unsafeSliceData => .read
    | .builtin _ => .write
    | .value _ => .call
    | .invoke .. => .bad
  | _ => .bad

/-- One operation. -/
def operA [Summ] (P : Program) (h : Heap) (o : Oper) (vals : List AV) : Option Act1 :=
  match kindOf P o.op with
  | .read => match readA P h o vals with
    | some v => some (.val v h)
    | none => none
  | .make => match makeA P o vals with
    | some n => bif Nat.blt h.next LIMIT then some (.val (n.val h.next) (h.push n.obj)) else none
    | none => none
  | .write => bif Nat.blt h.next LIMIT then
      match writeA P h o vals with
      | some (.val v h) => some (.val v h)
      | some (.skip h) => some (.val .undef h)
      | none => none
    else none
  | .call => bif Nat.blt h.next LIMIT then
      match vals with
      | f :: args => callA P h f args
      | [] => none
    else none
  | .bad => none

/-! ### A region that draws its order -/
/-- For each operation the set of those that come before it in every order. -/
def masksL : List Oper → Nat → List Nat → List Nat
  | [], _, acc => acc.reverse
  | o :: rest, j, acc =>
    natSeq (o.after.toList.foldl (fun s e => bif Region.binds .any e then Nat.lor s (Nat.lor (2 ^ e.on) (acc.getD (j - 1 - e.on) 0)) else s) 0) fun m => masksL rest (j + 1) (m :: acc)

def masks (ops : Array Oper) : List Nat := masksL ops.toList 0 []

def tmpsOf : List Operand → List Nat
  | [] => []
  | .tmp t :: xs => t :: tmpsOf xs
  | _ :: xs => tmpsOf xs

def looksAt (ops : Array Oper) (o : Oper) : List Nat :=
  match o.guard with
  | none => tmpsOf o.op.operands.toList
  | some (j, _) => match ops.toList[j]? with
    | some g => match g.dst with
      | some d => d :: tmpsOf o.op.operands.toList
      | none => tmpsOf o.op.operands.toList
    | none => tmpsOf o.op.operands.toList

def itemsOf : List Oper → List Nat → Nat → List (Nat × Nat × Oper)
  | o :: os, ms, i => (i, ms.headD 0, o) :: itemsOf os ms.tail (i + 1)
  | [], _, _ => []

def dItems (ops : Array Oper) : List (Nat × Nat × Oper) := itemsOf ops.toList (masks ops) 0

/-- Of two operations: what the one writes the other does not write; and if it reads it, one of them comes first in every order. -/
def apartOk (ops : Array Oper) (a b : Nat × Nat × Oper) : Bool :=
  match a.2.2.dst with
  | none => true
  | some d =>
    (match b.2.2.dst with | some e => !Nat.beq d e | none => true) &&
    (!(looksAt ops b.2.2).any (Nat.beq d) || Nat.testBit b.2.1 a.1 || Nat.testBit a.2.1 b.1)

/-- The edges of an operation lead back, and its set is what the edges say. -/
def edgesOk (ms : List Nat) (a : Nat × Nat × Oper) : Bool :=
  (a.2.2.after.toList.all fun e => !Region.binds .any e || Nat.blt e.on a.1) &&
  Nat.beq a.2.1 (a.2.2.after.toList.foldl (fun s e => bif Region.binds .any e then Nat.lor s (Nat.lor (2 ^ e.on) (ms.getD e.on 0)) else s) 0)

def dOk (ops : Array Oper) : Bool :=
  let ms := masks ops
  let l := itemsOf ops.toList ms 0
  l.all fun a => edgesOk ms a &&
    (match a.2.2.guard with | none => true | some (j, _) => Nat.testBit a.2.1 j) &&
    (match a.2.2.dst with | none => true | some d => !(looksAt ops a.2.2).any (Nat.beq d)) &&
    l.all fun b => Nat.beq a.1 b.1 || apartOk ops a b

def isHeavy (P : Program) (o : Op) : Bool :=
  match kindOf P o with
  | .read | .make => false
  | _ => true

/-- Must a value that was read be looked at again behind a write? -/
def mayChange (o : Op) : Bool :=
  match o with
  | .move _ | .assign _ | .pick .. | .nilCheck _ | .unOp .. | .makeInterface .. | .makeFunc .. | .slice .. | .fieldAddr .. | .field .. | .indexAddr .. | .index .. | .build .. | .extract .. => false
  | _ => true

/-- All that 'm' names has been done. -/
def doneAll (done m : Nat) : Bool := Nat.beq (Nat.land m done) m

/-- The first operation that can go and touches no memory that lay. -/
def pickLight (P : Program) (ops : Array Oper) (env : T AV) (done : Nat) : List (Nat × Nat × Oper) → Option ((Nat × Nat × Oper × Bool) × List (Nat × Nat × Oper))
  | [] => none
  | x :: rest =>
    let other := match pickLight P ops env done rest with
      | some (y, l) => some (y, x :: l)
      | none => none
    bif doneAll done x.2.1 then
      match wantedA ops env x.2.2 with
      | some false => some ((x.1, x.2.1, x.2.2, false), rest)
      | some true => bif isHeavy P x.2.2.op then other else some ((x.1, x.2.1, x.2.2, true), rest)
      | none => none
    else other

/-- None of these can go. -/
def noneReady (done : Nat) (l : List (Nat × Nat × Oper)) : Bool := l.all fun x => !doneAll done x.2.1

def avEq : AV → AV → Bool
  | .nil, .nil => true
  | .cons a b, .cons c d => avEq a c && avEq b d
  | .bool a, .bool b => a == b
  | .int j a, .int k b => decide (j = k) && intEq a b
  | .str la a, .str lb b => Nat.beq la lb && Nat.beq a b
  | .pnil, .pnil => true
  | .ptr a b, .ptr c d => Nat.beq a c && Nat.beq b d
  | .snil, .snil => true
  | .slice a b c d e, .slice a' b' c' d' e' => Nat.beq a a' && Nat.beq b b' && Nat.beq c c' && Nat.beq d d' && Nat.beq e e'
  | .eslice, .eslice => true
  | .mnil, .mnil => true
  | .map a, .map b => Nat.beq a b
  | .fnil, .fnil => true
  | .func (.func f) a b, .func (.func g) c d => Nat.beq f g && avEq a c && avEq b d
  | .yield a, .yield b => Nat.beq a b
  | .inil, .inil => true
  | .iface t a, .iface u b => Nat.beq t u && avEq a b
  | .agg a, .agg b => avEq a b
  | .tup a, .tup b => avEq a b
  | .ext a, .ext b => Nat.beq a b
  | _, _ => false

/-- What was read and may still be read later reads as it did. -/
def stillOk (P : Program) (h : Heap) : List Pend → Bool
  | [] => true
  | p :: ps => (match readA P h p.o p.vals with | some v => avEq v p.v | none => false) && stillOk P h ps

def dropDone (m : Nat) : List Pend → List Pend
  | [] => []
  | p :: ps => bif Nat.testBit m p.ix then dropDone m ps else p :: dropDone m ps

/-! ### The machine -/
def isBlk (id : Nat) : AItem → Bool
  | .inBlock i => Nat.beq i id
  | _ => false

def exitA (id : Nat) : List AItem → Option (List AItem)
  | [] => none
  | x :: k => match x with
    | .inBlock i => bif Nat.beq i id then some k else exitA id k
    | _ => exitA id k

def gotoA (l : Nat) : List AItem → Option (List AItem)
  | [] => none
  | x :: k => match x with
    | .inScope body => match findLabel body l with
      | some rest => some (.code rest :: .inScope body :: k)
      | none => gotoA l k
    | _ => gotoA l k

/-- The caller goes on with the value of its call. -/
def finishA (fr : AFr) (v : AV) : Option AFr :=
  match fr.todo with
  | .reg ops (o :: rest) :: k => match putEnv fr.size fr.env o.dst v with
    | some e => some { fr with env := e, todo := .reg ops rest :: k }
    | none => none
  | .dreg d :: k =>
    match d.todo with
    | x :: rest => match putEnv fr.size fr.env x.2.2.dst v with
      | some e => some { fr with env := e, todo := .dreg { d with todo := rest, done := Nat.lor d.done (2 ^ x.1) } :: k }
      | none => none
    | [] => none
  | .inRF l :: k => some { fr with todo := .endRF l :: k }
  | _ => none

def resultA (P : Program) (h : Heap) (env : T AV) : List ResultVar → Option (List AV)
  | [] => some []
  | r :: rs =>
    match (match r with
      | .tmp t => some (envGet env t)
      | .cell a t => match envGet env a with
        | .ptr b off => loadVarA P t h b off
        | _ => none) with
    | some v => match resultA P h env rs with
      | some vs => some (v :: vs)
      | none => none
    | none => none

def takeDefers (h : Heap) : List Nat → Option Heap
  | [] => some h
  | b :: bs => match h.at b with
    | .dfr true => takeDefers (h.put b (.dfr false)) bs
    | _ => none

def popA (cs : List AFr) (v : AV) (h : Heap) : AOut :=
  match cs with
  | [] => .done v h
  | c :: cs => match finishA c v with
    | some c => .next ⟨c, cs, h⟩
    | none => .fail 1

def returnA (P : Program) (s : ASt) : AOut :=
  match takeDefers s.h s.fr.defers with
  | some h =>
    match P.funcs.toList[s.fr.fn]? with
    | some fn => match resultA P h s.fr.env fn.results.toList with
      | some [v] => popA s.cs v h
      | some vs => popA s.cs (.tup (AV.ofList vs)) h
      | none => .fail 2
    | none => .fail 3
  | none => .fail 4

def endRoundA (s : ASt) (l : Nat) (jump : Option Code) : AOut :=
  match s.h.at l, s.fr.defers, s.cs with
  | .loop _ _ fn env size params assign body df, [], _ :: _ =>
    popA s.cs (.bool jump.isNone) (s.h.put l (.loop (if jump.isNone then .ready else .done) jump fn env size params assign body df))
  | _, _, _ => .fail 5

def leaveA (P : Program) (s : ASt) (jump : Option Code) : AOut :=
  match s.fr.round with
  | none => match jump with
    | none => returnA P s
    | some .ret => returnA P s
    | _ => .fail 6
  | some l => endRoundA s l jump

def isReady : LoopState → Bool
  | .ready => true
  | _ => false
def isBusy : LoopState → Bool
  | .busy => true
  | _ => false

/-- The region that draws goes on: with all that can go without touching memory, then with the next that writes. -/
def dregA [Summ] (P : Program) (g : Nat) (s : ASt) (d : DReg) (k : List AItem) : AOut :=
  match d.todo with
  | [] => bif stillOk P s.h d.pend then .next { s with fr := { s.fr with todo := k } } else .fail 17
  | _ :: _ =>
    match pickLight P d.ops s.fr.env d.done d.todo with
    | some ((i, _, o, wanted), rest) =>
      bif wanted then
        match evalAll g s.fr.env o.op.operands.toList with
        | some vals =>
          match operA P s.h o vals with
          | some (.val v h) => match putEnv s.fr.size s.fr.env o.dst v with
            | some e =>
              let pend := bif mayChange o.op && (match kindOf P o.op with | .read => true | _ => false) then ⟨i, o, vals, v⟩ :: d.pend else d.pend
              .next ⟨{ s.fr with env := e, todo := .dreg { d with todo := rest, done := Nat.lor d.done (2 ^ i), pend := pend } :: k }, s.cs, h⟩
            | none => .fail 7
          | _ => .fail 8
        | none => .fail 9
      else
        match putEnv s.fr.size s.fr.env o.dst .undef with
        | some e => .next { s with fr := { s.fr with env := e, todo := .dreg { d with todo := rest, done := Nat.lor d.done (2 ^ i) } :: k } }
        | none => .fail 10
    | none =>
      match d.todo with
      | (_, m, o) :: rest =>
        bif isHeavy P o.op && doneAll d.done m && noneReady d.done rest && stillOk P s.h d.pend then
          match wantedA d.ops s.fr.env o with
          | some true =>
            match evalAll g s.fr.env o.op.operands.toList with
            | some vals =>
              match operA P s.h o vals with
              | some (.val v h) =>
                match finishA { s.fr with todo := .dreg { d with pend := dropDone m d.pend } :: k } v with
                | some fr => .next ⟨fr, s.cs, h⟩
                | none => .fail 11
              | some (.enter fr) => .next ⟨fr, { s.fr with todo := .dreg { d with pend := dropDone m d.pend } :: k } :: s.cs, s.h⟩
              | some (.ret _ _ v) =>
                match finishA { s.fr with todo := .dreg { d with pend := dropDone m d.pend } :: k } v with
                | some fr => .next ⟨fr, s.cs, s.h⟩
                | none => .fail 11
              | none => .fail 12
            | none => .fail 13
          | _ => .fail 14
        else .fail 15
      | [] => .fail 16

/-- What a piece of code becomes: another first item. -/
def goA (s : ASt) (todo : List AItem) : AOut :=
  match s with
  | ⟨⟨fn, size, env, _, defers, round⟩, cs, h⟩ => .next ⟨⟨fn, size, env, todo, defers, round⟩, cs, h⟩

def condA (g : Nat) (s : ASt) (c : Operand) (a b : Code) (k : List AItem) : AOut :=
  match evalA g s.fr.env c with
  | some (.bool t) => goA s (.code (match t with | true => a | false => b) :: k)
  | _ => .fail 20

def exitCodeA (P : Program) (s : ASt) (id : Nat) (k : List AItem) : AOut :=
  match exitA id k with
  | some k' => goA s k'
  | none => leaveA P s (some (.exit id))

def gotoCodeA (P : Program) (s : ASt) (l : Nat) (k : List AItem) : AOut :=
  match gotoA l k with
  | some k' => goA s k'
  | none => leaveA P s (some (.goto l))

def regionA (s : ASt) (ops : Array Oper) (draw : Bool) (k : List AItem) : AOut :=
  match draw with
  | false => goA s (.reg ops ops.toList :: k)
  | true => bif dOk ops then goA s (.dreg ⟨ops, s.fr.env, dItems ops, 0, []⟩ :: k) else .fail 21

def rangeA [Summ] (P : Program) (g : Nat) (s : ASt) (f : Operand) (params : Array Tmp) (assign body : Code) (k : List AItem) : AOut :=
  match evalA g s.fr.env f, s.fr.round with
  | some fv, none =>
    bif Nat.blt (s.h.next + 1) LIMIT then
      let l := s.h.next + 1
      let h := (s.h.push (.dfr true)).push (.loop .ready none s.fr.fn s.fr.env s.fr.size params.toList assign body s.h.next)
      let fr := { s.fr with todo := .inRF l :: k, defers := s.h.next :: s.fr.defers }
      match callA P h fv [.yield l] with
      | some (.enter fr') => .next ⟨fr', fr :: s.cs, h⟩
      | _ => .fail 22
    else .fail 23
  | some fv, some around =>
    match s.h.at around with
    | .loop _ _ _ _ _ _ _ _ df =>
      bif Nat.blt s.h.next LIMIT then
        let l := s.h.next
        let h := s.h.push (.loop .ready none s.fr.fn s.fr.env s.fr.size params.toList assign body df)
        let fr := { s.fr with todo := .inRF l :: k }
        match callA P h fv [.yield l] with
        | some (.enter fr') => .next ⟨fr', fr :: s.cs, h⟩
        | _ => .fail 22
      else .fail 23
    | _ => .fail 24
  | _, _ => .fail 25

def codeA [Summ] (P : Program) (g : Nat) (s : ASt) (c : Code) (k : List AItem) : AOut :=
  match c with
  | .ret => leaveA P s (some .ret)
  | .skip | .label _ => goA s k
  | .seq a b => goA s (.code a :: .code b :: k)
  | .cond c a b => condA g s c a b k
  | .block id body => goA s (.code body :: .inBlock id :: k)
  | .loop body => goA s (.code body :: .inLoop body :: k)
  | .scope body => goA s (.code body :: .inScope body :: k)
  | .exit id => exitCodeA P s id k
  | .goto l => gotoCodeA P s l k
  | .region _ ops draw => regionA s ops draw k
  | .rangeFunc f params assign body => rangeA P g s f params assign body k
  | .refuse _ => .fail 26

def putA (s : ASt) (dst : Option Nat) (v : AV) (todo : List AItem) (h : Heap) : AOut :=
  match s with
  | ⟨⟨fn, size, env, _, defers, round⟩, cs, _⟩ =>
    match putEnv size env dst v with
    | some e => .next ⟨⟨fn, size, e, todo, defers, round⟩, cs, h⟩
    | none => .fail 28

/-- Where one of several entries of a map comes next. -/
def forkL (s : ASt) (dst : Option Nat) (todo : List AItem) : List (AV × Heap) → Option (List ASt)
  | [] => some []
  | x :: l =>
    match putEnv s.fr.size s.fr.env dst x.1 with
    | some e => match forkL s dst todo l with
      | some r => some (⟨{ s.fr with env := e, todo := todo }, s.cs, x.2⟩ :: r)
      | none => none
    | none => none

def isNext : Op → Bool
  | .next _ false => true
  | _ => false

def forkA (s : ASt) (o : Oper) (vals : List AV) (todo : List AItem) : AOut :=
  match isNext o.op, vals with
  | true, [it] => match nextsA s.h it with
    | some l => match forkL s o.dst todo l with
      | some r => .fork r
      | none => .fail 41
    | none => .fail 42
  | _, _ => .fail 29

def wantA [Summ] (P : Program) (g : Nat) (s : ASt) (ops : Array Oper) (o : Oper) (rest : List Oper) (k : List AItem) : AOut :=
  match evalAll g s.fr.env o.op.operands.toList with
  | some vals =>
    match operA P s.h o vals with
    | some (.val v h) => putA s o.dst v (.reg ops rest :: k) h
    | some (.enter fr) => .next ⟨fr, s.fr :: s.cs, s.h⟩
    | some (.ret _ _ v) => putA s o.dst v (.reg ops rest :: k) s.h
    | none => forkA s o vals (.reg ops rest :: k)
  | none => .fail 30

def regA [Summ] (P : Program) (g : Nat) (s : ASt) (ops : Array Oper) (rest : List Oper) (k : List AItem) : AOut :=
  match rest with
  | [] => goA s k
  | o :: rest =>
    match wantedA ops s.fr.env o with
    | some false => putA s o.dst .undef (.reg ops rest :: k) s.h
    | some true => wantA P g s ops o rest k
    | none => .fail 31

def endA (s : ASt) (l : Nat) (k : List AItem) : AOut :=
  match s.h.at l with
  | .loop st pending fn env size params assign body df =>
    bif isBusy st then .fail 33 else
    .next ⟨{ s.fr with todo := (match pending with | some c => .code c :: k | none => k) }, s.cs, s.h.put l (.loop .exhausted pending fn env size params assign body df)⟩
  | _ => .fail 34

def beginA (s : ASt) (k : List AItem) : AOut :=
  match s.fr.round with
  | some l => match s.h.at l with
    | .loop st pending fn env size params assign body df =>
      bif isReady st then .next { s with fr := { s.fr with todo := k }, h := s.h.put l (.loop .busy pending fn env size params assign body df) } else .fail 35
    | _ => .fail 36
  | none => .fail 37

def itemA [Summ] (P : Program) (g : Nat) (s : ASt) (x : AItem) (k : List AItem) : AOut :=
  match x with
  | .inBlock _ | .inScope _ => goA s k
  | .inLoop body => goA s (.code body :: .inLoop body :: k)
  | .code c => codeA P g s c k
  | .reg ops rest => regA P g s ops rest k
  | .dreg d => dregA P g s d k
  | .inRF _ => .fail 32
  | .endRF l => endA s l k
  | .beginRound => beginA s k

/-- One step. 'g': the set of the package-level variables that are laid. -/
def stepA [Summ] (P : Program) (g : Nat) (s : ASt) : AOut :=
  match s.fr.todo with
  | [] => leaveA P s none
  | x :: k => itemA P g s x k

def runA [Summ] (P : Program) (g : Nat) : Nat → ASt → AOut
  | 0, s => .next s
  | n + 1, s => match stepA P g s with
    | .next s => runA P g n s
    | o => o

end
end Go.AM
