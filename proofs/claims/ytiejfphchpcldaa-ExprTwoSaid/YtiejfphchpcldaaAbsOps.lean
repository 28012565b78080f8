/- The abstract operations: what each operation of the model does on abstract values, as a proposition over what comes behind it. -/
import Derived.Test.YtiejfphchpcldaaAbs
namespace Go.Abs

def AV.cellT : AV → Option T
  | .p t => some t
  | .full es => some (.slice es)
  | .own _ es => some (.slice es)
  | .nils => some (.slice [])
  | .nns es => some (.slice es)
  | _ => none

def allT : List AV → Option (List T)
  | [] => some []
  | v :: r => match v.cellT, allT r with
    | some t, some ts => some (t :: ts)
    | _, _ => none

def AV.toT : AV → Option T
  | .agg cs => match allT cs with
    | some ts => some (.agg ts)
    | none => none
  | v => v.cellT

def toTs : List AV → Option (List T)
  | [] => some []
  | v :: r => match v.toT, toTs r with
    | some t, some ts => some (t :: ts)
    | _, _ => none

/-- The same without its objects. -/
def AV.pur : AV → Option AV
  | .tup vs => match toTs vs with
    | some ts => some (.tup (ts.map .p))
    | none => none
  | v => match v.toT with
    | some t => some (.p t)
    | none => none

def AV.cells : AV → List AV
  | .agg cs => cs
  | .p t => t.cells.map .p
  | v => [v]

def AV.elems : AV → Option (List T)
  | .p (.slice es) => some es
  | .full es => some es
  | .own _ es => some es
  | .nils => some []
  | .nns es => some es
  | _ => none

/-- May it be stored? -/
def AV.storable : AV → Bool
  | .top => false
  | .tup _ => false
  | _ => true

/-- The same, its objects by other numbers. -/
def AV.ren1 (φ : Nat → Nat) : AV → AV
  | .own id es => .own (φ id) es
  | .bptr id off => .bptr (φ id) off
  | .mclo f caps => .mclo f (caps.map fun c => (φ c.1, c.2))
  | .msl id ver s off len => .msl (φ id) ver s off len
  | .mptr id ver s i off => .mptr (φ id) ver s i off
  | .agg _ => .top
  | .tup _ => .top
  | v => v

def AV.ren (φ : Nat → Nat) : AV → AV
  | .tup vs => .tup (vs.map (AV.ren1 φ))
  | .agg cs => .agg (cs.map (AV.ren1 φ))
  | v => v.ren1 φ

def Ob.ren (φ : Nat → Nat) : Ob → Ob
  | .box cells => .box (cells.map (AV.ren1 φ))
  | ob => ob

abbrev AV.shift (n : Nat) (v : AV) : AV := v.ren (n + ·)
abbrev Ob.shift (n : Nat) (ob : Ob) : Ob := ob.ren (n + ·)

/- Which objects a value, an object speaks of. -/
def AV.under1 (n : Nat) : AV → Bool
  | .own id _ => decide (id < n)
  | .bptr id _ => decide (id < n)
  | .mclo _ caps => caps.all fun c => decide (c.1 < n)
  | .msl id _ _ _ _ => decide (id < n)
  | .mptr id _ _ _ _ => decide (id < n)
  | .agg _ => false
  | .tup _ => false
  | _ => true

def AV.under (n : Nat) : AV → Bool
  | .agg cs => cs.all (AV.under1 n)
  | .tup cs => cs.all (AV.under1 n)
  | v => v.under1 n

def Ob.below (n : Nat) : Ob → Bool
  | .box cells => cells.all (AV.under1 n)
  | _ => true

/-- Are new rows to be written? -/
def moded : List Ob → Bool
  | .mode :: _ => true
  | _ => false

def ofConst : Value → AV
  | .bool b => .p (.bool b)
  | .int k n => .p (.int k n)
  | .string s => if s.data.toList.length ≤ 1000000 then .p (.str s.data.toList) else .top
  | .slice none 0 0 => .full []
  | .pointer none => .p (.raw (.pointer none))
  | .nilFunc => .p (.raw .nilFunc)
  | .nilIface => .p (.raw .nilIface)
  | .map none => .p (.raw (.map none))
  | _ => .top

def rho (t : List AV) : Operand → AV
  | .tmp i => t.getD i .top
  | .const v => ofConst v
  | .func f => .p (.func f [])
  | .global _ => .top

def RepL (G : Gh) (xs : List AV) (vs : Array Value) : Prop := vs.size = xs.length ∧ ∀ j x, xs[j]? = some x → RepA G x (vs.getD j undef)

def callable (P : Program) (f : FuncId) : Bool :=
  match P.funcs[f]? with
  | some fn => fn.body.isSome && !(fn.name == "runtime.NumGoroutine")
  | none => false

/-- What a function answers: called with what represents args, over objects Hin, it returns what represents r, the objects are Hout, and nothing else has been written. -/
def Fn (P : Program) (f : FuncId) (Hin : List Ob) (args : List AV) (r : AV) (Hout : List Ob) : Prop :=
  callable P f = true ∧ ∀ w G vs, Inv w G Hin → RepL G args vs → Calls P f vs w fun e w' => ∃ v G', e = .returned v ∧ RepA G' r v ∧ Inv w' G' Hout ∧ Move Hin.length w G w' G'

/- Values. -/
def aPick (c a b : AV) (K : AV → Prop) : Prop :=
  match c with
  | .p (.bool x) => cond x (K a) (K b)
  | _ => False

def aNilCheck (x : AV) (K : AV → Prop) : Prop :=
  match x with
  | .bptr _ _ => K x
  | .p (.imm _ _) => K x
  | .p (.func _ _) => K x
  | .mclo _ _ => K x
  | .mptr _ _ _ _ _ => K x
  | _ => False

def intBin (op : BinOp) (k : IntKind) (a b : Int) (K : AV → Prop) : Prop :=
  match op with
  | .add => K (.p (.int k (k.wrap (a + b))))
  | .sub => K (.p (.int k (k.wrap (a - b))))
  | .mul => K (.p (.int k (k.wrap (a * b))))
  | .quo => b ≠ 0 ∧ K (.p (.int k (k.wrap (a.tdiv b))))
  | .rem => b ≠ 0 ∧ K (.p (.int k (a.tmod b)))
  | .and => K (.p (.int k (k.wrap (BitVec.ofInt k.bits a &&& BitVec.ofInt k.bits b).toNat)))
  | .or => K (.p (.int k (k.wrap (BitVec.ofInt k.bits a ||| BitVec.ofInt k.bits b).toNat)))
  | .xor => K (.p (.int k (k.wrap (BitVec.ofInt k.bits a ^^^ BitVec.ofInt k.bits b).toNat)))
  | .andNot => K (.p (.int k (k.wrap (BitVec.ofInt k.bits a &&& ~~~BitVec.ofInt k.bits b).toNat)))
  | .shl => 0 ≤ b ∧ K (.p (.int k (k.wrap (a * 2 ^ (min b.toNat k.bits)))))
  | .shr => 0 ≤ b ∧ K (.p (.int k (a.fdiv (2 ^ (min b.toNat k.bits)))))
  | .eql => K (.p (.bool (a == b)))
  | .neq => K (.p (.bool (a != b)))
  | .lss => K (.p (.bool (decide (a < b))))
  | .leq => K (.p (.bool (decide (a ≤ b))))
  | .gtr => K (.p (.bool (decide (b < a))))
  | .geq => K (.p (.bool (decide (b ≤ a))))

def strBin (op : BinOp) (a b : List UInt8) (K : AV → Prop) : Prop :=
  match op with
  | .add => a.length + b.length ≤ maxLen ∧ K (.p (.str (a ++ b)))
  | .eql => K (.p (.bool (a == b)))
  | .neq => K (.p (.bool (!(a == b))))
  | .lss => K (.p (.bool (Op.bytesLess a b)))
  | .leq => K (.p (.bool (Op.bytesLess a b || a == b)))
  | .gtr => K (.p (.bool (!(Op.bytesLess a b || a == b))))
  | .geq => K (.p (.bool (!Op.bytesLess a b)))
  | _ => False

def isBoolT (P : Program) (t : TypeId) : Bool := match P.underlying t with | some .bool => true | _ => false
def isPtrT (P : Program) (t : TypeId) : Bool := match P.underlying t with | some (.pointer _) => true | _ => false
def isFuncT (P : Program) (t : TypeId) : Bool := match P.underlying t with | some (.func _ _ _) => true | _ => false

/-- bools and nil. -/
def eqBin (isBool isPtr : Bool) (op : BinOp) (x y : AV) (K : AV → Prop) : Prop :=
  match op, x, y with
  | .eql, .p (.bool a), .p (.bool b) => isBool = true ∧ K (.p (.bool (a == b)))
  | .neq, .p (.bool a), .p (.bool b) => isBool = true ∧ K (.p (.bool (!(a == b))))
  | .eql, .p (.raw (.pointer none)), .p (.raw (.pointer none)) => isPtr = true ∧ K (.p (.bool true))
  | .neq, .p (.raw (.pointer none)), .p (.raw (.pointer none)) => isPtr = true ∧ K (.p (.bool false))
  | .eql, .bptr _ _, .p (.raw (.pointer none)) => isPtr = true ∧ K (.p (.bool false))
  | .neq, .bptr _ _, .p (.raw (.pointer none)) => isPtr = true ∧ K (.p (.bool true))
  | .eql, .p (.imm _ _), .p (.raw (.pointer none)) => isPtr = true ∧ K (.p (.bool false))
  | .neq, .p (.imm _ _), .p (.raw (.pointer none)) => isPtr = true ∧ K (.p (.bool true))
  | _, _, _ => False

def isSlT (P : Program) (t : TypeId) : Bool := match P.underlying t with | some (.slice _) => true | _ => false

/-- Is a slice nil? -/
def aNil (isSl : Bool) (op : BinOp) (x : AV) (K : AV → Prop) : Prop :=
  match op, x with
  | .eql, .nils => isSl = true ∧ K (.p (.bool true))
  | .neq, .nils => isSl = true ∧ K (.p (.bool false))
  | .eql, .nns _ => isSl = true ∧ K (.p (.bool false))
  | .neq, .nns _ => isSl = true ∧ K (.p (.bool true))
  | _, _ => False

def isNilC : Operand → Bool
  | .const (.slice none 0 0) => true
  | _ => false

def aBin (isBool isPtr : Bool) (op : BinOp) (x y : AV) (K : AV → Prop) : Prop :=
  match x, y with
  | .p (.int k a), .p (.int k' b) => match op with
    | .shl => intBin .shl k a b K
    | .shr => intBin .shr k a b K
    | op => k = k' ∧ intBin op k a b K
  | .p (.str a), .p (.str b) => strBin op a b K
  | x, y => eqBin isBool isPtr op x y K

def aUn (op : UnOp) (x : AV) (K : AV → Prop) : Prop :=
  match op, x with
  | .neg, .p (.int k n) => K (.p (.int k (k.wrap (0 - n))))
  | .xor, .p (.int k n) => K (.p (.int k (k.wrap (BitVec.ofInt k.bits (if k.signed then -1 else k.max) ^^^ BitVec.ofInt k.bits n).toNat)))
  | .not, .p (.bool b) => K (.p (.bool (!b)))
  | _, _ => False

/-- The bytes of a slice of bytes. -/
def bytesOf : List T → Option (List UInt8)
  | [] => some []
  | .int .u8 n :: r => match bytesOf r with
    | some l => some (UInt8.ofNat n.toNat :: l)
    | none => none
  | _ => none

def byteT (b : UInt8) : T := .int .u8 b.toNat

def aConvInt (k : IntKind) (x : AV) (K : AV → Prop) : Prop :=
  match x with
  | .p (.int _ n) => K (.p (.int k (k.wrap n)))
  | _ => False

def aConvStr (x : AV) (K : AV → Prop) : Prop :=
  match x with
  | .p (.str s) => K (.p (.str s))
  | _ => False

def aBytesStr (x : AV) (K : AV → Prop) : Prop :=
  match x.elems with
  | some es => match bytesOf es with
    | some l => K (.p (.str l))
    | none => False
  | none => False

def aStrBytes (x : AV) (K : AV → Prop) : Prop :=
  match x with
  | .p (.str s) => K (.p (.slice (s.map byteT)))
  | _ => False

def aConv (P : Program) (src dst : TypeId) (x : AV) (K : AV → Prop) : Prop :=
  match P.underlying src, P.underlying dst with
  | some _, some (.int k) => aConvInt k x K
  | some .string, some .string => aConvStr x K
  | some (.slice e), some .string => match P.underlying e with
    | some (.int .u8) => aBytesStr x K
    | _ => False
  | some .string, some (.slice e) => match P.underlying e with
    | some (.int .u8) => aStrBytes x K
    | _ => False
  | _, _ => False

def aFieldAddr (off : Nat) (x : AV) (K : AV → Prop) : Prop :=
  match x with
  | .bptr id o => K (.bptr id (o + off))
  | .p (.imm cs o) => K (.p (.imm cs (o + off)))
  | .mptr id ver s i o => K (.mptr id ver s i (o + off))
  | _ => False

def aField (agg : Bool) (off s : Nat) (x : AV) (K : AV → Prop) : Prop :=
  match x with
  | .agg cs => off + s ≤ cs.length ∧ K (if agg then .agg ((cs.drop off).take s) else cs.getD off .top)
  | .p (.agg cs) => off + s ≤ cs.length ∧ K (.p (if agg then .agg ((cs.drop off).take s) else cs.getD off default))
  | _ => False

def aIndexAddr (s : Nat) (x i : AV) (K : AV → Prop) : Prop :=
  match x, i with
  | .msl id ver s' off len, .p (.int _ n) => s' = s ∧ (0 ≤ n ∧ n < len) ∧ K (.mptr id ver s (off + n.toNat) 0)
  | x, i => match x.elems, i with
    | some es, .p (.int _ n) => (0 ≤ n ∧ n < es.length) ∧ (es.getD n.toNat default).cells.length = s ∧ K (.p (.imm (es.getD n.toNat default).cells 0))
    | _, _ => False

def aIndex (x i : AV) (K : AV → Prop) : Prop :=
  match x, i with
  | .p (.str s), .p (.int _ n) => (0 ≤ n ∧ n < s.length) ∧ K (.p (byteT (s.getD n.toNat 0)))
  | _, _ => False

/-- A bound of a slice expression. -/
def boundK (b : Option AV) (d : Int) (K : Int → Prop) : Prop :=
  match b with
  | none => K d
  | some (.p (.int _ n)) => K n
  | some _ => False

def aSliceStr (s : List UInt8) (lo hi : Option AV) (K : AV → Prop) : Prop :=
  boundK lo 0 fun l => boundK hi s.length fun h => (0 ≤ l ∧ l ≤ h ∧ h ≤ s.length) ∧ K (.p (.str ((s.take h.toNat).drop l.toNat)))

/-- A slice's part that does not begin at its first element: the size of what it begins with. -/
def atSize (s : Nat) (es : List T) (lo : Option AV) (l h : Int) : Prop :=
  match lo with
  | none => True
  | some _ => l < h → (es.getD l.toNat default).cells.length = s

def aSliceSl (s : Nat) (es : List T) (lo hi mx : Option AV) (K : AV → Prop) : Prop :=
  boundK lo 0 fun l => boundK hi es.length fun h => (0 ≤ l ∧ l ≤ h ∧ h ≤ es.length) ∧ atSize s es lo l h ∧
    match mx with
    | none => K (.p (.slice ((es.take h.toNat).drop l.toNat)))
    | some m => hi.isSome = true ∧ boundK (some m) 0 fun m => m = h ∧ K (.full ((es.take h.toNat).drop l.toNat))

/-- A part of a row that is written. -/
def aSliceM (s id ver s' off len : Nat) (lo hi mx : Option AV) (K : AV → Prop) : Prop :=
  boundK lo 0 fun l => boundK hi len fun h => (s' = s ∧ 0 ≤ l ∧ l ≤ h ∧ h ≤ len) ∧
    match mx with
    | none => K (.msl id ver s (off + l.toNat) (h.toNat - l.toNat))
    | some m => hi.isSome = true ∧ boundK (some m) 0 fun m => (m = h ∧ h = l) ∧ K (.full [])

def aSlice (isStr : Bool) (s : Nat) (x : AV) (lo hi mx : Option AV) (K : AV → Prop) : Prop :=
  match isStr with
  | true => match x, mx with
    | .p (.str s), none => aSliceStr s lo hi K
    | _, _ => False
  | false => match x with
    | .msl id ver s' off len => aSliceM s id ver s' off len lo hi mx K
    | x => match x.elems with
      | some es => aSliceSl s es lo hi mx K
      | none => False

def aExtract (x : AV) (i : Nat) (K : AV → Prop) : Prop :=
  match x with
  | .tup vs => i < vs.length ∧ K (vs.getD i .top)
  | _ => False

/-- That a length fits is known of what is there; in a region that draws its order it is asked for. -/
def lenK (draw : Bool) (n : Nat) (K : AV → Prop) : Prop :=
  match draw with
  | true => n ≤ maxLen ∧ K (.p (.int .i64 n))
  | false => n ≤ maxLen → K (.p (.int .i64 n))

def aLen (draw isStr : Bool) (x : AV) (K : AV → Prop) : Prop :=
  match isStr with
  | true => match x with
    | .p (.str s) => lenK draw s.length K
    | _ => False
  | false => match x with
    | .msl _ _ _ _ len => lenK draw len K
    | x => match x.elems with
      | some es => lenK draw es.length K
      | none => False

def put {α : Type} (cells : List α) (off : Nat) (vs : List α) : List α := cells.take off ++ vs ++ cells.drop (off + vs.length)

def aFill : List AV → List (Nat × Nat × AV) → (List AV → Prop) → Prop
  | cells, [], K => K cells
  | cells, (off, s, v) :: r, K => (v.storable = true ∧ v.cells.length = s ∧ off + s ≤ cells.length) ∧ aFill (put cells off v.cells) r K

def aBuild (zero : List AV) (parts : List (Nat × Nat × AV)) (K : AV → Prop) : Prop := aFill zero parts fun cs => K (.agg cs)

def aElems (s : Nat) : List AV → (List T → Prop) → Prop
  | [], K => K []
  | v :: r, K => match v.toT with
    | some t => t.cells.length = s ∧ aElems s r fun ts => K (t :: ts)
    | none => False

def aBuildSlice (s : Nat) (parts : List AV) (K : AV → Prop) : Prop := aElems s parts fun es => K (.full es)

/-- A call whose answer is taken without its objects (in a region that draws its order). -/
def aCallT (P : Program) (fv : AV) (args : List AV) (K : AV → Prop) : Prop :=
  match fv, toTs args with
  | .p (.func f caps), some ts => ∃ r Hn r', Fn P f [] ((ts ++ caps).map .p) r Hn ∧ r.pur = some r' ∧ K r'
  | _, _ => False

/- Operations that look at the heap, or turn it. -/
def aLoad (agg : Bool) (s : Nat) (x : AV) (H : List Ob) (K : AV → Prop) : Prop :=
  match x with
  | .bptr id off => match H[id]? with
    | some (.box cells) => off + s ≤ cells.length ∧ K (if agg then .agg ((cells.drop off).take s) else cells.getD off .top)
    | some (.fz cs) => off + s ≤ cs.length ∧ K (.p (if agg then .agg ((cs.drop off).take s) else cs.getD off default))
    | _ => False
  | .p (.imm cs off) => off + s ≤ cs.length ∧ K (.p (if agg then .agg ((cs.drop off).take s) else cs.getD off default))
  | .mptr id ver s' i off => match H[id]? with
    | some (.mrow v s2 es) => (v = ver ∧ s2 = s' ∧ i < es.length ∧ off + s ≤ s') ∧ K (.p (if agg then .agg (((es.getD i default).cells.drop off).take s) else (es.getD i default).cells.getD off default))
    | some (.frow v s2 es) => (v = ver ∧ s2 = s' ∧ i < es.length ∧ off + s ≤ s') ∧ K (.p (if agg then .agg (((es.getD i default).cells.drop off).take s) else (es.getD i default).cells.getD off default))
    | _ => False
  | _ => False

/-- An element of a row, some of its cells turned. -/
def T.putT (e : T) (off : Nat) (ts : List T) : T :=
  match e with
  | .agg cs => .agg (put cs off ts)
  | e => match ts with
    | [.agg _] => e
    | [t] => t
    | _ => e

def aStore (s : Nat) (x v : AV) (H : List Ob) (K : AV → List Ob → Prop) : Prop :=
  match x with
  | .bptr id off => match H[id]? with
    | some (.box cells) => (v.storable = true ∧ v.cells.length = s ∧ off + s ≤ cells.length) ∧ K .top (H.set id (.box (put cells off v.cells)))
    | _ => False
  | .mptr id ver s' i off => match H[id]? with
    | some (.mrow v2 s2 es) => match allT v.cells with
      | some ts => (v.storable = true ∧ ts.length = s ∧ 0 < s ∧ v2 = ver ∧ s2 = s' ∧ i < es.length ∧ off + s ≤ s') ∧ K .top (H.set id (.mrow ver s' (es.set i ((es.getD i default).putT off ts))))
      | none => False
    | _ => False
  | _ => False

def aAlloc (zero : List AV) (H : List Ob) (K : AV → List Ob → Prop) : Prop := K (.bptr H.length 0) (H ++ [.box zero])

def aBox (v : AV) (H : List Ob) (K : AV → List Ob → Prop) : Prop := v.storable = true ∧ K (.bptr H.length 0) (H ++ [.box v.cells])

def appendable (s eb : Nat) (es ms : List T) : Prop :=
  (∀ e ∈ es, e.cells.length = s) ∧ (∀ e ∈ ms, e.cells.length = s) ∧ (es.length + ms.length) * (eb + 1) ≤ 2 ^ 40

def aAppendTo (s eb : Nat) (x : AV) (ms : List T) (H : List Ob) (K : AV → List Ob → Prop) : Prop :=
  match x with
  | .full es => match moded H with
    | true => (es = [] ∧ appendable s eb [] ms) ∧ K (.msl H.length 0 s 0 ms.length) (H ++ [.mrow 0 s ms])
    | false => appendable s eb es ms ∧ K (.own H.length (es ++ ms)) (H ++ [.row (es.length + ms.length) s])
  | .msl id ver s' 0 len => match H[id]? with
    | some (.mrow v s2 es) => (v = ver ∧ s' = s ∧ s2 = s ∧ len ≤ es.length) ∧ appendable s eb (es.take len) ms ∧ K (.msl id (ver + 1) s 0 (len + ms.length)) (H.set id (.mrow (ver + 1) s (es.take len ++ ms)))
    | _ => False
  | .own id es => match H[id]? with
    | some (.row n s') => (s' = s ∧ n = es.length) ∧ appendable s eb es ms ∧ K (.own id (es ++ ms)) (H.set id (.row (n + ms.length) s))
    | _ => False
  | _ => False

def aAppend (isStr : Bool) (s eb : Nat) (x y : AV) (H : List Ob) (K : AV → List Ob → Prop) : Prop :=
  match isStr with
  | true => match y with
    | .p (.str l) => aAppendTo s eb x (l.map byteT) H K
    | _ => False
  | false => match y with
    | .msl id ver s' off len => match H[id]? with
      | some (.mrow v s2 es) => (v = ver ∧ s2 = s' ∧ off + len ≤ es.length) ∧ aAppendTo s eb x ((es.drop off).take len) H K
      | some (.frow v s2 es) => (v = ver ∧ s2 = s' ∧ off + len ≤ es.length) ∧ aAppendTo s eb x ((es.drop off).take len) H K
      | _ => False
    | y => match y.elems with
      | some ms => aAppendTo s eb x ms H K
      | none => False

/-- Variables that a closure takes with it, and that are still written. -/
def boxes : List AV → Option (List (Nat × Nat))
  | [] => some []
  | .bptr id off :: r => match boxes r with
    | some l => some ((id, off) :: l)
    | none => none
  | _ => none

/-- A variable that a closure takes with it, and that is not written any more. -/
def aFreeze : List AV → List Ob → (List T → List Ob → Prop) → Prop
  | [], H, K => K [] H
  | .bptr id off :: r, H, K => match H[id]? with
    | some (.box cells) => match allT cells with
      | some ts => aFreeze r (H.set id (.fz ts)) fun cs H' => K (.imm ts off :: cs) H'
      | none => False
    | some (.fz ts) => aFreeze r H fun cs H' => K (.imm ts off :: cs) H'
    | _ => False
  | .p (.imm ts off) :: r, H, K => aFreeze r H fun cs H' => K (.imm ts off :: cs) H'
  | _, _, _ => False

def aMakeFunc (f : FuncId) (caps : List AV) (H : List Ob) (K : AV → List Ob → Prop) : Prop :=
  match moded H, boxes caps with
  | true, some (c :: cs) => K (.mclo f (c :: cs)) H
  | _, _ => aFreeze caps H fun cs H' => K (.p (.func f cs)) H'

/-- What a call does: of which function, and what holds behind it. -/
def CallDoes (P : Program) (fv : AV) (args : List AV) (r : AV) (H H' : List Ob) : Prop :=
  ∀ (w : World) (G : Gh) (u : Value) (vs : Array Value), Inv w G H → RepA G fv u → RepL G args vs → ∃ g cs, u = .func (.func g) #[] cs ∧ callable P g = true ∧
    Calls P g (vs ++ cs) w fun e w' => ∃ v G', e = .returned v ∧ RepA G' r v ∧ Inv w' G' H' ∧ Step w G w' G'

def aCall (P : Program) (fv : AV) (args : List AV) (H : List Ob) (K : AV → List Ob → Prop) : Prop := ∃ r H', CallDoes P fv args r H H' ∧ K r H'

/- The operations of the model, by class. -/
inductive Cls where
  | pure | load | alloc | eff
  deriving DecidableEq

def cls (draw : Bool) : Op → Cls
  | .load _ _ => .load
  | .alloc _ => .alloc
  | .store _ _ _ => .eff
  | .box _ _ => .eff
  | .makeFunc _ _ _ => .eff
  | .call { callee := .builtin .append, .. } => .eff
  | .call { callee := .value _, .. } => if draw then .pure else .eff
  | _ => .pure

def aggD : TypeDesc → Bool
  | .struct _ => true
  | .array _ _ => true
  | _ => false

def zeroCells (P : Program) (t : TypeId) (K : List AV → Prop) : Prop :=
  match P.info? t with
  | some i => match i.zero with
    | some v => match v.cells.toList.all scalar with
      | true => K (v.cells.toList.map ofConst)
      | false => False
    | none => False
  | none => False

/-- Has a type a zero value of its size? -/
def zeroOk (i : TypeInfo) : Bool :=
  match i.zero with
  | some v => v.cells.size == i.size
  | none => false

/-- Where the fields of a struct lie, and of how many cells they are. -/
def fieldPlaces (P : Program) (fs : Array Field) : Option (List (Nat × Nat)) := fs.toList.mapM (fun f => (P.info? f.type).map fun i => (f.offset, i.size))

/-- Where the parts of a struct lie: 'none' if there is no such field. -/
def places (ρ : Operand → AV) (pls : List (Nat × Nat)) : List (Nat × Operand) → Option (List (Nat × Nat × AV))
  | [] => some []
  | (i, x) :: r => match pls[i]?, places ρ pls r with
    | some f, some l => some ((f.1, f.2, ρ x) :: l)
    | _, _ => none

/-- Are the parts of a slice all of them, in order? -/
def inOrder : Nat → List (Nat × Operand) → Bool
  | _, [] => true
  | k, (i, _) :: r => i == k && inOrder (k + 1) r

def aP (P : Program) (draw : Bool) (ρ : Operand → AV) (op : Op) (K : AV → Prop) : Prop :=
  match op with
  | .move x => K (ρ x)
  | .assign x => K (ρ x)
  | .pick c a b => aPick (ρ c) (ρ a) (ρ b) K
  | .nilCheck x => aNilCheck (ρ x) K
  | .binOp op t x y _ => match isNilC y with
    | true => aNil (isSlT P t) op (ρ x) K
    | false => aBin (isBoolT P t) (isPtrT P t) op (ρ x) (ρ y) K
  | .unOp op _ x => aUn op (ρ x) K
  | .convert src dst x => aConv P src dst (ρ x) K
  | .build t parts => match P.underlying t with
    | some (.struct fs) => match fieldPlaces P fs with
      | some pls => match places ρ pls parts.toList with
        | some l => zeroCells P t fun z => aBuild z l K
        | none => False
      | none => False
    | _ => False
  | .buildSlice t n parts => match P.underlying t with
    | some (.slice e) => match P.info? e with
      | some i => match inOrder 0 parts.toList && parts.toList.length == n && decide (n * i.size ≤ 2 ^ 24) && decide (n ≤ 2 ^ 24) && i.zero.isSome with
        | true => aBuildSlice i.size (parts.toList.map fun x => ρ x.2) K
        | false => False
      | none => False
    | _ => False
  | .fieldAddr s x f => match P.underlying s with
    | some (.struct fs) => match fs[f]? with
      | some fl => match P.info? fl.type with
        | some i => match i.size == 0 with
          | true => False
          | false => aFieldAddr fl.offset (ρ x) K
        | none => False
      | none => False
    | _ => False
  | .field s x f => match P.underlying s with
    | some (.struct fs) => match fs[f]? with
      | some fl => match P.info? fl.type, P.underlying fl.type with
        | some i, some d => match aggD d || i.size == 1 with
          | true => aField (aggD d) fl.offset i.size (ρ x) K
          | false => False
        | _, _ => False
      | none => False
    | _ => False
  | .indexAddr t x i => match P.underlying t with
    | some (.slice e) => match P.info? e with
      | some j => aIndexAddr j.size (ρ x) (ρ i) K
      | none => False
    | _ => False
  | .index t x i => match P.underlying t with
    | some .string => aIndex (ρ x) (ρ i) K
    | _ => False
  | .slice t x lo hi mx => match P.underlying t with
    | some .string => aSlice true 0 (ρ x) (lo.map ρ) (hi.map ρ) (mx.map ρ) K
    | some (.slice e) => match P.info? e with
      | some i => aSlice false i.size (ρ x) (lo.map ρ) (hi.map ρ) (mx.map ρ) K
      | none => False
    | _ => False
  | .extract x i => aExtract (ρ x) i K
  | .call { callee := .builtin .len, args, argTypes } => match args.toList, argTypes.toList with
    | [x], [t] => match P.underlying t with
      | some .string => aLen draw true (ρ x) K
      | some (.slice _) => aLen draw false (ρ x) K
      | _ => False
    | _, _ => False
  | .call { callee := .value f, args, .. } => aCallT P (ρ f) (args.toList.map ρ) K
  | _ => False

def aL (P : Program) (ρ : Operand → AV) (op : Op) (H : List Ob) (K : AV → Prop) : Prop :=
  match op with
  | .load t x => match P.underlying t, P.info? t with
    | some d, some i => match aggD d || i.size == 1 with
      | true => aLoad (aggD d) i.size (ρ x) H K
      | false => False
    | _, _ => False
  | _ => False

def aA (P : Program) (op : Op) (K : List AV → Prop) : Prop :=
  match op with
  | .alloc t => zeroCells P t K
  | _ => False

def aE (P : Program) (ρ : Operand → AV) (op : Op) (H : List Ob) (K : AV → List Ob → Prop) : Prop :=
  match op with
  | .store t x v => match P.info? t with
    | some i => aStore i.size (ρ x) (ρ v) H K
    | none => False
  | .box _ x => aBox (ρ x) H K
  | .makeFunc fn first caps => match fn, first.toList with
    | .func f, [] => aMakeFunc f (caps.toList.map ρ) H K
    | _, _ => False
  | .call { callee := .builtin .append, args, argTypes } => match args.toList, argTypes.toList with
    | [x, y], [t, u] => match P.underlying t, P.underlying u with
      | some (.slice e), some (.slice _) => match P.info? e with
        | some i => match zeroOk i && decide (i.bytes ≤ 2 ^ 20) with
          | true => aAppend false i.size i.bytes (ρ x) (ρ y) H K
          | false => False
        | none => False
      | some (.slice e), some .string => match P.info? e with
        | some i => match zeroOk i && i.size == 1 && decide (i.bytes ≤ 2 ^ 20) with
          | true => aAppend true i.size i.bytes (ρ x) (ρ y) H K
          | false => False
        | none => False
      | _, _ => False
    | _, _ => False
  | .call { callee := .value f, args, .. } => aCall P (ρ f) (args.toList.map ρ) H K
  | _ => False

def AV.wild : AV → Bool
  | .msl _ _ _ _ _ => true
  | _ => false

/-- In a region that draws its order rows that are written are not appended. -/
def aCalm (l : List AV) (K : Prop) : Prop :=
  match l.any AV.wild with
  | true => False
  | false => K

def aEd (draw : Bool) (ρ : Operand → AV) (op : Op) (K : Prop) : Prop :=
  match draw with
  | true => match op with
    | .call { callee := .builtin .append, args, .. } => aCalm (args.toList.map ρ) K
    | _ => K
  | false => K

/-- What a load may look at. -/
def sees (x : AV) (id : Nat) : Prop := (∃ off, x = .bptr id off) ∨ ∃ v s i o, x = .mptr id v s i o

/-- An operation, in the order of the text. -/
def aOp (P : Program) (draw : Bool) (ρ : Operand → AV) (op : Op) (H : List Ob) (K : AV → List Ob → Prop) : Prop :=
  match cls draw op with
  | .pure => aP P draw ρ op fun v => K v H
  | .load => aL P ρ op H fun v => K v H
  | .alloc => aA P op fun z => aAlloc z H K
  | .eff => aEd draw ρ op (aE P ρ op H K)

end Go.Abs
