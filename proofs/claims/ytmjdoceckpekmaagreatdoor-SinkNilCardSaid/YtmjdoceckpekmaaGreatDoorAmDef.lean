import GoSem.Step
import Derived.KernelRfl
set_option linter.unusedSimpArgs false
set_option linter.unusedVariables false
namespace Go.Am

/-- A map from numbers, as a tree of their binary digits. -/
inductive T (α : Type) where
  | e : T α
  | n : Option α → T α → T α → T α

def T.get {α : Type} : T α → Nat → Option α
  | .e, _ => none
  | .n v l r, k => match k with
    | 0 => v
    | k + 1 => match k % 2 with
      | 0 => l.get (k / 2)
      | _ => r.get (k / 2)

def T.one {α : Type} (v : α) : Nat → Nat → T α
  | 0, _ => .e
  | d + 1, k => match k with
    | 0 => .n (some v) .e .e
    | k + 1 => match k % 2 with
      | 0 => .n none (T.one v d (k / 2)) .e
      | _ => .n none .e (T.one v d (k / 2))

def T.set {α : Type} (v : α) : Nat → T α → Nat → T α
  | 0, t, _ => t
  | d + 1, .e, k => T.one v (d + 1) k
  | d + 1, .n u l r, k => match k with
    | 0 => .n (some v) l r
    | k + 1 => match k % 2 with
      | 0 => .n u (T.set v d l (k / 2)) r
      | _ => .n u l (T.set v d r (k / 2))

def T.put {α : Type} (t : T α) (k : Nat) (v : α) : T α := T.set v (k + 1) t k

def T.ofList {α : Type} : List α → Nat → T α → T α
  | [], _, t => t
  | v :: l, k, t => T.ofList l (k + 1) (t.put k v)

def nth {α : Type} : List α → Nat → Option α
  | [], _ => none
  | x :: l, n => match n with
    | 0 => some x
    | n + 1 => nth l n

abbrev Tm := T Value

structure ALoop where
  state : LoopState
  pending : Option Code
  fn : FuncId
  n : Nat
  tmps : Tm
  params : Array Tmp
  assign : Code
  body : Code
  defers : Nat

inductive AObj where
  | cells (size : Nat) (c : T Value)
  | con (size : Nat) (c : T Value)
  | map (es : List (Value × Value)) (bs : List Nat) (clock : Nat)
  | iter (m : Option Nat) (since : Nat) (seen : List Nat) (last : Nat)
  | loop (l : ALoop)
  | deferred (calls : Option (List Deferred))
  | dead

structure Hp where
  t : T AObj
  next : Nat

def Hp.get : Hp → Nat → Option AObj
  | ⟨t, _⟩, b => t.get b
def Hp.put : Hp → Nat → AObj → Hp
  | ⟨t, n⟩, b, o => ⟨t.put b o, n⟩
def Hp.new : Hp → AObj → Hp
  | ⟨t, n⟩, o => ⟨t.put n o, n + 1⟩

def Sem.pureRun {α : Type} (P : Program) : Sem α → Option α
  | .pure a => some a
  | .program k => Sem.pureRun P (k P)
  | _ => none

mutual
/-- A value in which no address stands. -/
def plain : Value → Bool
  | .bool _ | .int _ _ | .string _ | .nilIface | .nilFunc | .pointer none | .map none => true
  | .slice none 0 0 => true
  | .func (.func _) a b => plainA a && plainA b
  | .iface _ v => plain v
  | .agg cs => plainA cs
  | .tuple cs => plainA cs
  | _ => false
def plainA : Array Value → Bool
  | ⟨l⟩ => plainL l
def plainL : List Value → Bool
  | [] => true
  | v :: l => plain v && plainL l
end

/-- What is reckoned without memory. -/
def pureV (P : Program) (s : Sem Value) : Option Value :=
  match Sem.pureRun P s with
  | some v => match plain v with
    | true => some v
    | false => none
  | none => none

abbrev Native := List Value → Hp → Option (Value × Hp)

/-- What a program's tables say, in trees; what is answered without a walk. -/
structure Env where
  P : Program
  fn : Nat → Option Func
  und : Nat → Option TypeDesc
  siz : Nat → Option Nat
  zer : Nat → Option Value
  byt : Nat → Option Nat
  glob : Nat
  nat : Nat → Option Native
  ext : Nat → Option Native

def ev (E : Env) (a : Tm) : Operand → Option Value
  | .tmp t => a.get t
  | .const v => match plain v with
    | true => some v
    | false => none
  | .global g => match Nat.blt g E.glob with
    | true => some (.pointer (some ⟨g, 0, none⟩))
    | false => none
  | .func f => some (.func (.func f) #[] #[])

def evs (E : Env) (a : Tm) : List Operand → Option (List Value)
  | [] => some []
  | x :: l => match ev E a x with
    | some v => match evs E a l with
      | some r => some (v :: r)
      | none => none
    | none => none

def evParts (E : Env) (a : Tm) : List (Nat × Operand) → Option (List (Nat × Value))
  | [] => some []
  | (i, x) :: l => match ev E a x with
    | some v => match evParts E a l with
      | some r => some ((i, v) :: r)
      | none => none
    | none => none

def evO (E : Env) (a : Tm) : Option Operand → Option (Option Value)
  | none => some none
  | some x => match ev E a x with
    | some v => some (some v)
    | none => none

def aggT (E : Env) (t : TypeId) : Option Bool :=
  match E.und t with
  | some (.struct _) | some (.array _ _) => some true
  | some _ => some false
  | none => none

def apart (E : Env) (t : TypeId) (cs : List Value) (off : Nat) : Option Value :=
  match aggT E t with
  | some true => match E.siz t with
    | some n => some (.agg ⟨(cs.drop off).take n⟩)
    | none => none
  | some false => nth cs off
  | none => none

def readN (c : T Value) : Nat → Nat → Option (List Value)
  | _, 0 => some []
  | off, n + 1 => match c.get off with
    | some v => match readN c (off + 1) n with
      | some l => some (v :: l)
      | none => none
    | none => none

def writeN (c : T Value) : Nat → List Value → T Value
  | _, [] => c
  | off, v :: l => writeN (c.put off v) (off + 1) l

/-- n cells of a block, from a place on. -/
def loadN (S : Hp) (b off n : Nat) : Option (List Value) :=
  match S.get b with
  | some (.cells size c) | some (.con size c) => match Nat.ble (off + n) size with
    | true => readN c off n
    | false => none
  | _ => none

def load1 (S : Hp) (b off : Nat) : Option Value :=
  match S.get b with
  | some (.cells size c) | some (.con size c) => match Nat.blt off size with
    | true => c.get off
    | false => none
  | _ => none

def loadV (E : Env) (S : Hp) (t : TypeId) (b off : Nat) : Option Value :=
  match aggT E t with
  | some true => match E.siz t with
    | some n => match loadN S b off n with
      | some l => some (.agg ⟨l⟩)
      | none => none
    | none => none
  | some false => load1 S b off
  | none => none

def oneCell : Value → Bool
  | .agg _ | .tuple _ => false
  | _ => true

def allOne : List Value → Bool
  | [] => true
  | v :: l => match oneCell v with
    | true => allOne l
    | false => false

def cellsL : Value → List Value
  | .agg ⟨l⟩ => l
  | v => [v]

def storeN (S : Hp) (b off : Nat) (l : List Value) : Option Hp :=
  match S.get b with
  | some (.cells size c) => match Nat.ble (off + l.length) size && allOne l with
    | true => some (S.put b (.cells size (writeN c off l)))
    | false => none
  | _ => none

def storeV (E : Env) (S : Hp) (t : TypeId) (b off : Nat) (v : Value) : Option Hp :=
  match E.siz t with
  | some n => match Nat.beq (cellsL v).length n with
    | true => storeN S b off (cellsL v)
    | false => none
  | none => none

def fillA (place : Nat → Option (Nat × Nat)) (cells : List Value) : List (Nat × Value) → Option (List Value)
  | [] => some cells
  | (i, v) :: rest =>
    match place i with
    | none => none
    | some (off, size) =>
      match Nat.beq (cellsL v).length size && Nat.ble (off + size) cells.length with
      | true => fillA place (cells.take off ++ cellsL v ++ cells.drop (off + size)) rest
      | false => none

def zerosA (z : List Value) : Nat → List Value
  | 0 => []
  | n + 1 => z ++ zerosA z n

def bytesOf : List Value → Option (List UInt8)
  | [] => some []
  | .int .u8 (.ofNat n) :: l => match bytesOf l with
    | some r => some (UInt8.ofNat n :: r)
    | none => none
  | _ => none

def byteCells : List UInt8 → List Value
  | [] => []
  | b :: l => .int .u8 (.ofNat b.toNat) :: byteCells l

def bound (x : Value) (y : Nat) : Option Nat :=
  match x with
  | .int _ (.ofNat n) => match Nat.ble n y with
    | true => some n
    | false => none
  | _ => none

def bounds (len cap : Nat) (low high max : Option Value) : Option (Nat × Nat × Nat) :=
  match (match max with
    | some v => bound v cap
    | none => some cap) with
  | none => none
  | some m => match (match high, max with
      | some v, _ => bound v m
      | none, none => some len
      | none, some _ => none) with
    | none => none
    | some h => match (match low with
        | some v => bound v h
        | none => some 0) with
      | none => none
      | some l => some (l, h, m)

def bytesEq : List UInt8 → List UInt8 → Bool
  | [], [] => true
  | a :: l, b :: m => match Nat.beq a.toNat b.toNat with
    | true => bytesEq l m
    | false => false
  | _, _ => false

def intEq : Int → Int → Bool
  | .ofNat a, .ofNat b => Nat.beq a b
  | .negSucc a, .negSucc b => Nat.beq a b
  | _, _ => false

def sameNowB (d : TypeDesc) (a b : Value) : Option Bool :=
  match d, a, b with
  | .int _, .int .i64 x, .int .i64 y => some (intEq x y)
  | .string, .string ⟨⟨x⟩⟩, .string ⟨⟨y⟩⟩ => some (bytesEq x y)
  | _, _, _ => none

def findIn (d : TypeDesc) (k : Value) : List (Value × Value) → Nat → Option (Option (Nat × Value))
  | [], _ => some none
  | (k', v) :: l, i => match sameNowB d k k' with
    | some true => some (some (i, v))
    | some false => findIn d k l (i + 1)
    | none => none

/-- Where a key stands in a map whose type is t; its elements' type. -/
def findA (E : Env) (t : TypeId) (k : Value) (es : List (Value × Value)) : Option (Option (Nat × Value) × TypeId) :=
  match E.und t with
  | some (.map key elem) => match E.und key, k with
    | some (.int q), .int .i64 _ => match findIn (.int q) k es 0 with
      | some r => some (r, elem)
      | none => none
    | some .string, .string _ => match findIn .string k es 0 with
      | some r => some (r, elem)
      | none => none
    | _, _ => none
  | _ => none

/-- The wrap of what is small already. -/
def wrapA (k : IntKind) (n : Int) : Int :=
  match k, n with
  | .i64, .ofNat m => match Nat.blt m 9223372036854775808 with
    | true => n
    | false => k.wrap n
  | .u32, .ofNat m => match Nat.blt m 4294967296 with
    | true => n
    | false => k.wrap n
  | .u64, .ofNat m => match Nat.blt m 18446744073709551616 with
    | true => n
    | false => k.wrap n
  | .u8, .ofNat m => match Nat.blt m 256 with
    | true => n
    | false => k.wrap n
  | _, _ => k.wrap n

def intLt : Int → Int → Bool
  | .ofNat a, .ofNat b => Nat.blt a b
  | .ofNat _, .negSucc _ => false
  | .negSucc _, .ofNat _ => true
  | .negSucc a, .negSucc b => Nat.blt b a

def intBin (P : Program) (op : BinOp) (k : IntKind) (a b : Int) : Option Value :=
  match op with
  | .eql => some (.bool (intEq a b))
  | .neq => some (.bool (!intEq a b))
  | .lss => some (.bool (intLt a b))
  | .leq => some (.bool (!intLt b a))
  | .gtr => some (.bool (intLt b a))
  | .geq => some (.bool (!intLt a b))
  | .add => some (.int k (wrapA k (a + b)))
  | .sub => some (.int k (wrapA k (a - b)))
  | .mul => some (.int k (wrapA k (a * b)))
  | op => pureV P (binOp op 0 (.int k a) (.int k b))

def nilEq (E : Env) (op : BinOp) (t : TypeId) (x y : Value) : Option Value :=
  match (match E.und t, x, y with
    | some (.pointer _), .pointer (some _), .pointer none | some (.pointer _), .pointer none, .pointer (some _) | some (.map _ _), .map (some _), .map none | some (.slice _), .slice (some _) _ _, .slice none _ _ | some (.func _ _ _), .func _ _ _, .nilFunc | some (.interface _), .iface _ _, .nilIface | some (.interface _), .nilIface, .iface _ _ => true
    | _, _, _ => false) with
  | true => match op with
    | .eql => some (.bool false)
    | .neq => some (.bool true)
    | _ => none
  | false => none

def kindEq : IntKind → IntKind → Bool
  | .i8, .i8 | .i16, .i16 | .i32, .i32 | .i64, .i64 | .u8, .u8 | .u16, .u16 | .u32, .u32 | .u64, .u64 => true
  | _, _ => false

def binA (E : Env) (op : BinOp) (t : TypeId) (x y : Operand) (u v : Value) : Option Value :=
  match u, v with
  | .int k a, .int l b => match op with
    | .shl | .shr => pureV E.P (binOp op t u v)
    | op => match kindEq k l with
      | true => intBin E.P op k a b
      | false => none
  | .string ⟨⟨a⟩⟩, .string ⟨⟨b⟩⟩ => match op with
    | .eql => some (.bool (bytesEq a b))
    | .neq => some (.bool (!bytesEq a b))
    | .add => match Nat.ble (a.length + b.length) 1000000000 with
      | true => some (.string ⟨⟨a ++ b⟩⟩)
      | false => none
    | .lss => some (.bool (Op.bytesLess a b))
    | .geq => some (.bool (!Op.bytesLess a b))
    | _ => none
  | .bool a, .bool b => match E.und t, op with
    | some .bool, .eql => some (.bool (a == b))
    | some .bool, .neq => some (.bool (!(a == b)))
    | _, _ => none
  | u, v => match nilEq E op t u v with
    | some r => some r
    | none => match plain u && plain v with
      | true => pureV E.P (do eqGuard op t x y u v; binOp op t u v)
      | false => none

def addA (p : Nat) (s : Nat) (n : Nat) : Option Value := some (.pointer (some ⟨p, s + n, none⟩))

def sliceRow (s : Nat) (q : Addr) (len cap : Nat) (lo hi mx : Option Value) : Option Value :=
  match q.spot with
  | none => match Nat.ble len cap, bounds len cap lo hi mx with
    | true, some (l, h, m) => some (.slice (some ⟨q.block, (match Nat.beq m l with
        | true => q.off
        | false => q.off + l * s), none⟩) (h - l) (m - l))
    | _, _ => none
  | some 0 => match Nat.beq cap s, mx with -- 'cap' is an element's cells
    | true, none => match bounds len len lo hi none with
      | some (l, h, _) => match Nat.blt l h with
        | true => some (.slice (some ⟨q.block, q.off + l * s, some 0⟩) (h - l) s)
        | false => match l with
          | 0 => some (.slice (some q) 0 s)
          | _ + 1 => some (.slice (some ⟨q.block, 0, some 1⟩) 0 0)
      | none => none
    | true, some _ => match bounds len len lo hi mx with
      | some (l, h, m) => some (.slice (some ⟨q.block, (match Nat.beq m l with
        | true => q.off
        | false => q.off + l * s), none⟩) (h - l) (m - l))
      | none => none
    | false, _ => none
  | some _ => match lo, hi, mx with
    | some (.int _ (.ofNat 0)), none, none | none, some (.int _ (.ofNat 0)), none | some (.int _ (.ofNat 0)), some (.int _ (.ofNat 0)), none | none, none, none => some (.slice (some q) 0 0)
    | _, _, _ => none

def sliceArr (s n : Nat) (p : Addr) (lo hi mx : Option Value) : Option Value :=
  match p.spot with
  | some _ => none
  | none => match bounds n n lo hi mx with
    | some (l, h, m) => some (.slice (some ⟨p.block, (match Nat.beq m l with
        | true => p.off
        | false => p.off + l * s), none⟩) (h - l) (m - l))
    | none => none

def sliceA (E : Env) (t : TypeId) (x : Value) (lo hi mx : Option Value) : Option Value :=
  match E.und t, x with
  | some .string, .string ⟨⟨s⟩⟩ => match mx with
    | some _ => none
    | none => match bounds s.length s.length lo hi none with
      | some (l, h, _) => some (.string ⟨⟨(s.take h).drop l⟩⟩)
      | none => none
  | some (.slice elem), .slice p len cap => match E.siz elem with
    | some s => match p with
      | none => match Nat.ble len cap, bounds len cap lo hi mx with
        | true, some (l, h, m) => some (.slice none (h - l) (m - l))
        | _, _ => none
      | some q => sliceRow s q len cap lo hi mx
    | none => none
  | some (.array n elem), .pointer (some p) => match E.siz elem with
    | some s => sliceArr s n p lo hi mx
    | none => none
  | some (.pointer arr), .pointer (some p) => match E.und arr with
    | some (.array n elem) => match E.siz elem with
      | some s => sliceArr s n p lo hi mx
      | none => none
    | _ => none
  | _, _ => none

def mapOf (S : Hp) : Value → Option (List (Value × Value))
  | .map none => some []
  | .map (some r) => match S.get r with
    | some (.map es _ _) => some es
    | _ => none
  | _ => none

/-- 'v', or 'v, ok'. -/
def okTuple (ok : Bool) (v : Value) (b : Bool) : Value :=
  match ok with
  | true => .tuple #[v, .bool b]
  | false => v

def lookupA (E : Env) (S : Hp) (t : TypeId) (x k : Value) (ok : Bool) : Option Value :=
  match mapOf S x with
  | some es => match findA E t k es with
    | some (some (_, v), _) => some (okTuple ok v true)
    | some (none, elem) => match E.zer elem with
      | some z => some (okTuple ok z false)
      | none => none
    | none => none
  | none => none

def lenA (E : Env) (S : Hp) (t : TypeId) (x : Value) : Option Value :=
  match E.und t, x with
  | some .string, .string ⟨⟨s⟩⟩ => some (.int .i64 (.ofNat s.length))
  | some (.slice _), .slice _ n _ => some (.int .i64 (.ofNat n))
  | some (.array n _), _ => some (.int .i64 (.ofNat n))
  | some (.map _ _), x => match mapOf S x with
    | some es => some (.int .i64 (.ofNat es.length))
    | none => none
  | _, _ => none

def convA (E : Env) (S : Hp) (s d : TypeId) (x : Value) : Option Value :=
  match E.und s, E.und d, x with
  | some _, some (.int k), .int _ n => some (.int k (wrapA k n))
  | some _, some .string, .string b => some (.string b)
  | some _, some .string, .int k n => pureV E.P (convert s d (.int k n))
  | some (.slice e), some .string, .slice p n _ => match E.und e with
    | some (.int .u8) => match p with
      | none => some (.string ⟨⟨[]⟩⟩)
      | some q => match n with
        | 0 => some (.string ⟨⟨[]⟩⟩)
        | _ => match loadN S q.block q.off n with
          | some l => match bytesOf l with
            | some r => some (.string ⟨⟨r⟩⟩)
            | none => none
          | none => none
    | _ => none
  | _, _, _ => none

def buildA (E : Env) (t : TypeId) (parts : List (Nat × Value)) : Option Value :=
  match E.und t, E.zer t with
  | some (.struct fields), some z => match fillA (fun i => match nth fields.toList i with
        | some f => match E.siz f.type with
          | some s => some (f.offset, s)
          | none => none
        | none => none) (cellsL z) parts with
    | some l => some (.agg ⟨l⟩)
    | none => none
  | some (.array _ elem), some z => match E.siz elem with
    | some s => match fillA (fun i => some (i * s, s)) (cellsL z) parts with
      | some l => some (.agg ⟨l⟩)
      | none => none
    | none => none
  | _, _ => none

def indexAddrA (E : Env) (t : TypeId) (x i : Value) : Option Value :=
  match i with
  | .int _ (.ofNat n) => match E.und t, x with
    | some (.array len elem), .pointer (some p) => match p.spot, Nat.blt n len, E.siz elem with
      | none, true, some s => addA p.block p.off (n * s)
      | _, _, _ => none
    | some (.slice elem), .slice (some p) len _ => match Nat.blt n len, E.siz elem with
      | true, some s => addA p.block p.off (n * s)
      | _, _ => none
    | _, _ => none
  | _ => none

def indexA (E : Env) (t : TypeId) (x i : Value) : Option Value :=
  match i with
  | .int _ (.ofNat n) => match E.und t, x with
    | some (.array len elem), .agg ⟨cs⟩ => match Nat.blt n len, E.siz elem with
      | true, some s => apart E elem cs (n * s)
      | _, _ => none
    | some .string, .string ⟨⟨s⟩⟩ => match nth s n with
      | some b => some (.int .u8 (.ofNat b.toNat))
      | none => none
    | _, _ => none
  | _ => none

def lPick (E : Env) (S : Hp) (a : Tm) (c x y : Operand) : Option Value := match ev E a c with
    | some (.bool true) => ev E a x
    | some (.bool false) => ev E a y
    | _ => none

def lNilCheck (E : Env) (S : Hp) (a : Tm) (x : Operand) : Option Value := match ev E a x with
    | some (.pointer (some p)) => some (.pointer (some p))
    | some (.func (.func f) x y) => some (.func (.func f) x y)
    | some (.func (.yield f) x y) => some (.func (.yield f) x y)
    | some (.iface t v) => some (.iface t v)
    | _ => none

def lBinOp (E : Env) (S : Hp) (a : Tm) (op : BinOp) (t : TypeId) (x y : Operand) : Option Value := match ev E a x, ev E a y with
    | some u, some v => binA E op t x y u v
    | _, _ => none

def lUnOp (E : Env) (S : Hp) (a : Tm) (op : UnOp) (x : Operand) : Option Value := match op, ev E a x with
    | .not, some (.bool b) => some (.bool (!b))
    | op, some u => match plain u with
      | true => pureV E.P (Op.unary op u)
      | false => none
    | _, none => none

def lConvert (E : Env) (S : Hp) (a : Tm) (s d : TypeId) (x : Operand) : Option Value := match ev E a x with
    | some v => convA E S s d v
    | none => none

def lMakeInterface (E : Env) (S : Hp) (a : Tm) (t : TypeId) (x : Operand) : Option Value := match E.und t, ev E a x with
    | some (.interface _), _ => none
    | some _, some v => some (.iface t v)
    | _, _ => none

def lMakeFunc (E : Env) (S : Hp) (a : Tm) (fn : Fn) (first captured : Array Operand) : Option Value := match evs E a first.toList, evs E a captured.toList with
    | some l, some m => match fn with
      | .func f => some (.func (.func f) ⟨l⟩ ⟨m⟩)
      | _ => none
    | _, _ => none

def lFieldAddr (E : Env) (S : Hp) (a : Tm) (s : TypeId) (x : Operand) (f : Nat) : Option Value := match E.und s, ev E a x with
    | some (.struct fields), some (.pointer (some p)) => match nth fields.toList f, p.spot with
      | some fl, none => match E.siz fl.type with
        | some (_ + 1) => addA p.block p.off fl.offset
        | _ => none
      | _, _ => none
    | _, _ => none

def lField (E : Env) (S : Hp) (a : Tm) (t : TypeId) (x : Operand) (f : Nat) : Option Value := match E.und t, ev E a x with
    | some (.struct fields), some (.agg ⟨cs⟩) => match nth fields.toList f with
      | some fl => apart E fl.type cs fl.offset
      | none => none
    | _, _ => none

def lIndexAddr (E : Env) (S : Hp) (a : Tm) (t : TypeId) (x i : Operand) : Option Value := match ev E a x, ev E a i with
    | some x, some i => indexAddrA E t x i
    | _, _ => none

def lIndex (E : Env) (S : Hp) (a : Tm) (t : TypeId) (x i : Operand) : Option Value := match ev E a x, ev E a i with
    | some x, some i => indexA E t x i
    | _, _ => none

def lLoad (E : Env) (S : Hp) (a : Tm) (t : TypeId) (x : Operand) : Option Value := match ev E a x with
    | some (.pointer (some p)) => match p.spot with
      | none => loadV E S t p.block p.off
      | some _ => none
    | _ => none

def lExtract (E : Env) (S : Hp) (a : Tm) (x : Operand) (i : Nat) : Option Value := match ev E a x with
    | some (.tuple ⟨vs⟩) => nth vs i
    | _ => none

def lBuild (E : Env) (S : Hp) (a : Tm) (t : TypeId) (parts : Array (Nat × Operand)) : Option Value := match evParts E a parts.toList with
    | some l => buildA E t l
    | none => none

def lSlice (E : Env) (S : Hp) (a : Tm) (t : TypeId) (x : Operand) (lo hi mx : Option Operand) : Option Value := match ev E a x, evO E a lo, evO E a hi, evO E a mx with
    | some v, some l, some h, some m => sliceA E t v l h m
    | _, _, _, _ => none

def lLookup (E : Env) (S : Hp) (a : Tm) (t : TypeId) (x k : Operand) (ok : Bool) : Option Value := match ev E a x, ev E a k with
    | some x, some k => lookupA E S t x k ok
    | _, _ => none

def lTypeAssert (E : Env) (S : Hp) (a : Tm) (x : Operand) (t : TypeId) (ok : Bool) : Option Value := match E.und t, ev E a x with
    | some (.interface _), _ => none
    | some _, some (.iface u v) => match Nat.beq u t with
      | true => some (okTuple ok v true)
      | false => none
    | _, _ => none

def lCall (E : Env) (S : Hp) (a : Tm) (o : Oper) (c : Call) : Option Value := match c.callee with
    | .builtin .len => match nth c.argTypes.toList 0, evs E a c.args.toList with
      | some t, some [x] => lenA E S t x
      | _, _ => none
    | .builtin .max => match evs E a c.args.toList with
      | some l => match plainL l with
        | true => pureV E.P (Builtin.max_ c.argTypes o.type ⟨l⟩)
        | false => none
      | none => none
    | .builtin .min => match evs E a c.args.toList with
      | some l => match plainL l with
        | true => pureV E.P (Builtin.min_ c.argTypes o.type ⟨l⟩)
        | false => none
      | none => none
    | _ => none

/-- What an operation yields that makes and writes nothing. -/
def light (E : Env) (S : Hp) (a : Tm) (o : Oper) : Option Value :=
  match o.op with
  | .move x | .assign x => ev E a x
  | .pick c x y => lPick E S a c x y
  | .nilCheck x => lNilCheck E S a x
  | .binOp op t x y _ => lBinOp E S a op t x y
  | .unOp op _ x => lUnOp E S a op x
  | .convert s d x => lConvert E S a s d x
  | .makeInterface t x => lMakeInterface E S a t x
  | .makeFunc fn first captured => lMakeFunc E S a fn first captured
  | .fieldAddr s x f => lFieldAddr E S a s x f
  | .field t x f => lField E S a t x f
  | .indexAddr t x i => lIndexAddr E S a t x i
  | .index t x i => lIndex E S a t x i
  | .load t x => lLoad E S a t x
  | .extract x i => lExtract E S a x i
  | .build t parts => lBuild E S a t parts
  | .slice t x lo hi mx => lSlice E S a t x lo hi mx
  | .lookup t x k ok => lLookup E S a t x k ok
  | .typeAssert x _ t ok => lTypeAssert E S a x t ok
  | .call c => lCall E S a o c
  | _ => none

/-- May it be asked of 'light'? -/
def isLight (E : Env) (o : Oper) : Bool :=
  match o.op with
  | .move _ | .assign _ | .pick .. | .nilCheck _ | .binOp .. | .unOp .. | .makeInterface .. | .makeFunc .. | .fieldAddr .. | .field .. | .indexAddr .. | .index .. | .load .. | .extract .. | .build .. | .slice .. | .lookup .. | .typeAssert .. => true
  | .convert _ d _ => match E.und d with
    | some (.slice _) => false
    | _ => true
  | .call c => match c.callee with
    | .builtin .len | .builtin .max | .builtin .min => true
    | _ => false
  | _ => false

inductive Eff where
  | val (v : Value) (S : Hp)
  | defer (d : Deferred)
  | enter (f : FuncId) (args : List Value)
  | round (l : Nat) (args : List Value)

def newRow (S : Hp) (l : List Value) : Hp :=
  S.new (.cells l.length (T.ofList l 0 .e))

/-- What is appended: its cells, and how many elements. -/
def srcA (S : Hp) (size : Nat) (x : Value) : Option (List Value × Nat) :=
  match x with
  | .slice none 0 _ => some ([], 0)
  | .slice (some b) n _ => match n with
    | 0 => some ([], 0)
    | _ => match loadN S b.block b.off (n * size) with
      | some l => some (l, n)
      | none => none
  | .string ⟨⟨b⟩⟩ => match Nat.beq size 1 with
    | true => some (byteCells b, b.length)
    | false => none
  | _ => none

/-- May a row of so many elements grow? -/
def growsA (E : Env) (elem size need : Nat) : Bool :=
  match E.byt elem, E.zer elem with
  | some b, some z => Nat.ble need 100000000 && Nat.ble b 1000 && Nat.beq (cellsL z).length size
  | _, _ => false

def isRow (S : Hp) (b : Nat) : Bool :=
  match S.get b with
  | some (.cells _ _) => true
  | _ => false

def appendA (E : Env) (S : Hp) (st xt : TypeId) (s x : Value) : Option (Value × Hp) :=
  match E.und st, E.und xt with
  | some (.slice elem), some xt =>
    match xt with
    | .int _ => none
    | _ =>
    match E.siz elem, s with
    | some size, .slice base len cap =>
      match srcA S size x with
      | none => none
      | some (new, n) =>
        match base with
        | none => match Nat.beq len 0 && Nat.beq cap 0 with
          | true => match n with
            | 0 => some (.slice none 0 0, S)
            | _ => match growsA E elem size n with
              | true => some (.slice (some ⟨S.next, 0, some 0⟩) n size, newRow S new)
              | false => none
          | false => none
        | some b => match b.spot with
          | none => match Nat.ble (len + n) cap with
            | true => match storeN S b.block (b.off + len * size) new with
              | some S' => some (.slice (some b) (len + n) cap, S')
              | none => none
            | false => match loadN S b.block b.off (len * size), growsA E elem size (len + n) with
              | some old, true => some (.slice (some ⟨S.next, 0, some 0⟩) (len + n) size, newRow S (old ++ new))
              | _, _ => none
          | some 0 => match Nat.beq cap size && allOne new && isRow S b.block with
            | true => match loadN S b.block b.off (len * size), growsA E elem size (len + n) with
              | some old, true => some (.slice (some ⟨S.next, 0, some 0⟩) (len + n) size, (newRow S (old ++ new)).put b.block .dead)
              | _, _ => none
            | false => none
          | some _ => none
    | _, _ => none
  | _, _ => none

def setAt (v : Value) : List (Value × Value) → Nat → List (Value × Value)
  | [], _ => []
  | (k, u) :: l, i => match i with
    | 0 => (k, v) :: l
    | i + 1 => (k, u) :: setAt v l i

def dropAt {α : Type} : List α → Nat → List α
  | [], _ => []
  | x :: l, i => match i with
    | 0 => l
    | i + 1 => x :: dropAt l i

def updateA (E : Env) (S : Hp) (t : TypeId) (m k v : Value) : Option Hp :=
  match m with
  | .map (some r) => match S.get r with
    | some (.map es bs clock) => match findA E t k es with
      | some (some (i, _), _) => some (S.put r (.map (setAt v es i) bs clock))
      | some (none, _) => some (S.put r (.map (es ++ [(k, v)]) (bs ++ [clock]) (clock + 1)))
      | none => none
    | _ => none
  | _ => none

def deleteA (E : Env) (S : Hp) (t : TypeId) (m k : Value) : Option Hp :=
  match m with
  | .map (some r) => match S.get r with
    | some (.map es bs clock) => match findA E t k es with
      | some (some (i, _), _) => some (S.put r (.map (dropAt es i) (dropAt bs i) clock))
      | some (none, _) => some S
      | none => none
    | _ => none
  | _ => none

def natMin (a b : Nat) : Nat :=
  match Nat.ble a b with
  | true => a
  | false => b

def copyA (E : Env) (S : Hp) (dt : TypeId) (d s : Value) : Option (Value × Hp) :=
  match E.und dt, d, s with
  | some (.slice elem), .slice (some b) dl _, .slice (some q) sl _ => match E.siz elem with
    | some z => match natMin sl dl with
      | 0 => some (.int .i64 0, S)
      | n + 1 => match loadN S q.block q.off ((n + 1) * z) with
        | some l => match storeN S b.block b.off l with
          | some S => some (.int .i64 (.ofNat (n + 1)), S)
          | none => none
        | none => none
    | none => none
  | _, _, _ => none

def isIn (b : Nat) : List Nat → Bool
  | [] => false
  | c :: l => match Nat.beq b c with
    | true => true
    | false => isIn b l

/-- The entries that have not come: key, element, stamp. -/
def leftOf (seen : List Nat) : List (Value × Value) → List Nat → List (Value × Value × Nat)
  | (k, v) :: es, b :: bs => match isIn b seen with
    | true => leftOf seen es bs
    | false => (k, v, b) :: leftOf seen es bs
  | _, _ => []

def allBelow (n : Nat) : List (Value × Value × Nat) → Bool
  | [] => true
  | (_, _, b) :: l => match Nat.blt b n with
    | true => allBelow n l
    | false => false

/-- Is one of the entries old enough? -/
def anyBelow (n : Nat) : List Nat → Bool
  | [] => false
  | b :: l => match Nat.blt b n with
    | true => true
    | false => anyBelow n l

/-- Which entry comes, of those that are left; 'c': how many there are to be, and which. -/
def pickA (c : Option (Nat × Nat)) (l : List (Value × Value × Nat)) : Option (Value × Value × Nat) :=
  match l with
  | [x] => some x
  | l => match c with
    | some (n, j) => match Nat.beq l.length n with
      | true => nth l j
      | false => none
    | none => none

def rangeOf (E : Env) (S : Hp) (t : TypeId) (x : Value) : Option Hp :=
  match E.und t, x with
  | some (.map _ _), .map none => some (S.new (.iter none 0 [] 0))
  | some (.map _ _), .map (some m) => match S.get m with
    | some (.map _ _ clock) => some (S.new (.iter (some m) clock [] clock))
    | _ => none
  | _, _ => none

def nextA (S : Hp) (c : Option (Nat × Nat)) (x : Value) : Option (Value × Hp) :=
  match x with
  | .pointer (some ⟨r, 0, none⟩) => match S.get r with
    | some (.iter none _ _ _) => some (.tuple ⟨[.bool false]⟩, S)
    | some (.iter (some m) since seen last) => match S.get m with
      | some (.map es bs clock) => match (match seen, es with
          | [], _ | _, [] => true
          | _, _ => anyBelow last bs) with
        | true => match leftOf seen es bs with
          | [] => some (.tuple ⟨[.bool false]⟩, S)
          | l => match allBelow since l with
            | true => match pickA c l with
              | some (k, v, b) => some (.tuple ⟨[.bool true, k, v]⟩, S.put r (.iter (some m) since (seen ++ [b]) clock))
              | none => none
            | false => none
        | false => none
      | _ => none
    | _ => none
  | _ => none

def lastOf : List Nat → Option Nat
  | [] => none
  | [b] => some b
  | _ :: l => lastOf l

def findStamp (b : Nat) : List (Value × Value) → List Nat → Option (Value × Value)
  | (k, v) :: es, c :: bs => match Nat.beq c b with
    | true => some (k, v)
    | false => findStamp b es bs
  | _, _ => none

/-- The entry that has come last, read again. -/
def entryA (S : Hp) (x : Value) : Option Value :=
  match x with
  | .pointer (some ⟨r, 0, none⟩) => match S.get r with
    | some (.iter (some m) _ seen last) => match lastOf seen, S.get m with
      | some b, some (.map es bs clock) => match Nat.beq clock last with
        | true => match findStamp b es bs with
          | some (k, v) => some (.tuple ⟨[k, v]⟩)
          | none => none
        | false => none
      | _, _ => none
    | _ => none
  | _ => none

def hEntry (E : Env) (S : Hp) (a : Tm) (x : Operand) : Option Eff :=
  match ev E a x with
  | some v => match entryA S v with
    | some r => some (.val r S)
    | none => none
  | none => none

def hAlloc (E : Env) (S : Hp) (a : Tm) (t : TypeId) : Option Eff := match E.zer t with
    | some z => some (.val (.pointer (some ⟨S.next, 0, none⟩)) (newRow S (cellsL z)))
    | none => none

def hBox (E : Env) (S : Hp) (a : Tm) (x : Operand) : Option Eff := match ev E a x with
    | some v => some (.val (.pointer (some ⟨S.next, 0, none⟩)) (newRow S (cellsL v)))
    | none => none

def hBuildSlice (E : Env) (S : Hp) (a : Tm) (t : TypeId) (len : Nat) (parts : Array (Nat × Operand)) : Option Eff := match E.und t, evParts E a parts.toList with
    | some (.slice elem), some ps => match E.siz elem, E.zer elem with
      | some s, some z => match Nat.ble (len * s) 16777216 && Nat.beq (cellsL z).length s with
        | true => match fillA (fun i => some (i * s, s)) (zerosA (cellsL z) len) ps with
          | some l => some (.val (.slice (some ⟨S.next, 0, none⟩) len len) (newRow S l))
          | none => none
        | false => none
      | _, _ => none
    | _, _ => none

def hMakeMap (E : Env) (S : Hp) (a : Tm) (t : TypeId) (r : Option Operand) : Option Eff := match r with
    | none => some (.val (.map (some S.next)) (S.new (.map [] [] 0)))
    | some x => match E.und t, ev E a x with
      | some (.map _ _), some (.int _ _) => some (.val (.map (some S.next)) (S.new (.map [] [] 0)))
      | _, _ => none

def hRange (E : Env) (S : Hp) (a : Tm) (t : TypeId) (x : Operand) : Option Eff := match ev E a x with
    | some v => match rangeOf E S t v with
      | some S' => some (.val (.pointer (some ⟨S.next, 0, none⟩)) S')
      | none => none
    | none => none

def hNext (E : Env) (c : Option (Nat × Nat)) (S : Hp) (a : Tm) (x : Operand) (isString : Bool) : Option Eff := match isString, ev E a x with
    | false, some v => match nextA S c v with
      | some (v, S) => some (.val v S)
      | none => none
    | _, _ => none

def hMakeSlice (E : Env) (S : Hp) (a : Tm) (t : TypeId) (l c : Operand) : Option Eff := match E.und t, ev E a l, ev E a c with
    | some (.slice elem), some (.int .i64 (.ofNat n)), some (.int .i64 (.ofNat m)) => match E.siz elem, E.zer elem, E.byt elem with
      | some s, some z, some bts => match Nat.ble n m && Nat.blt m 100000000 && Nat.blt bts 1000 && Nat.beq (cellsL z).length s with
        | true => some (.val (.slice (some ⟨S.next, 0, none⟩) n m) (newRow S (zerosA (cellsL z) m)))
        | false => none
      | _, _, _ => none
    | _, _, _ => none

def hStore (E : Env) (S : Hp) (a : Tm) (t : TypeId) (x v : Operand) : Option Eff := match ev E a x, ev E a v with
    | some (.pointer (some p)), some v => match p.spot with
      | none => match storeV E S t p.block p.off v with
        | some S => some (.val undef S)
        | none => none
      | some _ => none
    | _, _ => none

def hUpdate (E : Env) (S : Hp) (a : Tm) (t : TypeId) (m k v : Operand) : Option Eff := match ev E a m, ev E a k, ev E a v with
    | some m, some k, some v => match updateA E S t m k v with
      | some S => some (.val undef S)
      | none => none
    | _, _, _ => none

def hConvert (E : Env) (S : Hp) (a : Tm) (st d : TypeId) (x : Operand) : Option Eff := match E.und st, E.und d, ev E a x with
    | some _, some (.slice elem), some (.string ⟨⟨s⟩⟩) => match E.und elem with
      | some (.int .u8) => match Nat.ble s.length 100000000 with
        | true => some (.val (.slice (some ⟨S.next, 0, some 0⟩) s.length 1) (newRow S (byteCells s)))
        | false => none
      | _ => none
    | _, _, _ => none

def hCall (E : Env) (S : Hp) (a : Tm) (c : Call) : Option Eff := match c.callee, evs E a c.args.toList with
    | .builtin .append, some [s, x] => match c.argTypes.toList with
      | [st, xt] => match appendA E S st xt s x with
        | some (v, S) => some (.val v S)
        | none => none
      | _ => none
    | .builtin .copy, some [d, s] => match c.argTypes.toList with
      | dt :: _ => match copyA E S dt d s with
        | some (v, S) => some (.val v S)
        | none => none
      | _ => none
    | .builtin .delete, some [m, k] => match c.argTypes.toList with
      | t :: _ => match deleteA E S t m k with
        | some S => some (.val (.tuple #[]) S)
        | none => none
      | _ => none
    | .value f, some l => match ev E a f with
      | some (.func (.func f) first captured) => some (.enter f (first.toList ++ (l ++ captured.toList)))
      | some (.func (.yield g) ⟨[]⟩ ⟨[]⟩) => some (.round g l)
      | _ => none
    | _, _ => none

def hDefer (E : Env) (S : Hp) (a : Tm) (c : Call) : Option Eff := match c.callee, evs E a c.args.toList with
    | .value f, some l => match ev E a f with
      | some (.func (.func f) first captured) => some (.defer { target := .fn (.func f) captured, args := first ++ ⟨l⟩ })
      | _ => none
    | _, _ => none

def heavy (E : Env) (c : Option (Nat × Nat)) (S : Hp) (a : Tm) (o : Oper) : Option Eff :=
  match o.op with
  | .alloc t => hAlloc E S a t
  | .box _ x => hBox E S a x
  | .buildSlice t len parts => hBuildSlice E S a t len parts
  | .makeMap t r => hMakeMap E S a t r
  | .range t x => hRange E S a t x
  | .entry x => hEntry E S a x
  | .next x isString => hNext E c S a x isString
  | .makeSlice t l c => hMakeSlice E S a t l c
  | .store t x v => hStore E S a t x v
  | .mapUpdate t m k v | .insert t m k v => hUpdate E S a t m k v
  | .convert st d x => hConvert E S a st d x
  | .call c => hCall E S a c
  | .defer c => hDefer E S a c
  | _ => none

end Go.Am
