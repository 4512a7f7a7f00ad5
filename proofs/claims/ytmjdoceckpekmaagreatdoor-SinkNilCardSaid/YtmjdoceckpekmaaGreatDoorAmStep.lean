import Derived.Test.YtmjdoceckpekmaaGreatDoorAmDef
set_option linter.unusedSimpArgs false
set_option linter.unusedVariables false
namespace Go.Am

/-- What is done of a region that draws its order between two operations that make or write: what is asked for the first time; what is asked for again; the next that makes or writes. -/
structure DStage where
  evs : List Nat
  chk : List Nat
  hv : Option Nat

inductive AItem where
  | code (c : Code)
  | inBlock (id : Nat)
  | inLoop (body : Code)
  | inScope (body : Code)
  | inRegion (ops rest : List Oper)
  | drawn (ops : List Oper) (todo : List DStage)
  | wait (ops : List Oper) (i : Nat) (todo : List DStage)
  | inRangeFunc (loop : Nat)
  | endRangeFunc (loop : Nat)
  | beginRound

structure AFrame where
  fn : FuncId
  n : Nat
  tmps : Tm
  todo : List AItem
  defers : List Deferred
  ret : Bool
  kind : CallKind
  roundOf : Option Nat

structure ASt where
  fr : AFrame
  cs : List AFrame
  S : Hp

def exitA (id : Nat) : List AItem → Option (List AItem)
  | .inBlock id' :: k => match Nat.beq id' id with
    | true => some k
    | false => exitA id k
  | _ :: k => exitA id k
  | [] => none

def gotoA (l : Nat) : List AItem → Option (List AItem)
  | .inScope body :: k => match findLabel body l with
    | some rest => some (.code rest :: .inScope body :: k)
    | none => gotoA l k
  | _ :: k => gotoA l k
  | [] => none

def putDst (n : Nat) (a : Tm) (d : Option Tmp) (v : Value) : Option Tm :=
  match d with
  | some d => match Nat.blt d n with
    | true => some (a.put d v)
    | false => none
  | none => some a

def dstOf (ops : List Oper) (i : Nat) : Option Tmp :=
  match nth ops i with
  | some o => o.dst
  | none => none

def AFrame.finish (fr : AFrame) (v : Value) : Option AFrame :=
  match fr with
  | ⟨fn, n, a, .inRegion ops (o :: rest) :: k, ds, ret, kind, ro⟩ => match putDst n a o.dst v with
    | some a => some ⟨fn, n, a, .inRegion ops rest :: k, ds, ret, kind, ro⟩
    | none => none
  | ⟨fn, n, a, .wait ops i rest :: k, ds, ret, kind, ro⟩ => match putDst n a (dstOf ops i) v with
    | some a => some ⟨fn, n, a, .drawn ops rest :: k, ds, ret, kind, ro⟩
    | none => none
  | ⟨fn, n, a, .inRangeFunc l :: k, ds, ret, kind, ro⟩ => some ⟨fn, n, a, .endRangeFunc l :: k, ds, ret, kind, ro⟩
  | _ => none

def wantedA (ops : List Oper) (a : Tm) (o : Oper) : Option Bool :=
  match o.guard with
  | none => some true
  | some (j, want) => match dstOf ops j with
    | some d => match a.get d with
      | some (.bool b) => some (match b, want with
        | true, true | false, false => true
        | _, _ => false)
      | some (.tuple ⟨[]⟩) => some false
      | _ => none
    | none => none

/-- Which operations stand ahead of each, as a number's digits. -/
def aheadOf : List Oper → List Nat → List Nat
  | [], acc => acc
  | o :: l, acc => aheadOf l (acc ++ [o.after.toList.foldl (fun s e => match Region.binds .any e with
      | true => s ||| 2 ^ e.on ||| (nth acc e.on).getD 0
      | false => s) 0])

def readsOf (o : Oper) (ops : List Oper) : List Tmp :=
  (o.op.operands.toList.filterMap fun | .tmp t => some t | _ => none) ++ (match o.guard with
    | some (j, _) => (dstOf ops j).toList
    | none => [])

def ords (b : List Nat) (i j : Nat) : Bool := ((nth b j).getD 0).testBit i

/-- Each edge goes back. -/
def backOk (ops : List Oper) (i : Nat) : Bool :=
  match nth ops i with
  | some o => o.after.toList.all fun e => !Region.binds .any e || Nat.blt e.on i
  | none => false

/-- The slot that j writes is written by no other, and read only behind it. -/
def slotOk (ops : List Oper) (b : List Nat) (n j : Nat) : Bool :=
  match dstOf ops j with
  | none => true
  | some d => (List.range n).all fun i => match nth ops i with
    | none => false
    | some p => (Nat.beq i j || match p.dst with
      | some d' => !Nat.beq d d'
      | none => true) && (ords b j i || !(readsOf p ops).contains d)

def chainOk (b : List Nat) : List Nat → Bool
  | i :: j :: r => ords b i j && chainOk b (j :: r)
  | _ => true

def count (p : Nat → Bool) : List Nat → Nat
  | [] => 0
  | x :: l => match p x with
    | true => count p l + 1
    | false => count p l

def planOf (lights : List Nat) (lo hi : Nat → Nat) : Nat → List Nat → List DStage
  | k, hs =>
    let evs := lights.filter fun i => Nat.beq (lo i) k
    let chk := lights.filter fun i => Nat.ble (lo i) k && Nat.ble k (hi i)
    match hs with
    | [] => [⟨evs, chk, none⟩]
    | h :: r => ⟨evs, chk, some h⟩ :: planOf lights lo hi (k + 1) r

/-- The plan of a region that draws its order; none: there is none. -/
def plan (E : Env) (ops : List Oper) : Option (List DStage) :=
  let b := aheadOf ops []
  let n := ops.length
  let lit (i : Nat) : Bool := match nth ops i with
    | some o => isLight E o
    | none => false
  let hs := (List.range n).filter fun i => !lit i
  let lights := (List.range n).filter lit
  match chainOk b hs && (List.range n).all fun j => backOk ops j && slotOk ops b n j with
  | true => some (planOf lights (fun i => count (fun h => ords b h i) hs) (fun i => count (fun h => !ords b i h) hs) 0 hs)
  | false => none

mutual
def veq : Value → Value → Bool
  | .bool a, .bool b => a == b
  | .int k a, .int l b => kindEq k l && intEq a b
  | .string ⟨⟨a⟩⟩, .string ⟨⟨b⟩⟩ => bytesEq a b
  | .pointer a, .pointer b => a == b
  | .slice a n c, .slice b m d => a == b && Nat.beq n m && Nat.beq c d
  | .map a, .map b => a == b
  | .func (.func f) x y, .func (.func g) u v => Nat.beq f g && veqA x u && veqA y v
  | .func (.yield f) x y, .func (.yield g) u v => Nat.beq f g && veqA x u && veqA y v
  | .nilFunc, .nilFunc => true
  | .nilIface, .nilIface => true
  | .iface t a, .iface u b => Nat.beq t u && veq a b
  | .agg a, .agg b => veqA a b
  | .tuple a, .tuple b => veqA a b
  | _, _ => false
def veqA : Array Value → Array Value → Bool
  | ⟨a⟩, ⟨b⟩ => veqL a b
def veqL : List Value → List Value → Bool
  | [], [] => true
  | a :: l, b :: m => veq a b && veqL l m
  | _, _ => false
end

def resultsL (E : Env) (S : Hp) (a : Tm) : List ResultVar → Option (List Value)
  | [] => some []
  | .tmp t :: r => match a.get t, resultsL E S a r with
    | some v, some l => some (v :: l)
    | _, _ => none
  | .cell c t :: r => match a.get c with
    | some (.pointer (some p)) => match p.spot, loadV E S t p.block p.off, resultsL E S a r with
      | none, some v, some l => some (v :: l)
      | _, _, _ => none
    | _ => none

def resultsA (E : Env) (S : Hp) (fn : Func) (a : Tm) : Option Value :=
  match resultsL E S a fn.results.toList with
  | some [v] => some v
  | some l => some (.tuple ⟨l⟩)
  | none => none

def enterA (E : Env) (f : FuncId) (args : List Value) (kind : CallKind) : Option AFrame :=
  match E.fn f with
  | some fn => match fn.body with
    | some c => match Nat.ble args.length fn.ntmps with
      | true => some ⟨f, fn.ntmps, T.ofList args 0 .e, [.code c], [], false, kind, none⟩
      | false => none
    | none => none
  | none => none

def putAll (n : Nat) : List Tmp → List Value → Tm → Option Tm
  | [], [], a => some a
  | t :: ts, v :: vs, a => match Nat.blt t n with
    | true => putAll n ts vs (a.put t v)
    | false => none
  | _, _, _ => none

def roundA (l : Nat) (r : ALoop) (args : List Value) : Option AFrame :=
  match putAll r.n r.params.toList args r.tmps with
  | some a => some ⟨r.fn, r.n, a, [.code r.assign, .beginRound, .code r.body], [], false, .normal, some l⟩
  | none => none

/-- A call. -/
def callA (E : Env) (fr : AFrame) (cs : List AFrame) (S : Hp) (f : FuncId) (args : List Value) : Option ASt :=
  match E.ext f with
  | some g => match g args S with
    | some (v, S') => match fr.finish v with
      | some fr => some ⟨fr, cs, S'⟩
      | none => none
    | none => none
  | none => match E.nat f with
  | some g => match g args S with
    | some (v, S') => match fr.finish v with
      | some fr => some ⟨fr, cs, S'⟩
      | none => none
    | none => none
  | none => match enterA E f args .normal with
    | some n => some ⟨n, fr :: cs, S⟩
    | none => none

def getLoopA (S : Hp) (l : Nat) : Option ALoop :=
  match S.get l with
  | some (.loop r) => some r
  | _ => none

/-- What has been yielded goes to the caller. -/
def back (kind : CallKind) (cs : List AFrame) (S : Hp) (v : Value) : Option ASt :=
  match cs with
  | c :: cs => match kind with
    | .normal => match c.finish v with
      | some c => some ⟨c, cs, S⟩
      | none => none
    | .deferred => some ⟨c, cs, S⟩
    | _ => none
  | [] => none

def leaveA (fr : AFrame) (cs : List AFrame) (S : Hp) (jump : Option Code) : Option ASt :=
  match fr with
  | ⟨fn, n, a, todo, ds, _, kind, none⟩ => match jump with
    | none | some .ret => some ⟨⟨fn, n, a, todo, ds, true, kind, none⟩, cs, S⟩
    | _ => none
  | ⟨_, _, _, _, _, _, kind, some l⟩ => match getLoopA S l with
    | some ⟨_, _, fn, n, tmps, params, assign, body, defers⟩ => match jump with
      | none => back kind cs (S.put l (.loop ⟨.ready, none, fn, n, tmps, params, assign, body, defers⟩)) (.bool true)
      | some j => back kind cs (S.put l (.loop ⟨.done, some j, fn, n, tmps, params, assign, body, defers⟩)) (.bool false)
    | none => none

def isRecover (o : Oper) : Bool :=
  match o.op with
  | .call c => match c.callee with
    | .builtin .recover => true
    | _ => false
  | _ => false

/-- No frame panics: 'recover' yields nil. -/
def mayRecover (fr : AFrame) (cs : List AFrame) : Bool :=
  match fr.roundOf with
  | some _ => false
  | none => match cs with
    | [] => match fr.kind with
      | .normal => true
      | _ => false
    | _ :: _ => true

/-- An operation that makes or writes. -/
def heavyA (E : Env) (c : Option (Nat × Nat)) (fr : AFrame) (cs : List AFrame) (S : Hp) (o : Oper) : Option ASt :=
  match isRecover o with
  | true => match mayRecover fr cs with
    | true => match fr.finish .nilIface with
      | some fr => some ⟨fr, cs, S⟩
      | none => none
    | false => none
  | false =>
  match heavy E c S fr.tmps o with
  | some (.val v S) => match fr.finish v with
    | some fr => some ⟨fr, cs, S⟩
    | none => none
  | some (.defer d) => match fr.roundOf with
    | none => match fr.finish undef with
      | some ⟨fn, n, a, todo, ds, ret, kind, ro⟩ => some ⟨⟨fn, n, a, todo, d :: ds, ret, kind, ro⟩, cs, S⟩
      | none => none
    | some _ => none
  | some (.enter f args) => callA E fr cs S f args
  | some (.round l args) => match getLoopA S l with
    | some r => match roundA l r args with
      | some n => some ⟨n, fr :: cs, S⟩
      | none => none
    | none => none
  | none => none

def lightAt (E : Env) (S : Hp) (a : Tm) (ops : List Oper) (i : Nat) : Option (Option Tmp × Value) :=
  match nth ops i with
  | some o => match wantedA ops a o with
    | some true => match light E S a o with
      | some v => some (o.dst, v)
      | none => none
    | some false => some (o.dst, undef)
    | none => none
  | none => none

def evAll (E : Env) (S : Hp) (n : Nat) (ops : List Oper) : List Nat → Tm → Option Tm
  | [], a => some a
  | i :: l, a => match lightAt E S a ops i with
    | some (d, v) => match putDst n a d v with
      | some a => evAll E S n ops l a
      | none => none
    | none => none

def chkAll (E : Env) (S : Hp) (ops : List Oper) (a : Tm) : List Nat → Bool
  | [] => true
  | i :: l => match lightAt E S a ops i with
    | some (some d, v) => match a.get d with
      | some u => match veq v u with
        | true => chkAll E S ops a l
        | false => false
      | none => false
    | _ => false

def rangeA (E : Env) (fr : AFrame) (cs : List AFrame) (S : Hp) (f : Value) (l : Nat) : Option ASt :=
  match f with
  | .func (.func g) first captured => callA E fr cs S g (first.toList ++ (.func (.yield l) #[] #[] :: captured.toList))
  | .func (.yield g) ⟨[]⟩ ⟨[]⟩ => match getLoopA S g with
    | some r => match roundA g r [.func (.yield l) #[] #[]] with
      | some n => some ⟨n, fr :: cs, S⟩
      | none => none
    | none => none
  | _ => none

def notDrawn : List AItem → Bool
  | .drawn _ _ :: _ => false
  | .wait _ _ _ :: _ => false
  | _ => true

def retA (E : Env) (fr : AFrame) (cs : List AFrame) (S : Hp) : Option ASt :=
  match fr with
  | ⟨fn, n, a, todo, ds, _, kind, ro⟩ => match ds with
    | ⟨.collected b, _⟩ :: ds => match S.get b with
      | some (.deferred (some calls)) => some ⟨⟨fn, n, a, todo, calls ++ ds, true, kind, ro⟩, cs, S.put b .dead⟩
      | _ => none
    | ⟨.fn (.func f) captured, args⟩ :: ds => match E.nat f with
      | some _ => none
      | none => match enterA E f (args.toList ++ captured.toList) .deferred with
        | some nf => some ⟨nf, ⟨fn, n, a, todo, ds, true, kind, ro⟩ :: cs, S⟩
        | none => none
    | _ :: _ => none
    | [] => match notDrawn todo with
      | true => match E.fn fn with
        | some g => match resultsA E S g a with
          | some v => back kind cs S v
          | none => none
        | none => none
      | false => none

def sOper (E : Env) (pk : Option (Nat × Nat)) (fn : FuncId) (n : Nat) (a : Tm) (ops : List Oper) (o : Oper) (rest : List Oper) (k : List AItem) (ds : List Deferred) (kind : CallKind) (ro : Option Nat) (cs : List AFrame) (S : Hp) : Option ASt :=
  match wantedA ops a o with
  | some true => match isLight E o with
    | true => match light E S a o with
      | some v => match putDst n a o.dst v with
        | some a => some ⟨⟨fn, n, a, .inRegion ops rest :: k, ds, false, kind, ro⟩, cs, S⟩
        | none => none
      | none => none
    | false => heavyA E pk ⟨fn, n, a, .inRegion ops (o :: rest) :: k, ds, false, kind, ro⟩ cs S o
  | some false => match putDst n a o.dst undef with
    | some a => some ⟨⟨fn, n, a, .inRegion ops rest :: k, ds, false, kind, ro⟩, cs, S⟩
    | none => none
  | none => none

def sCond (E : Env) (fn : FuncId) (n : Nat) (a : Tm) (c : Operand) (x y : Code) (k : List AItem) (ds : List Deferred) (kind : CallKind) (ro : Option Nat) (cs : List AFrame) (S : Hp) : Option ASt :=
  match ev E a c with
  | some (.bool true) => some ⟨⟨fn, n, a, .code x :: k, ds, false, kind, ro⟩, cs, S⟩
  | some (.bool false) => some ⟨⟨fn, n, a, .code y :: k, ds, false, kind, ro⟩, cs, S⟩
  | _ => none

def sReg (E : Env) (fn : FuncId) (n : Nat) (a : Tm) (ops : Array Oper) (draw : Bool) (k : List AItem) (ds : List Deferred) (kind : CallKind) (ro : Option Nat) (cs : List AFrame) (S : Hp) : Option ASt :=
  match draw with
  | true => match plan E ops.toList with
    | some l => some ⟨⟨fn, n, a, .drawn ops.toList l :: k, ds, false, kind, ro⟩, cs, S⟩
    | none => none
  | false => some ⟨⟨fn, n, a, .inRegion ops.toList ops.toList :: k, ds, false, kind, ro⟩, cs, S⟩

def sExit (c : Code) (fn : FuncId) (n : Nat) (a : Tm) (id : Nat) (k : List AItem) (ds : List Deferred) (kind : CallKind) (ro : Option Nat) (cs : List AFrame) (S : Hp) : Option ASt :=
  match exitA id k with
  | some k => some ⟨⟨fn, n, a, k, ds, false, kind, ro⟩, cs, S⟩
  | none => leaveA ⟨fn, n, a, .code c :: k, ds, false, kind, ro⟩ cs S (some (.exit id))

def sGoto (c : Code) (fn : FuncId) (n : Nat) (a : Tm) (l : Nat) (k : List AItem) (ds : List Deferred) (kind : CallKind) (ro : Option Nat) (cs : List AFrame) (S : Hp) : Option ASt :=
  match gotoA l k with
  | some k => some ⟨⟨fn, n, a, k, ds, false, kind, ro⟩, cs, S⟩
  | none => leaveA ⟨fn, n, a, .code c :: k, ds, false, kind, ro⟩ cs S (some (.goto l))

def sRange (E : Env) (fn : FuncId) (n : Nat) (a : Tm) (f : Operand) (params : Array Tmp) (assign body : Code) (k : List AItem) (ds : List Deferred) (kind : CallKind) (ro : Option Nat) (cs : List AFrame) (S : Hp) : Option ASt :=
  match ev E a f with
  | some fv => match ro with
    | some l => match getLoopA S l with
      | some r => rangeA E ⟨fn, n, a, .inRangeFunc S.next :: k, ds, false, kind, ro⟩ cs (S.new (.loop ⟨.ready, none, fn, n, a, params, assign, body, r.defers⟩)) fv S.next
      | none => none
    | none => rangeA E ⟨fn, n, a, .inRangeFunc (S.next + 1) :: k, ⟨.collected S.next, #[]⟩ :: ds, false, kind, ro⟩ cs ((S.new (.deferred (some []))).new (.loop ⟨.ready, none, fn, n, a, params, assign, body, S.next⟩)) fv (S.next + 1)
  | none => none

def sCode (E : Env) (fn : FuncId) (n : Nat) (a : Tm) (c : Code) (k : List AItem) (ds : List Deferred) (kind : CallKind) (ro : Option Nat) (cs : List AFrame) (S : Hp) : Option ASt :=
  match c with
  | .region _ ops draw => sReg E fn n a ops draw k ds kind ro cs S
  | .seq x y => some ⟨⟨fn, n, a, .code x :: .code y :: k, ds, false, kind, ro⟩, cs, S⟩
  | .cond c x y => sCond E fn n a c x y k ds kind ro cs S
  | .block id body => some ⟨⟨fn, n, a, .code body :: .inBlock id :: k, ds, false, kind, ro⟩, cs, S⟩
  | .loop body => some ⟨⟨fn, n, a, .code body :: .inLoop body :: k, ds, false, kind, ro⟩, cs, S⟩
  | .skip | .label _ => some ⟨⟨fn, n, a, k, ds, false, kind, ro⟩, cs, S⟩
  | .scope body => some ⟨⟨fn, n, a, .code body :: .inScope body :: k, ds, false, kind, ro⟩, cs, S⟩
  | .exit id => sExit (.exit id) fn n a id k ds kind ro cs S
  | .goto l => sGoto (.goto l) fn n a l k ds kind ro cs S
  | .ret => leaveA ⟨fn, n, a, .code .ret :: k, ds, false, kind, ro⟩ cs S (some .ret)
  | .rangeFunc f params assign body => sRange E fn n a f params assign body k ds kind ro cs S
  | .refuse _ => none

def sHv (E : Env) (pk : Option (Nat × Nat)) (fn : FuncId) (n : Nat) (a : Tm) (ops : List Oper) (i : Nat) (rest : List DStage) (k : List AItem) (ds : List Deferred) (kind : CallKind) (ro : Option Nat) (cs : List AFrame) (S : Hp) : Option ASt :=
  match nth ops i with
  | some o => match wantedA ops a o with
    | some true => heavyA E pk ⟨fn, n, a, .wait ops i rest :: k, ds, false, kind, ro⟩ cs S o
    | some false => match putDst n a o.dst undef with
      | some a => some ⟨⟨fn, n, a, .drawn ops rest :: k, ds, false, kind, ro⟩, cs, S⟩
      | none => none
    | none => none
  | none => none

def sDrawn (E : Env) (pk : Option (Nat × Nat)) (fn : FuncId) (n : Nat) (a : Tm) (ops : List Oper) (stages : List DStage) (k : List AItem) (ds : List Deferred) (kind : CallKind) (ro : Option Nat) (cs : List AFrame) (S : Hp) : Option ASt :=
  match stages with
  | [] => none
  | ⟨evs, chk, hv⟩ :: rest => match evAll E S n ops evs a with
    | some a' => match chkAll E S ops a' chk with
      | true => match hv with
        | none => some ⟨⟨fn, n, a', k, ds, false, kind, ro⟩, cs, S⟩
        | some i => sHv E pk fn n a' ops i rest k ds kind ro cs S
      | false => none
    | none => none

def sBegin (fn : FuncId) (n : Nat) (a : Tm) (k : List AItem) (ds : List Deferred) (kind : CallKind) (ro : Option Nat) (cs : List AFrame) (S : Hp) : Option ASt :=
  match ro with
  | some l => match getLoopA S l with
    | some ⟨.ready, p, f, m, t, ps, x, y, d⟩ => some ⟨⟨fn, n, a, k, ds, false, kind, ro⟩, cs, S.put l (.loop ⟨.busy, p, f, m, t, ps, x, y, d⟩)⟩
    | _ => none
  | none => none

def sEnd (fn : FuncId) (n : Nat) (a : Tm) (l : Nat) (k : List AItem) (ds : List Deferred) (kind : CallKind) (ro : Option Nat) (cs : List AFrame) (S : Hp) : Option ASt :=
  match getLoopA S l with
  | some ⟨.busy, _, _, _, _, _, _, _, _⟩ => none
  | some ⟨_, p, _, _, _, _, _, _, _⟩ => match p with
    | none => some ⟨⟨fn, n, a, k, ds, false, kind, ro⟩, cs, S.put l .dead⟩
    | some c => some ⟨⟨fn, n, a, .code c :: k, ds, false, kind, ro⟩, cs, S.put l .dead⟩
  | none => none

def sRegion (E : Env) (pk : Option (Nat × Nat)) (fn : FuncId) (n : Nat) (a : Tm) (ops rest : List Oper) (k : List AItem) (ds : List Deferred) (kind : CallKind) (ro : Option Nat) (cs : List AFrame) (S : Hp) : Option ASt :=
  match rest with
  | [] => some ⟨⟨fn, n, a, k, ds, false, kind, ro⟩, cs, S⟩
  | o :: rest => sOper E pk fn n a ops o rest k ds kind ro cs S

def sItem (E : Env) (pk : Option (Nat × Nat)) (fn : FuncId) (n : Nat) (a : Tm) (it : AItem) (k : List AItem) (ds : List Deferred) (kind : CallKind) (ro : Option Nat) (cs : List AFrame) (S : Hp) : Option ASt :=
  match it with
  | .inRegion ops rest => sRegion E pk fn n a ops rest k ds kind ro cs S
  | .code c => sCode E fn n a c k ds kind ro cs S
  | .drawn ops stages => sDrawn E pk fn n a ops stages k ds kind ro cs S
  | .inBlock _ | .inScope _ => some ⟨⟨fn, n, a, k, ds, false, kind, ro⟩, cs, S⟩
  | .inLoop body => some ⟨⟨fn, n, a, .code body :: .inLoop body :: k, ds, false, kind, ro⟩, cs, S⟩
  | .beginRound => sBegin fn n a k ds kind ro cs S
  | .endRangeFunc l => sEnd fn n a l k ds kind ro cs S
  | .wait _ _ _ | .inRangeFunc _ => none

def step (E : Env) (pk : Option (Nat × Nat)) (s : ASt) : Option ASt :=
  match s with
  | ⟨⟨fn, n, a, todo, ds, ret, kind, ro⟩, cs, S⟩ =>
  match ret with
  | true => retA E ⟨fn, n, a, todo, ds, true, kind, ro⟩ cs S
  | false =>
  match todo with
  | [] => leaveA ⟨fn, n, a, [], ds, false, kind, ro⟩ cs S none
  | it :: k => sItem E pk fn n a it k ds kind ro cs S

/-- The end: the lowest frame is about to hand back. -/
def ended (E : Env) (s : ASt) : Option Value :=
  match s with
  | ⟨⟨fn, _, a, todo, [], true, .normal, none⟩, [], S⟩ => match notDrawn todo with
    | true => match E.fn fn with
      | some g => resultsA E S g a
      | none => none
    | false => none
  | _ => none

def begun (E : Env) (f : FuncId) (args : List Value) (S : Hp) : Option ASt :=
  match enterA E f args .normal with
  | some fr => some ⟨fr, [], S⟩
  | none => none

/-- n steps. -/
def steps (E : Env) : Nat → ASt → Option ASt
  | 0, s => some s
  | n + 1, s => match step E none s with
    | some s => steps E n s
    | none => none

/-- Till the end of function f, in n steps at most. -/
def till (E : Env) (f : FuncId) : Nat → ASt → Option (Value × Hp)
  | 0, _ => none
  | n + 1, s => match step E none s with
    | some s => till E f n s
    | none => match Nat.beq s.fr.fn f with
      | true => match ended E s with
        | some v => some (v, s.S)
        | none => none
      | false => none

/-- A call from its beginning to its end. -/
def run (E : Env) (f : FuncId) (args : List Value) (S : Hp) (n : Nat) : Option (Value × Hp) :=
  match begun E f args S with
  | some s => till E f n s
  | none => none

end Go.Am
