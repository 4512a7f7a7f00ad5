import Derived.Test.YtmjdoceckpekmaaGreatDoorAmTables
set_option linter.unusedSimpArgs false
set_option linter.unusedVariables false
namespace Go.Am

/-! ### functions without a Go body -/
/-- maps.clone -/
def xClone (args : List Value) (S : Hp) : Option (Value × Hp) := match args with
  | [.iface t (.map (some r))] => match S.get r with
    | some (.map es bs clock) => some (.iface t (.map (some S.next)), S.new (.map es bs clock))
    | _ => none
  | _ => none

def indexB (c : Nat) : List UInt8 → Nat → Int
  | [], _ => .negSucc 0
  | b :: l, i => match Nat.beq b.toNat c with
    | true => .ofNat i
    | false => indexB c l (i + 1)

/-- internal/bytealg.IndexByteString -/
def xIndex (args : List Value) (S : Hp) : Option (Value × Hp) := match args with
  | [.string ⟨⟨l⟩⟩, .int .u8 (.ofNat c)] => match Nat.blt c 256 with
    | true => some (.int .i64 (indexB c l 0), S)
    | false => none
  | _ => none

/-! ### every order tried -/
def findN (E : Env) (s : ASt) : List Nat → Option Nat
  | [] => none
  | n :: l => match step E (some (n, 0)) s with
    | some _ => some n
    | none => findN E s l

def branch (g : Nat → Option (List (Value × Hp))) : Nat → Option (List (Value × Hp))
  | 0 => some []
  | j + 1 => match g j, branch g j with
    | some l, some m => some (l ++ m)
    | _, _ => none

/-- What a function comes to, for every order in which the entries of maps come. -/
def explore (E : Env) (f : FuncId) : Nat → ASt → Option (List (Value × Hp))
  | 0, _ => none
  | n + 1, s => match step E none s with
    | some s => explore E f n s
    | none => match (match Nat.beq s.fr.fn f with
        | true => ended E s
        | false => none) with
      | some v => some [(v, s.S)]
      | none => match findN E s [2, 3, 4] with
        | some N => branch (fun j => match step E (some (N, j)) s with
          | some s => explore E f n s
          | none => none) N
        | none => none
end Go.Am
