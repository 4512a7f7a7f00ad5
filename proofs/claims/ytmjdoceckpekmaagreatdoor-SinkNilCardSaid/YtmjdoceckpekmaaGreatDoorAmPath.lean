import Derived.Test.YtmjdoceckpekmaaGreatDoorAmExp
set_option linter.unusedSimpArgs false
set_option linter.unusedVariables false
namespace Go.Am

/-- A piece of code, by the way to it: 0 the first part, 1 the second. -/
def codeAt : Code → List Nat → Code
  | c, [] => c
  | c, d :: p => match c with
    | .seq a b => match d with
      | 0 => codeAt a p
      | _ => codeAt b p
    | .cond _ a b => match d with
      | 0 => codeAt a p
      | _ => codeAt b p
    | .block _ b => codeAt b p
    | .loop b => codeAt b p
    | .scope b => codeAt b p
    | .rangeFunc _ _ a b => match d with
      | 0 => codeAt a p
      | _ => codeAt b p
    | _ => .skip

def opsOf : Code → List Oper
  | .region _ ops _ => ops.toList
  | _ => []

def paramsOf : Code → Array Tmp
  | .rangeFunc _ ps _ _ => ps
  | _ => #[]

/-- The body of function f. -/
def bodyA (E : Env) (f : Nat) : Code := match E.fn f with
  | some fn => match fn.body with
    | some c => c
    | none => .skip
  | none => .skip
end Go.Am
