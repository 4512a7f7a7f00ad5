import Derived.Test.YtmjdoceckpekmaaGreatDoorSnEnv0
set_option linter.unusedSimpArgs false
set_option linter.unusedVariables false
namespace Go.Am
open Go.Proofs Go.RowKit
def natA : Nat → Option Native := fun f => match Nat.beq f 4 with
  | true => some (nClosed (.bool true))
  | false => none
noncomputable def E2 : Env := { E0 with nat := natA }
theorem hb4 : HasBody Tryz.prog 4 := ⟨Tryz.f4, _, Tryz.func4, rfl, by kernel_rfl⟩
/-- If the example lives, the law holds: whatever is asked of no sink. -/
theorem sinkNil_of (h : ∀ w, Calls Tryz.prog 4 #[] w fun x w' => x = .returned (.bool true) ∧ Below w.heap.size w w') (id parts : Int) (w : World) :
    Calls Tryz.prog 3 #[.int .i64 id, .int .i64 parts] w fun x w' => x = .returned (.bool true) ∧ Below w.heap.size w w' := by
  have ok : E2.Ok := by
    refine ⟨tab_nat tab0 _, ?_, ?_⟩
    · exact ext0 rfl
    · intro f g q
      have q : natA f = some g := q
      unfold natA at q
      split at q
      · rename_i hf
        cases q
        obtain rfl := Nat.eq_of_beq_eq_true hf
        exact nClosed_ok rfl hb4 h
      · cases q
  have main : ∀ parts : Int, runV E2 3 [.int .i64 id, .int .i64 parts] 5000 = some (.bool true) → Calls Tryz.prog 3 #[.int .i64 id, .int .i64 parts] w fun x w' => x = .returned (.bool true) ∧ Below w.heap.size w w' :=
    fun parts e => plain_sound ok rfl (args := [.int .i64 id, .int .i64 parts]) rfl e rfl w
  match parts with
  | .negSucc n => exact main _ (by kernel_rfl)
  | .ofNat 0 => exact main _ (by kernel_rfl)
  | .ofNat 1 => exact main _ (by kernel_rfl)
  | .ofNat 2 => exact main _ (by kernel_rfl)
  | .ofNat 3 => exact main _ (by kernel_rfl)
  | .ofNat 4 => exact main _ (by kernel_rfl)
  | .ofNat (n + 5) => exact main _ (by kernel_rfl)
end Go.Am
