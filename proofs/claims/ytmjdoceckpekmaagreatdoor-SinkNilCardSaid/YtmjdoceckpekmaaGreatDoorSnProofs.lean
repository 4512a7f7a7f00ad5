/-
  'headgatelaw24.SinkNil' returns true for every int64 'id' and every int 'parts', and leaves its arguments as they were: the statement 'Rows.SinkNilCardSaid', without a condition of ours.
-/
import Derived.Test.YtmjdoceckpekmaaGreatDoorRows
import Derived.Test.YtmjdoceckpekmaaGreatDoorTie
import Derived.Test.YtmjdoceckpekmaaGreatDoorCards
import Derived.Test.YtmjdoceckpekmaaGreatDoorSnLaw
import Derived.Test.YtmjdoceckpekmaaGreatDoorSnRun
import Derived.ProofKit
import Derived.LaidMore
import Derived.OpenShut
import Derived.Lay
import Derived.SevenTiedAt
import Derived.Stop.Joined
set_option linter.unusedSimpArgs false
set_option linter.unusedVariables false
namespace Go.Proofs.YtmjdoceckpekmaaGreatDoor
open Go.ChangeShapes Go.WideShapes Go.ChangeAt Go.RowKit

theorem own : ownKnob Tryz.prog.godebug = none := by kernel_rfl
theorem laidOut : laidOutB Tryz.prog = true := by kernel_rfl

set_option maxRecDepth 100000 in
theorem lifted (halive : ∀ w, Calls Tryz.prog 4 #[] w fun x w' => x = .returned (.bool true) ∧ Below w.heap.size w w') (os : Os) (started : os.Started) (H : Type) (enc : TypeId × Value → H) :
    ReturnsInHanded {} Tryz.checked os 3 .any (fun w args => (Rows.sinkNilSpec.pre enc Tryz.prog Tryz.f3 [] false w args ∧ laidMetH Tryz.prog Rows.sinkNilRow.laid w) ∧ sizedMet enc Tryz.prog Tryz.f3 (OpenSpec.ofChange Rows.sinkNilSpec) false w args)
      (Rows.sinkNilSpec.post enc Tryz.prog Tryz.f3 false true false false) := by
  refine returnsInHanded_of_change_and (C := Tryz.checked) (X := fun w _ => laidMetH Tryz.prog Rows.sinkNilRow.laid w) (fun _ _ _ hh h => h.of_heap hh) own started (by kernel_rfl) Tryz.func3
    (ChangeSpec.witness_shaped (enc := enc) (C := Tryz.checked) (os := os) (X := fun w _ => laidMetH Tryz.prog Rows.sinkNilRow.laid w) false (World.laidAll Tryz.prog os Rows.sinkNilRow.laid) #[.int .i64 0, .int .i64 0] 8 (World.laidAll_os _ _ _)
      (World.shaped_of_ZipB (by kernel_rfl) (by kernel_rfl)) (by kernel_rfl) (by kernel_rfl) (by kernel_rfl)
      (by rw [MakeChecks.laidMetH_plain _ _ _ (by kernel_rfl)]; exact laidMet_laidAll _ (by kernel_rfl) (by kernel_rfl))) ?_
  intro W base args ds gs before hval0 hW _ _ hL _
  have hval : ∀ (j : Nat) t v, Tryz.f3.params[j]? = some t → args[j]? = some v → Value.okWide Tryz.prog W .any base t v := hval0
  have hW' := hW
  obtain ⟨p, q, hA0, hV, rfl, hfz, hnd⟩ := hW
  have hA : DataW.TrodAll enc Tryz.prog W 0 (fun _ => true) true Tryz.f3.params.toList args.toList ds p := hA0
  rw [Tryz.params3] at hA hval
  obtain ⟨v0, v1, d0, d1, p0, p1, rfl, rfl, rfl, h0, h1⟩ := trodAll_two hA
  obtain ⟨rfl, rfl⟩ := trodVars_none hV
  obtain ⟨a, rfl, rfl, rfl, wa⟩ := open_int Tryz.underlying2 (hval 0 2 v0 rfl rfl) h0
  obtain ⟨b, rfl, rfl, rfl, wb⟩ := open_int Tryz.underlying3 (hval 1 3 v1 rfl rfl) h1
  clear hA0 hval0
  simp only [List.append_nil] at hW'
  refine (Go.Am.sinkNil_of halive a b W).mono fun e W' ⟨he, hn⟩ => ?_
  subst he
  exact ⟨_, rfl, ⟨_, _, _, [], _, [], hW', trodAll_mk1 (shut_bool Tryz.underlying4 _), trodAll_mk2 (shut_int Tryz.underlying2 wa) (shut_int Tryz.underlying3 wb), rfl, hn.frame _, fun h => by cases h⟩⟩

abbrev Alive : Prop := ∀ w, Calls Tryz.prog 4 #[] w fun x w' => x = .returned (.bool true) ∧ Below w.heap.size w w'

theorem sinkNil_holds (halive : Alive) : Rows.SinkNilSaid :=
  OpenClaim.holds_of_wide 3 Tryz.f3 rfl rfl rfl rfl rfl rfl rfl ⟨rfl, rfl, rfl, rfl, rfl⟩ rfl rfl rfl rfl rfl (by kernel_rfl) Tryz.func3 (by kernel_rfl)
    (of_decide_eq_true (by kernel_rfl)) (by unfold Func.isWrapper; rw [if_neg (by decide +kernel)]; exact ⟨rfl, rfl⟩)
    (fun os started H enc _ => lifted halive os started H enc)

theorem sinkNil_card (halive : Alive) : Rows.SinkNilCardSaid :=
  Claim7.holds_tied_plain_at .later [] [.data, .pinned] true (true, "2bef4f5a6103fd349802f55703fcffb93878e5047f7f3b48df51eff5761f6d7a") true
    (sinkNil_holds halive) (fun _ h => by cases h) (by kernel_rfl) (fun _ h => by cases h) sinkNil_row_tie rfl ⟨rfl, rfl⟩ (by kernel_rfl) rfl
    (fun f fn hf hfn => by
      obtain rfl : f = 3 := Option.some.inj ((show Tryz.prog.funcNamed "headgate/headgatelaw24.SinkNil" = some 3 by kernel_rfl).symm.trans hf) |>.symm
      obtain rfl : fn = Tryz.f3 := (Option.some.inj (Tryz.func3.symm.trans hfn)).symm
      exact ⟨by kernel_rfl, fun j t ht => by
        rw [Tryz.params3] at ht
        have hm : t ∈ [2, 3] := by simpa using Array.mem_of_getElem? ht
        have hall : ([2, 3].all fun u => !Tryz.prog.wantsStandIn u) = true := by kernel_rfl
        exact (show Tryz.prog.wantsStandIn t = false by simpa using List.all_eq_true.1 hall t hm)⟩)
    (by kernel_rfl)

set_option maxRecDepth 100000 in
theorem alive_true : Alive := fun w => by
  have h := Go.Am.t
  unfold Go.Am.all at h
  split at h
  · rename_i b S' hr
    subst h
    exact Go.Am.closed_sound Go.Am.ok9 rfl hr rfl w
  · cases h

/-- NO SINK ANSWERS AS IS TOLD, WHATEVER THE NUMBER AND THE PARTS. -/
theorem sinkNil_holds_card : Rows.SinkNilCardSaid := sinkNil_card alive_true
end Go.Proofs.YtmjdoceckpekmaaGreatDoor
