import Derived.Test.YtmjdoceckpekmaaGreatDoorSnCrc
set_option linter.unusedSimpArgs false
set_option linter.unusedVariables false
namespace Go.Am
open Go.Proofs
noncomputable def natT2 : T Native := (T.e.put 126 (nExp E0 126 2000)).put 39 Crc.nCrc
noncomputable def E9 : Env := { E0 with nat := natT2.get }
theorem tab9 : E9.Tab := tab_nat tab0 _
theorem hb126 : HasBody Tryz.prog 126 := ⟨Tryz.f126, _, Tryz.func126, rfl, by kernel_rfl⟩
theorem nat_of {E E' : Env} {f : FuncId} {g : Native} (hP : E'.P = E.P) (hg : E'.glob = E.glob) (h : NatOk E f g) : NatOk E' f g := by
  obtain ⟨a, b⟩ := h
  refine ⟨hP ▸ a, ?_⟩
  intro ι S w0 w base args args' v S' hI hG hm e
  rw [hP]
  exact b ι S w0 w base args args' v S' hI (hg ▸ hG) hm e
set_option maxRecDepth 100000 in
theorem ok9 : E9.Ok := ⟨tab9, ext0 rfl, fun f g h => by
  have h : natT2.get f = some g := h
  unfold natT2 at h
  rw [T.get_put, T.get_put] at h
  split at h
  · rename_i q; cases h; subst q; exact nat_of (E := E0) rfl rfl Crc.crc_ok
  · split at h
    · rename_i q; cases h; subst q; exact nat_of (E := E0) rfl rfl (nExp_ok ok0 hb126 2000)
    · simp [T.get] at h⟩
noncomputable def all (n : Nat) : Bool := match run E9 4 [] ⟨.e, 1⟩ n with
    | some (.bool b, _) => b
    | _ => false
set_option maxRecDepth 1000000
theorem t : all 200000 = true := by kernel_rfl
end Go.Am
