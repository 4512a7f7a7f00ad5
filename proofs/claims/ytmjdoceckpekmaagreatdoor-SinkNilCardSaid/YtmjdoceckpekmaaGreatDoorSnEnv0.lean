import Derived.Test.YtmjdoceckpekmaaGreatDoorAmWp
import Derived.Test.YtmjdoceckpekmaaGreatDoorProg
set_option linter.unusedSimpArgs false
set_option linter.unusedVariables false
namespace Go.Am
open Go.Proofs
noncomputable def tFn : T Func := treeOf Tryz.prog.funcs.toList
noncomputable def tUnd : T (Option TypeDesc) := treeOf (undL Tryz.prog)
noncomputable def tTy : T TypeInfo := treeOf Tryz.prog.types.toList
def extT : T Native := (T.e.put 119 xClone).put 118 xIndex
def noNat : Nat → Option Native := fun _ => none
noncomputable def E0 : Env := { P := Tryz.prog, fn := tFn.get, und := fun t => mapT (tUnd.get t) id, siz := fun t => mapT (tTy.get t) fun i => some i.size, zer := fun t => mapT (tTy.get t) fun i => plainZ i.zero, byt := fun t => mapT (tTy.get t) fun i => some i.bytes, glob := 0, nat := noNat, ext := extT.get }
noncomputable def natT : T Native := T.e.put 126 (nExp E0 126 2000)
noncomputable def E1 : Env := { E0 with nat := natT.get }
theorem tab0 : E0.Tab := tab_of (nat := noNat) (ext := extT.get) (P := Tryz.prog) (by kernel_rfl) (by kernel_rfl) (by kernel_rfl)
theorem tab_nat {E : Env} (h : E.Tab) (n : Nat → Option Native) : ({ E with nat := n } : Env).Tab := ⟨h.und, h.siz, h.zer, h.byt, h.flds, h.fn, h.follows⟩
theorem tab1 : E1.Tab := tab_nat tab0 _
theorem isExt {P : Program} {f : FuncId} {e : Array Value → Sem Value} {fn : Func} (h : P.funcs[f]? = some fn) (h2 : (fn.body.isNone && (!(fn.name == "runtime.NumGoroutine") && (Extern.findNext fn).isNone)) = true) (h3 : Extern.find fn = some e) : IsExt P f e := by
  simp only [Bool.and_eq_true, Bool.not_eq_true'] at h2
  exact ⟨fn, h, h2.1, h2.2.1, h2.2.2, h3⟩
theorem x119 : IsExt Tryz.prog 119 Extern.MapsClone.clone := isExt (Tryz.func119) (by kernel_rfl) (by kernel_rfl)
theorem x118 : IsExt Tryz.prog 118 Extern.BytealgIndexByte.indexByte := isExt (Tryz.func118) (by kernel_rfl) (by kernel_rfl)
theorem two {f : Nat} {g : Native} (h : extT.get f = some g) : f = 118 ∧ g = xIndex ∨ f = 119 ∧ g = xClone := by
  unfold extT at h
  rw [T.get_put, T.get_put] at h
  split at h
  · rename_i q; cases h; exact .inl ⟨q, rfl⟩
  · split at h
    · rename_i q; cases h; exact .inr ⟨q, rfl⟩
    · simp [T.get] at h
theorem ext0 {E : Env} (hP : E.P = Tryz.prog) : ∀ f g, extT.get f = some g → ExtOk E f g := by
  intro f g h
  rcases two h with ⟨rfl, rfl⟩ | ⟨rfl, rfl⟩
  · exact index_ok (by rw [hP]; exact x118)
  · exact clone_ok (by rw [hP]; exact x119)
theorem ok0 : E0.Ok := ⟨tab0, ext0 rfl, fun f g h => by cases h⟩
end Go.Am
