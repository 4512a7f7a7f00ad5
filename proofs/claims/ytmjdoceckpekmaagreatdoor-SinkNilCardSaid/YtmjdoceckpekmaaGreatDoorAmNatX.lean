import Derived.Test.YtmjdoceckpekmaaGreatDoorAmNat
import Derived.Lib.Bytealg
set_option linter.unusedSimpArgs false
set_option linter.unusedVariables false
namespace Go.Am

/-- A function without a Go body, and what the model holds it to be. -/
def IsExt (P : Program) (f : FuncId) (e : Array Value → Sem Value) : Prop :=
  ∃ fn, P.funcs[f]? = some fn ∧ fn.body.isNone = true ∧ (fn.name == "runtime.NumGoroutine") = false ∧ (Extern.findNext fn).isNone = true ∧ Extern.find fn = some e

theorem run_ext {P : Program} {f : FuncId} {e : Array Value → Sem Value} (h : IsExt P f e) {args : Array Value} {u : Value} {w w' : World} (hr : (e args).run P w = .ok u w') : (callFunc f args).run P w = .ok (.value u) w' := by
  obtain ⟨fn, hf, hb, hn, hx, he⟩ := h
  have hp : (program).run P w = .ok P w := rfl
  have hm : (mark (.extern f)).run P w = .ok () w := rfl
  unfold callFunc
  rw [andThen_bind hp]
  simp only [hf, hn, hb, Bool.false_eq_true, if_false, if_true]
  rw [andThen_bind hm]
  have hx' : Extern.findNext fn = none := by simpa using hx
  simp only [hx', he]
  refine Eq.trans (andThen_bind hr) ?_
  rfl

theorem clone_ok {E : Env} {f : FuncId} (h : IsExt E.P f Extern.MapsClone.clone) : ExtOk E f xClone := by
  intro ι S w0 w base args args' v S' hI hm e
  unfold xClone at e
  split at e
  · rename_i t r
    split at e
    · rename_i es bs clock hg
      cases e
      obtain ⟨u, us, rfl, ⟨u', rfl, i, hi, h0, rfl⟩, hus⟩ := hm
      obtain rfl := hus
      obtain ⟨i', hi', en, hw, _, hmr, hbs⟩ := hI.obj _ _ hg
      rw [hi] at hi'; cases hi'
      have hE : Ext ι (bindE ι S.next ⟨w.heap.size, 0, 0⟩) := bindE_ext _ (hI.dom _ (Nat.le_refl _))
      refine ⟨bindE ι S.next ⟨w.heap.size, 0, 0⟩, .iface t (.map (some w.heap.size)), w.alloc (.map en clock), run_ext h ?_, ⟨_, rfl, _, bindE_self _ _, rfl, rfl⟩, hE, hI.new ⟨en, rfl, rfl, hmr.ext hE, hbs⟩⟩
      show (Extern.MapsClone.clone #[.iface t (.map (some i.blk))]).run E.P w = _
      refine Eq.trans (andThen_bind (run_getObj_map hw)) ?_
      refine Eq.trans (andThen_bind (run_newObj_alloc _ _ _)) ?_
      rfl
    · cases e
  · cases e

theorem indexB_eq (c : UInt8) : ∀ (l : List UInt8) (i : Nat), indexB c.toNat l i = if Lib.indexByte l c == -1 then -1 else Lib.indexByte l c + i
  | [], i => by simp [indexB, Lib.indexByte]
  | b :: l, i => by
    simp only [indexB, Lib.indexByte]
    have ih := indexB_eq c l (i + 1)
    have hge := Lib.indexByte_ge l c
    cases hb : Nat.beq b.toNat c.toNat with
    | true =>
      have : b = c := by
        have := Nat.eq_of_beq_eq_true hb
        exact UInt8.toNat_inj.1 this
      subst this
      simp
    | false =>
      have hne : (b == c) = false := by
        cases q : (b == c)
        · rfl
        · have : b = c := by simpa using q
          subst this; simp at hb
      simp only [hne, Bool.false_eq_true, if_false]
      rw [ih]
      by_cases h1 : (Lib.indexByte l c == -1) = true
      · simp [h1]
      · have h1' : (Lib.indexByte l c == -1) = false := by simpa using h1
        simp only [h1', Bool.false_eq_true, if_false]
        have h2 : Lib.indexByte l c ≠ -1 := by simpa using h1
        have : (Lib.indexByte l c + 1 == -1) = false := by rw [beq_eq_false_iff_ne]; omega
        simp only [this, Bool.false_eq_true, if_false]
        omega

theorem index_ok {E : Env} {f : FuncId} (h : IsExt E.P f Extern.BytealgIndexByte.indexByte) : ExtOk E f xIndex := by
  intro ι S w0 w base args args' v S' hI hm e
  unfold xIndex at e
  split at e
  · rename_i l c
    split at e
    · rename_i hc
      have hc : c < 256 := Nat.le_of_ble_eq_true hc
      cases e
      obtain ⟨u, us, rfl, hu, u2, us2, rfl, hu2, hus⟩ := hm
      obtain rfl := hus
      obtain rfl := hu
      obtain rfl := hu2
      refine ⟨ι, _, w, run_ext h (Lib.run_indexByteString ⟨⟨l⟩⟩ (.ofNat c) w), ?_, Ext.refl _, hI⟩
      have h8 : (Int.ofNat c).toNat.toUInt8.toNat = c := by
        show (UInt8.ofNat c).toNat = c
        simp; omega
      have := indexB_eq (Int.ofNat c).toNat.toUInt8 l 0
      rw [h8] at this
      rw [this]
      show VR ι _ (.int .i64 (Lib.indexByte l (Int.ofNat c).toNat.toUInt8))
      have hq : (if Lib.indexByte l (Int.ofNat c).toNat.toUInt8 == -1 then -1 else Lib.indexByte l (Int.ofNat c).toNat.toUInt8 + ((0 : Nat) : Int)) = Lib.indexByte l (Int.ofNat c).toNat.toUInt8 := by
        split
        · rename_i h; exact (eq_of_beq h).symm
        · simp
      rw [hq]
      exact VR.of_plain _ rfl
    · cases e
  · cases e
end Go.Am
