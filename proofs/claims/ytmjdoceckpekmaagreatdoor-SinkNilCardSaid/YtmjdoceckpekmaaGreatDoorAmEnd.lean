import Derived.Test.YtmjdoceckpekmaaGreatDoorAmRun
set_option linter.unusedSimpArgs false
set_option linter.unusedVariables false
namespace Go.Am
open Go.RowKit

section
variable {E : Env} {ι0 ι : Emb} {S : Hp} {w0 w : World} {base : Nat} {cs0 : List Frame}

theorem ended_sound (ok : E.Tab) {s : ASt} {m : Machine} (h : StR E ι0 w0 base cs0 s m) {v : Value} (e : ended E s = some v) :
    ∃ ι g w u, m = lone g cs0 w ∧ g.fn = s.fr.fn ∧ g.leaving E.P w (.returned u) ∧ VR ι v u ∧ Ext ι0 ι ∧ Inv ι s.S w0 w base := by
  obtain ⟨ι, g, gs, w, rfl, hf, hcs, hI, hg⟩ := h
  unfold ended at e
  split at e
  · rename_i fn n a todo S
    split at e
    · rename_i hnd
      split at e
      · rename_i gf hgf
        obtain ⟨ts, td, ds', ro', rfl, hs, hds, hro, hb, hk⟩ := hf
        obtain rfl := hcs
        obtain rfl := hds
        obtain ⟨u, hu, hr⟩ := resultsA_sound ok hI (hb.of_not hnd).1 e
        exact ⟨ι, _, w, u, rfl, rfl, ⟨rfl, rfl, rfl, gf, (ok.fn _ _ hgf).1, hr⟩, hu, hg.1, hI⟩
      · cases e
    · cases e
  · cases e

theorem till_sound (ok : E.Ok) {f : FuncId} {v : Value} {S' : Hp} : ∀ (n : Nat) {s : ASt} {m : Machine}, StR E ι0 w0 base cs0 s m → till E f n s = some (v, S') →
    ∃ ι g w u, Steps E.P m (lone g cs0 w) ∧ g.fn = f ∧ g.leaving E.P w (.returned u) ∧ VR ι v u ∧ Ext ι0 ι ∧ Inv ι S' w0 w base := by
  intro n
  induction n with
  | zero => intro s m _ e; simp [till] at e
  | succ n ih =>
    intro s m h e
    simp only [till] at e
    split at e
    · rename_i s1 hs
      obtain ⟨m1, h1, h2⟩ := step_sound ok h (fun _ _ q => by cases q) hs
      obtain ⟨ι, g, w, u, h3, h4⟩ := ih h2 e
      exact ⟨ι, g, w, u, h1.trans h3, h4⟩
    · split at e
      · rename_i hfn
        split at e
        · rename_i v' hv
          cases e
          obtain ⟨ι, g, w, u, rfl, h1, h2, h3, h4⟩ := ended_sound ok.tab h hv
          exact ⟨ι, g, w, u, Steps.refl _ _, by rw [h1]; exact Nat.eq_of_beq_eq_true hfn, h2, h3, h4⟩
        · cases e
      · cases e

/-- WHAT THE ABSTRACT MACHINE COMES TO, THE MODEL COMES TO: at every world, for every tape. -/
theorem run_sound (ok : E.Ok) (hI : Inv ι S w0 w base) (hg : Glob ι ι E.glob) {f : FuncId} {args m : List Value} (hm : VRL ι args m) {n : Nat} {v : Value} {S' : Hp} (e : run E f args S n = some (v, S')) :
    Calls E.P f m.toArray w fun x w' => ∃ ι' u, x = .returned u ∧ VR ι' v u ∧ Ext ι ι' ∧ Inv ι' S' w0 w' base := by
  intro cs
  unfold run at e
  split at e
  · rename_i s hs
    unfold begun at hs
    split at hs
    · rename_i fr hfr
      cases hs
      obtain ⟨h1, _⟩ := enterA_sound ok.tab ⟨fun q => CallKind.noConfusion q, fun q => CallKind.noConfusion q⟩ hfr hm
      obtain ⟨ι', g, w', u, h2, h3, h4, h5, h7, h6⟩ := till_sound (ι0 := ι) (cs0 := cs) (s := ⟨fr, [], S⟩) ok n ⟨ι, _, [], w, rfl, h1, rfl, hI, hg⟩ e
      exact ⟨.returned u, w', g, ⟨ι', u, rfl, h5, h7, h6⟩, h2, h3, h4⟩
    · cases hs
  · cases e

theorem Inv.start (w : World) (n : Nat) : Inv (fun _ => none) ⟨.e, n⟩ w w w.heap.size where
  dom := fun _ _ => rfl
  fresh := fun b _ => by cases b <;> rfl
  rng := fun b i h => by cases h
  obj := fun b o h => by cases b <;> cases h
  inj := fun b c o p i j h => by cases b <;> cases h
  own := fun b o i h => by cases b <;> cases h
  keep := fun _ _ => rfl
  size := Nat.le_refl _
  os := rfl
  output := rfl
  tape := rfl

/-- A closed run: of no argument, from nothing. -/
theorem closed_sound (ok : E.Ok) (h0 : E.glob = 0) {f : FuncId} {n : Nat} {v : Value} {S' : Hp} (e : run E f [] ⟨.e, 1⟩ n = some (v, S')) (hv : plain v = true) (w : World) :
    Calls E.P f #[] w fun x w' => x = .returned v ∧ Below w.heap.size w w' := by
  refine Calls.mono (run_sound ok (Inv.start w 1) ⟨Ext.refl _, fun g hg => by rw [h0] at hg; omega⟩ (m := []) VRL.nil e) ?_
  rintro x w' ⟨ι', u, rfl, hu, _, hI⟩
  refine ⟨by rw [VR.plain _ _ hu hv], ?_⟩
  exact ⟨hI.os, hI.tape, hI.output, hI.size, fun k hk => hI.keep k hk⟩
def runV (E : Env) (f : FuncId) (args : List Value) (n : Nat) : Option Value := match run E f args ⟨.e, 1⟩ n with
  | some (v, _) => some v
  | none => none

/-- A run on arguments that hold no address, from nothing. -/
theorem plain_sound (ok : E.Ok) (h0 : E.glob = 0) {f : FuncId} {args : List Value} (ha : plainL args = true) {n : Nat} {v : Value} (e : runV E f args n = some v) (hv : plain v = true) (w : World) :
    Calls E.P f args.toArray w fun x w' => x = .returned v ∧ Below w.heap.size w w' := by
  unfold runV at e
  split at e
  · rename_i u S' hr
    cases e
    refine Calls.mono (run_sound ok (Inv.start w 1) ⟨Ext.refl _, fun g hg => by rw [h0] at hg; omega⟩ (VRL.of_plain args ha) hr) ?_
    rintro x w' ⟨ι', u, rfl, hu, _, hI⟩
    exact ⟨by rw [VR.plain _ _ hu hv], hI.os, hI.tape, hI.output, hI.size, fun k hk => hI.keep k hk⟩
  · cases e
theorem Inv.below {w' : World} (h : Inv ι S w0 w base) (k : Below w.heap.size w w') : Inv ι S w0 w' base where
  dom := h.dom
  fresh := h.fresh
  rng := fun b i e => Nat.lt_of_lt_of_le (h.rng b i e) k.size
  obj := fun b o e => by
    obtain ⟨i, hi, r⟩ := h.obj b o e
    exact ⟨i, hi, by rw [k.block _ (h.rng b i hi)]; exact r⟩
  inj := h.inj
  own := h.own
  keep := fun n hn => by rw [k.block n (Nat.lt_of_lt_of_le hn h.size)]; exact h.keep n hn
  size := Nat.le_trans h.size k.size
  os := k.os.trans h.os
  output := k.output.trans h.output
  tape := k.tape.trans h.tape

/-- A closed run as what is answered without a walk. -/
def nClosed (v : Value) : Native := fun args S => match args with
  | [] => some (v, S)
  | _ => none

theorem nClosed_ok {f : FuncId} {v : Value} (hv : plain v = true) (hb : HasBody E.P f) (h : ∀ w, Calls E.P f #[] w fun x w' => x = .returned v ∧ Below w.heap.size w w') : NatOk E f (nClosed v) := by
  refine ⟨hb, ?_⟩
  intro ι S w0 w base args args' u S' hI hg hm e
  unfold nClosed at e
  split at e
  · cases e
    obtain rfl := hm
    refine Calls.mono (h w) ?_
    rintro x w' ⟨rfl, hB⟩
    exact ⟨ι, v, rfl, VR.of_plain v hv, Ext.refl _, hI.below hB⟩
  · cases e
theorem till_steps {f : FuncId} {n : Nat} {r : Value × Hp} : ∀ (k : Nat) {s s' : ASt}, steps E k s = some s' → till E f n s' = some r → till E f (n + k) s = some r
  | 0, s, s', h, e => by simp only [steps, Option.some.injEq] at h; subst h; exact e
  | k + 1, s, s', h, e => by
    simp only [steps] at h
    split at h
    · rename_i s1 hs
      rw [show n + (k + 1) = (n + k) + 1 from rfl, till, hs]
      exact till_steps k h e
    · cases h
end
end Go.Am
