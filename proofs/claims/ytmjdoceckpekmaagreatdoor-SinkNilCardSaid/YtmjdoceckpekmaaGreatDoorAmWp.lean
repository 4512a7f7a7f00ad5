import Derived.Test.YtmjdoceckpekmaaGreatDoorAmExp
set_option linter.unusedSimpArgs false
set_option linter.unusedVariables false
namespace Go.Am

/-- Each machine that stands in s comes, for every tape, to stand in a state of Q. -/
def Wp (E : Env) (s : ASt) (Q : ASt → Prop) : Prop :=
  ∀ (ι0 : Emb) (w0 : World) (base : Nat) (cs0 : List Frame) (m : Machine), StR E ι0 w0 base cs0 s m → ∃ s' m', Steps E.P m m' ∧ StR E ι0 w0 base cs0 s' m' ∧ Q s'

/-- Slots of which less is known. -/
def Sub (a b : Tm) : Prop := ∀ t v, a.get t = some v → b.get t = some v
theorem Sub.refl (a : Tm) : Sub a a := fun _ _ h => h
theorem Sub.e (b : Tm) : Sub .e b := fun t v h => by simp [T.get] at h
theorem Sub.put {a b : Tm} {k : Nat} {v : Value} (h : b.get k = some v) (r : Sub a b) : Sub (a.put k v) b := fun t u e => by
  rw [T.get_put] at e
  split at e
  · rename_i q; cases e; subst q; exact h
  · exact r t u e

def tmOf (o : Option ASt) : Tm := match o with
  | some s => s.fr.tmps
  | none => .e

def ASt.withT (s : ASt) (a : Tm) : ASt := ⟨⟨s.fr.fn, s.fr.n, a, s.fr.todo, s.fr.defers, s.fr.ret, s.fr.kind, s.fr.roundOf⟩, s.cs, s.S⟩

section
variable {E : Env} {Q R : ASt → Prop} {s s' : ASt}

theorem Wp.done (h : Q s) : Wp E s Q := fun _ _ _ _ m r => ⟨s, m, Steps.refl _ _, r, h⟩
theorem Wp.mono (h : Wp E s Q) (k : ∀ s, Q s → R s) : Wp E s R := fun ι0 w0 base cs0 m r =>
  let ⟨s', m', a, b, c⟩ := h ι0 w0 base cs0 m r; ⟨s', m', a, b, k _ c⟩
theorem Wp.bind (h : Wp E s Q) (k : ∀ s, Q s → Wp E s R) : Wp E s R := fun ι0 w0 base cs0 m r =>
  let ⟨s', _, a, b, c⟩ := h ι0 w0 base cs0 m r
  let ⟨s2, m2, a2, b2, c2⟩ := k s' c ι0 w0 base cs0 _ b
  ⟨s2, m2, a.trans a2, b2, c2⟩
theorem Wp.step (ok : E.Ok) (e : Am.step E none s = some s') (k : Wp E s' Q) : Wp E s Q := fun ι0 w0 base cs0 _ r =>
  let ⟨_, a, b⟩ := step_sound ok r (fun _ _ q => by cases q) e
  let ⟨s2, m2, a2, b2, c2⟩ := k ι0 w0 base cs0 _ b
  ⟨s2, m2, a.trans a2, b2, c2⟩
theorem Wp.steps (ok : E.Ok) : ∀ {k : Nat} {s : ASt}, Am.steps E k s = some s' → Wp E s' Q → Wp E s Q
  | 0, s, e, h => by simp only [Am.steps, Option.some.injEq] at e; subst e; exact h
  | k + 1, s, e, h => by
    simp only [Am.steps] at e
    split at e
    · rename_i s1 hs; exact Wp.step ok hs (Wp.steps ok e h)
    · cases e
/-- The next entry of a map: whichever it is. -/
theorem Wp.next (ok : E.Ok) {N : Nat} (hN : 0 < N) (h : ∀ j, j < N → ∃ s', Am.step E (some (N, j)) s = some s' ∧ Wp E s' Q) : Wp E s Q := fun ι0 w0 base cs0 m r =>
  let ⟨_, e, k⟩ := h (m.world.tape m.world.drawn (.mapNext N) % N) (Nat.mod_lt _ hN)
  let ⟨_, a, b⟩ := step_sound ok r (fun _ _ q => by cases q; rfl) e
  let ⟨s2, m2, a2, b2, c2⟩ := k ι0 w0 base cs0 _ b
  ⟨s2, m2, a.trans a2, b2, c2⟩

theorem Wp.tmps {fn n a a' todo ds ret kind ro cs S} (hnd : notDrawn todo = true) (h : Sub a' a) (w : Wp E ⟨⟨fn, n, a', todo, ds, ret, kind, ro⟩, cs, S⟩ Q) :
    Wp E ⟨⟨fn, n, a, todo, ds, ret, kind, ro⟩, cs, S⟩ Q := by
  intro ι0 w0 base cs0 m ⟨ι, g, gs, w1, hm, hf, hcs, hI, hg⟩
  obtain ⟨ts, td, ds', ro', hgeq, hs, hds, hro, hb, hk⟩ := hf
  obtain ⟨hT, hTd⟩ := hb.of_not hnd
  exact w ι0 w0 base cs0 m ⟨ι, g, gs, w1, hm, ⟨ts, td, ds', ro', hgeq, hs, hds, hro, .plain (fun t v e => hT t v (h t v e)) hTd, hk⟩, hcs, hI, hg⟩

/-- Some steps, and what is known behind them. -/
theorem Wp.seg (ok : E.Ok) (k : Nat) (s2 : ASt) (hnd : notDrawn s2.fr.todo = true) (h : Am.steps E k s = some (s2.withT (tmOf (Am.steps E k s)))) (hs : Sub s2.fr.tmps (tmOf (Am.steps E k s)))
    (w : Wp E s2 Q) : Wp E s Q :=
  Wp.steps ok h (Wp.tmps hnd hs w)

theorem natOk_of_wp (ok : E.Ok) {f : FuncId} {g : Native} (hb : HasBody E.P f)
    (h : ∀ args S v S', g args S = some (v, S') → ∃ fr, enterA E f args .normal = some fr ∧ Wp E ⟨fr, [], S⟩ (fun s' => s'.fr.fn = f ∧ ended E s' = some v ∧ s'.S = S')) : NatOk E f g := by
  refine ⟨hb, ?_⟩
  intro ι S w0 w base args args' v S' hI hg hm e cs
  obtain ⟨fr, hfr, hw⟩ := h args S v S' e
  obtain ⟨h1, _⟩ := enterA_sound ok.tab ⟨fun q => CallKind.noConfusion q, fun q => CallKind.noConfusion q⟩ hfr hm
  obtain ⟨s', m', hst, hR, hfn, hend, rfl⟩ := hw ι w0 base cs _ ⟨ι, _, [], w, rfl, h1, rfl, hI, hg⟩
  obtain ⟨ι', gf, w', u, rfl, h2, h3, h5, h7, h6⟩ := ended_sound ok.tab hR hend
  exact ⟨.returned u, w', gf, ⟨ι', u, rfl, h5, h7, h6⟩, hst, h2.trans hfn, h3⟩

theorem step_light {pk fn n a a' v ops o rest k ds kind ro cs S} (hw : wantedA ops a o = some true) (hl : isLight E o = true) (hv : light E S a o = some v) (hp : putDst n a o.dst v = some a') :
    Am.step E pk ⟨⟨fn, n, a, .inRegion ops (o :: rest) :: k, ds, false, kind, ro⟩, cs, S⟩ = some ⟨⟨fn, n, a', .inRegion ops rest :: k, ds, false, kind, ro⟩, cs, S⟩ := by
  simp only [Am.step, sItem, sRegion, sOper, hw, hl, hv, hp]
end
end Go.Am
