import Derived.Test.YtmjdoceckpekmaaGreatDoorAmCall
set_option linter.unusedSimpArgs false
set_option linter.unusedVariables false
namespace Go.Am

/-- A frame leaves: by its end, or by a jump that goes out of it. -/
def Leaves (td : List Item) : Option Code → Prop
  | none => td = []
  | some c => ∃ k, td = .code c :: k ∧ ((c = .ret) ∨ (∃ id, c = .exit id ∧ exitTo id k = none) ∨ ∃ l, c = .goto l ∧ gotoIn l k = none)

section
variable {P : Program}
theorem step_leave_none {g : Frame} {cs : List Frame} {w : World} {jump : Option Code} (hm : g.mode = .run) (hr : g.roundOf = none) (hl : Leaves g.todo jump) (hj : jump = none ∨ jump = some .ret) :
    Go.step P (lone g cs w) = .next (lone { g with mode := .returning } cs w) := by
  refine step_lone_go ?_
  rcases hj with rfl | rfl
  · have ht : g.todo = [] := hl
    simp [stepG, stepG.exec, hm, ht, hr]
  · obtain ⟨k, ht, _⟩ := hl
    simp [stepG, stepG.exec, hm, ht, hr]

theorem step_leave_round {g : Frame} {cs : List Frame} {w : World} {jump : Option Code} {l : Nat} {r : Loop} (hm : g.mode = .run) (hr : g.roundOf = some l) (hl : Leaves g.todo jump) (hh : w.heap[l]? = some (.loop r)) :
    (stepG P true { frame := g, callers := cs, status := .running, dying := none } w).bare =
      (doReturn P true g cs none (.bool jump.isNone) (w.putObj l (.loop { r with state := if jump.isNone then .ready else .done, pending := jump }))).bare := by
  have he := fun j => run_endRound (P := P) j hh
  cases jump with
  | none =>
    have ht : g.todo = [] := hl
    have := he none
    simp [stepG, stepG.exec, hm, ht, hr, Sem.runT_eq, this]
  | some c =>
    have := he (some c)
    obtain ⟨k, ht, rfl | ⟨id, rfl, hx⟩ | ⟨lb, rfl, hx⟩⟩ := hl
    · simp [stepG, stepG.exec, hm, ht, hr, Sem.runT_eq, this]
    · simp [stepG, stepG.exec, hm, ht, hr, hx, Sem.runT_eq, this]
    · simp [stepG, stepG.exec, hm, ht, hr, hx, Sem.runT_eq, this]
end

section
variable {E : Env} {ι0 ι : Emb} {S : Hp} {w0 w : World} {base : Nat} {cs0 : List Frame}

theorem resultsL_sound (ok : E.Tab) (hI : Inv ι S w0 w base) {a : Tm} {ts : Array Value} (ht : TR ι a ts) {f : ResultVar → Sem Value} (h1 : ∀ t, f (.tmp t) = pure (ts.getD t undef)) (h2 : ∀ c t, f (.cell c t) = (do loadVar t (← asAddr (ts.getD c undef)))) :
    ∀ {l : List ResultVar} {vs : List Value}, resultsL E S a l = some vs → ∃ us, (l.mapM f).run E.P w = .ok us w ∧ VRL ι vs us := by
  intro l
  induction l with
  | nil => intro vs e; simp only [resultsL, Option.some.injEq] at e; subst e; exact ⟨[], rfl, VRL.nil⟩
  | cons x l ih =>
    intro vs e
    cases x with
    | tmp t =>
      simp only [resultsL] at e
      split at e
      · rename_i v r hv hr
        cases e
        obtain ⟨us, h3, h4⟩ := ih hr
        obtain ⟨u, hu, hvu⟩ := ht t v hv
        refine ⟨u :: us, ?_, VRL.cons hvu h4⟩
        rw [List.mapM_cons, h1]
        have : ts.getD t undef = u := by simp [hu]
        rw [this, pure_bind, andThen_bind h3]; rfl
      · cases e
    | cell c t =>
      simp only [resultsL] at e
      split at e
      · rename_i p hp
        split at e
        · rename_i v r hs hv hr
          cases e
          obtain ⟨us, h3, h4⟩ := ih hr
          obtain ⟨u, hu, i, hi, hsp, rfl⟩ := ht c _ hp
          obtain ⟨x, hvx, hx⟩ := loadV_sound ok hI hv hi
          refine ⟨x :: us, ?_, VRL.cons hvx h4⟩
          rw [List.mapM_cons, h2]
          have : ts.getD c undef = .pointer (some ⟨i.blk, i.off + p.off, none⟩) := by simp [hu]
          rw [this]
          simp only [asAddr, pure_bind]
          rw [andThen_bind hx, andThen_bind h3]; rfl
        · cases e
      · cases e

theorem resultsA_sound (ok : E.Tab) (hI : Inv ι S w0 w base) {fn : Func} {a : Tm} {ts : Array Value} (ht : TR ι a ts) {v : Value} (e : resultsA E S fn a = some v) : ∃ u, VR ι v u ∧ (results fn ts).run E.P w = .ok u w := by
  unfold resultsA at e
  unfold results
  have main : ∀ {l}, resultsL E S a fn.results.toList = some l → ∃ us : List Value, (fn.results.mapM fun (x : ResultVar) => match x with
      | .tmp t => (pure (ts.getD t undef) : Sem Value)
      | .cell a t => do loadVar t (← asAddr (ts.getD a undef))).run E.P w = .ok us.toArray w ∧ VRL ι l us := by
    intro l hl
    obtain ⟨us, h1, h2⟩ := resultsL_sound ok hI ht (f := fun x => match x with
      | .tmp t => (pure (ts.getD t undef) : Sem Value)
      | .cell a t => do loadVar t (← asAddr (ts.getD a undef))) (fun _ => rfl) (fun _ _ => rfl) hl
    refine ⟨us, ?_, h2⟩
    rw [Array.mapM_eq_mapM_toList]
    have : ∀ (s : Sem (List Value)), s.run E.P w = .ok us w → (List.toArray <$> s).run E.P w = .ok us.toArray w := by
      intro s hs
      rw [map_eq_pure_bind, andThen_bind hs]; rfl
    exact this _ h1
  split at e
  · rename_i v' hl
    cases e
    obtain ⟨us, h1, u, r, rfl, h2, h3⟩ := main hl
    obtain rfl : r = [] := h3
    exact ⟨u, h2, (andThen_bind h1).trans rfl⟩
  · rename_i l hne hl
    cases e
    obtain ⟨us, h1, h2⟩ := main hl
    refine ⟨.tuple us.toArray, ⟨us.toArray, rfl, by rw [VRA.iff]; simpa using h2⟩, (andThen_bind h1).trans ?_⟩
    have : us.toArray.size ≠ 1 := by
      intro q
      have := h2.length
      simp at q
      rw [q] at this
      match l, this with
      | [x], _ => exact hne x rfl
    simp only [this, dif_neg, not_false_eq_true]; rfl
  · cases e

theorem DfR.append {ds l : List Deferred} : ∀ {cs m : List Deferred}, DfR ι cs m → DfR ι ds l → DfR ι (cs ++ ds) (m ++ l)
  | [], _, e, h => by rw [show _ = [] from e]; exact h
  | ⟨.collected _, _⟩ :: _, _, ⟨i, r, x, a, b, c, d⟩, h => by subst a; exact ⟨i, r ++ l, x, rfl, b, c, DfR.append d h⟩
  | ⟨.fn (.func _) _, _⟩ :: _, _, ⟨c', a', r, a, b, c, d⟩, h => by subst a; exact ⟨c', a', r ++ l, rfl, b, c, DfR.append d h⟩
  | ⟨.nil, _⟩ :: _, _, e, _ => e.elim
  | ⟨.builtin _ _ _ _, _⟩ :: _, _, e, _ => e.elim
  | ⟨.coroexit _, _⟩ :: _, _, e, _ => e.elim
  | ⟨.fn (.method _) _, _⟩ :: _, _, e, _ => e.elim
  | ⟨.fn (.methodOf _ _) _, _⟩ :: _, _, e, _ => e.elim
  | ⟨.fn (.via _ _ _ _) _, _⟩ :: _, _, e, _ => e.elim
  | ⟨.fn (.yield _) _, _⟩ :: _, _, e, _ => e.elim

theorem BodyR.of_not {a : Tm} {todo : List AItem} {ts : Array Value} {td : List Item} (h : BodyR E ι a todo ts td) (hn : notDrawn todo = true) : TR ι a ts ∧ TdR ι todo td := by
  cases h with
  | plain h k => exact ⟨h, k⟩
  | drawn _ _ => cases hn
  | wait _ _ => cases hn

theorem retA_sound (ok : E.Ok) (hI : Inv ι S w0 w base) (hg : Glob ι0 ι E.glob) {fr : AFrame} {g : Frame} {cs : List AFrame} {gs : List Frame} (hf : FR E ι fr g) (hcs : FRs E ι cs gs) (hret : fr.ret = true) {s' : ASt} (e : retA E fr cs S = some s') :
    ∃ m', Steps E.P (lone g (gs ++ cs0) w) m' ∧ StR E ι0 w0 base cs0 s' m' := by
  obtain ⟨fn, n, a, todo, ds, ret, kind, ro⟩ := fr
  simp only at hret; subst hret
  obtain ⟨ts, td, ds', ro', rfl, hs, hds, hro, hb, hk⟩ := hf
  have hun : ∀ dd, stepG E.P true { frame := ⟨fn, ts, td, dd, .returning, kind, ro'⟩, callers := gs ++ cs0, status := .running, dying := none } w = unwind E.P true ⟨fn, ts, td, dd, .returning, kind, ro'⟩ (gs ++ cs0) none w := fun _ => rfl
  unfold retA at e
  simp only at e
  split at e
  · rename_i b x ds
    split at e
    · rename_i calls hc
      cases e
      obtain ⟨i, r, x', rfl, hi, h0, hr⟩ := hds
      obtain ⟨i2, hi2, ds2, hh, _, hd2⟩ := hI.obj _ _ hc
      rw [hi] at hi2; cases hi2
      refine ⟨_, Steps.one (step_lone_go (fr' := ⟨fn, ts, td, ds2 ++ r, .returning, kind, ro'⟩) (cs' := gs ++ cs0) (w' := w.putObj i.blk (.deferred none)) ?_), ι, _, gs, _, rfl, ⟨ts, td, ds2 ++ r, ro', rfl, hs, hd2.append hr, hro, hb, hk⟩, hcs, hI.lose (o' := .deferred none) hc rfl rfl hi ⟨rfl, h0⟩, hg⟩
      have := run_takeDeferred (P := E.P) hh
      simp [modeOf, stepG, unwind, Sem.runT_eq, this]
    · cases e
  · rename_i f captured args ds
    split at e
    · cases e
    · split at e
      · rename_i nf hn
        cases e
        obtain ⟨c', a', r, rfl, h1, h2, h3⟩ := hds
        obtain ⟨h4, h5⟩ := enterA_sound ok.tab ⟨fun q => CallKind.noConfusion q, fun q => CallKind.noConfusion q⟩ hn ((VRA.iff.1 h2).append (VRA.iff.1 h1))
        refine ⟨_, Steps.one (step_lone_go (fr' := Frame.enter E.P f (a'.toList ++ c'.toList).toArray .deferred) (cs' := ⟨fn, ts, td, r, .returning, kind, ro'⟩ :: (gs ++ cs0)) (w' := w) ?_), ι, _, ⟨fn, ts, td, r, .returning, kind, ro'⟩ :: gs, w, rfl, h4, ⟨_, gs, rfl, ⟨ts, td, r, ro', rfl, hs, h3, hro, hb, hk⟩, hcs⟩, hI, hg⟩
        have harr : (a'.toList ++ c'.toList).toArray = a' ++ c' := by apply Array.ext'; simp
        have hrun : (invoke (.fn (.func f) c') a').run E.P w = .ok (.enter f (a' ++ c')) w := run_callFunc h5 _ _
        rw [harr]
        simp [modeOf, stepG, unwind, callDeferred, Sem.runT_eq, hrun]
      · cases e
  · cases e
  · split at e
    · rename_i hnd
      split at e
      · rename_i gf hgf
        split at e
        · rename_i v hv
          obtain rfl := hds
          have htr : TR ι a ts := (hb.of_not hnd).1
          obtain ⟨u, hu, hr⟩ := resultsA_sound ok.tab hI htr hv
          obtain ⟨g', gs', h1, h2, h3, h4⟩ := back_sound (cs0 := cs0) (w := w) (fr := ⟨fn, ts, td, [], .returning, kind, ro'⟩) rfl hcs hu e
          obtain ⟨sf, scs, sS⟩ := s'
          simp only at h2 h3 h4
          subst h4
          refine ⟨_, Steps.one (step_lone_go (fr' := g') (cs' := gs' ++ cs0) (w' := w) ?_), ι, g', gs', w, rfl, h2, h3, hI, hg⟩
          have hgf' := (ok.tab.fn _ _ hgf).1
          simp [modeOf, stepG, unwind, hgf', Sem.runT_eq, hr, h1]
        · cases e
      · cases e
    · cases e
end
end Go.Am
