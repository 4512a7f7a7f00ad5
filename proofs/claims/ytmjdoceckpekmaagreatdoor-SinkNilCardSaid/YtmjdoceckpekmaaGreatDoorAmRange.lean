import Derived.Test.YtmjdoceckpekmaaGreatDoorAmLeave
set_option linter.unusedSimpArgs false
set_option linter.unusedVariables false
namespace Go.Am

section
variable {P : Program}
theorem bare_range {g : Frame} {cs : List Frame} {w w1 : World} {f : Operand} {ps : Array Tmp} {as bd : Code} {k : List Item} {l : Nat} {mark : List Deferred} (hm : g.mode = .run) (ht : g.todo = .code (.rangeFunc f ps as bd) :: k)
    (he : (Instr.enterLoop g.fn g.tmps ps as bd g.roundOf).run P w = .ok (l, mark) w1) :
    (stepG P true { frame := g, callers := cs, status := .running, dying := none } w).bare =
      (stepG.apply P true { g with todo := .inRangeFunc l :: k, defers := mark ++ g.defers } cs none (do
        let d ← resolve ({ g with todo := .inRangeFunc l :: k, defers := mark ++ g.defers } : Frame).eval { callee := .value f, args := #[.const (.func (.yield l) #[] #[])], argTypes := #[] } 0
        invoke d.target d.args) w1).bare := by
  simp only [stepG, hm, stepG.exec, ht, Sem.runT_eq, he, GStep.bare_after]

theorem bare_begin {g : Frame} {cs : List Frame} {w : World} {k : List Item} {l : Nat} {r : Loop} (hm : g.mode = .run) (ht : g.todo = .beginRound :: k) (hr : g.roundOf = some l) (hh : w.heap[l]? = some (.loop r)) (hs : r.state = .ready) :
    (stepG P true { frame := g, callers := cs, status := .running, dying := none } w).bare = .go { frame := { g with todo := k }, callers := cs, status := .running, dying := none } (w.putObj l (.loop { r with state := .busy })) := by
  have hrun := run_beginRound (P := P) hh hs
  have h2 : (do Instr.beginRound l; pure Next.skip : Sem Next).run P w = .ok .skip (w.putObj l (.loop { r with state := .busy })) := (andThen_bind hrun).trans rfl
  simp only [stepG, hm, stepG.exec, ht, hr, Option.elim_some]
  rw [apply_skip h2]
  simp only [Frame.finish, ht, hm, hr]

theorem bare_end {g : Frame} {cs : List Frame} {w : World} {k : List Item} {l : Nat} {r : Loop} (hm : g.mode = .run) (ht : g.todo = .endRangeFunc l :: k) (hh : w.heap[l]? = some (.loop r)) (hs : r.state ≠ .busy) :
    (stepG P true { frame := g, callers := cs, status := .running, dying := none } w).bare = .go { frame := { g with todo := (r.pending.map Item.code).toList ++ k }, callers := cs, status := .running, dying := none } (w.putObj l (.loop { r with state := .exhausted })) := by
  have hrun := run_endLoop (P := P) hh hs
  simp only [stepG, hm, stepG.exec, ht, Sem.runT_eq, hrun, GStep.bare_after, GStep.bare_go]

theorem run_enterLoop_inner {w : World} {l : Nat} {r : Loop} (h : w.heap[l]? = some (.loop r)) (fn : FuncId) (tmps : Array Value) (ps : Array Tmp) (assign body : Code) :
    (Instr.enterLoop fn tmps ps assign body (some l)).run P w =
      .ok (w.heap.size, []) (w.alloc (.loop { state := .ready, pending := none, fn, tmps, params := ps, assign, body, defers := r.defers })) := by
  unfold Instr.enterLoop
  simp only [Sem.run_bind, run_getLoop h, run_newObj_alloc, Result.andThen, Sem.run_pure]
end

section
variable {E : Env} {ι0 ι : Emb} {S : Hp} {w0 w : World} {base : Nat} {cs0 : List Frame}

theorem leaveA_sound (hI : Inv ι S w0 w base) (hg : Glob ι0 ι E.glob) {fr : AFrame} {g : Frame} {cs : List AFrame} {gs : List Frame} (hf : FR E ι fr g) (hcs : FRs E ι cs gs) (hrun : fr.ret = false) {jump : Option Code} (hl : Leaves g.todo jump) {s' : ASt}
    (e : leaveA fr cs S jump = some s') : ∃ m', Steps E.P (lone g (gs ++ cs0) w) m' ∧ StR E ι0 w0 base cs0 s' m' := by
  obtain ⟨fn, n, a, todo, ds, ret, kind, ro⟩ := fr
  simp only at hrun; subst hrun
  obtain ⟨ts, td, ds', ro', rfl, hs, hds, hro, hb, hk⟩ := hf
  unfold leaveA at e
  cases ro with
  | none =>
    obtain rfl := hro
    have main : ∀ (q : jump = none ∨ jump = some .ret), ∃ m', Steps E.P (lone ⟨fn, ts, td, ds', modeOf false, kind, none⟩ (gs ++ cs0) w) m' ∧ StR E ι0 w0 base cs0 ⟨⟨fn, n, a, todo, ds, true, kind, none⟩, cs, S⟩ m' := by
      intro q
      refine ⟨_, Steps.one (step_leave_none rfl rfl hl q), ι, _, gs, w, rfl, ⟨ts, td, ds', none, rfl, hs, hds, rfl, hb, hk⟩, hcs, hI, hg⟩
    simp only at e
    split at e
    · cases e; exact main (.inl rfl)
    · cases e; exact main (.inr rfl)
    · cases e
  | some l =>
    obtain ⟨i, hi, h0, rfl⟩ := hro
    simp only at e
    split at e
    · rename_i st pe fn2 n2 tmps ps as bd dfs hlp
      obtain ⟨i2, lp, hi2, _, hheap, hlr⟩ := getLoopA_sound hI hlp
      rw [hi] at hi2; cases hi2
      have hbare := step_leave_round (P := E.P) (g := ⟨fn, ts, td, ds', modeOf false, kind, some i.blk⟩) (cs := gs ++ cs0) rfl rfl hl hheap
      have main : ∀ (st' : LoopState) (v : Bool), st' = (if jump.isNone then .ready else .done) → v = jump.isNone → back kind cs (S.put l (.loop ⟨st', jump, fn2, n2, tmps, ps, as, bd, dfs⟩)) (.bool v) = some s' →
          ∃ m', Steps E.P (lone ⟨fn, ts, td, ds', modeOf false, kind, some i.blk⟩ (gs ++ cs0) w) m' ∧ StR E ι0 w0 base cs0 s' m' := by
        intro st' v hst hv e'
        subst hv
        have hI' : Inv ι (S.put l (.loop ⟨st', jump, fn2, n2, tmps, ps, as, bd, dfs⟩)) w0 (w.putObj i.blk (.loop { lp with state := if jump.isNone then .ready else .done, pending := jump })) base :=
          hI.put (getLoopA_inv hlp) rfl rfl hi ⟨_, rfl, h0, ⟨hst.symm, rfl, hlr.fn, hlr.n, hlr.tmps, hlr.params, hlr.assign, hlr.body, hlr.defers⟩⟩
        obtain ⟨g', gs', h1, h2, h3, h4⟩ := back_sound (cs0 := cs0) (w := w.putObj i.blk (.loop { lp with state := if jump.isNone then .ready else .done, pending := jump })) (fr := ⟨fn, ts, td, ds', modeOf false, kind, some i.blk⟩) rfl hcs (v := .bool jump.isNone) (u := .bool jump.isNone) (VR.of_plain (.bool _) rfl) e'
        obtain ⟨sf, scs, sS⟩ := s'
        simp only at h2 h3 h4
        subst h4
        exact ⟨_, Steps.one (step_lone_go (hbare.trans (by rw [h1]; rfl))), ι, g', gs', _, rfl, h2, h3, hI', hg⟩
      split at e
      · exact main _ _ rfl rfl e
      · exact main _ _ rfl rfl e
    · cases e

/-- The call of the function that a loop ranges over. -/
theorem rangeA_sound (ok : E.Ok) (hI : Inv ι S w0 w base) (hg : Glob ι0 ι E.glob) {fr : AFrame} {g : Frame} {cs : List AFrame} {gs : List Frame} (hf : FR E ι fr g) (hcs : FRs E ι cs gs) {l : Nat} {i : Info} (hi : ι l = some i) (h0 : i.off = 0) {f : Operand} {fv : Value} (hfv : VR ι fv (g.eval f))
    {x : Nat} {k : List Item} (htd : g.todo = .inRangeFunc x :: k) {s' : ASt} (e : rangeA E fr cs S fv l = some s') :
    ∃ g' gs' w', (stepG.apply E.P true g (gs ++ cs0) none (do
        let d ← resolve g.eval { callee := .value f, args := #[.const (.func (.yield i.blk) #[] #[])], argTypes := #[] } 0
        invoke d.target d.args) w).bare = .go { frame := g', callers := gs', status := .running, dying := none } w' ∧ ∃ m', Steps E.P (lone g' gs' w') m' ∧ StR E ι0 w0 base cs0 s' m' := by
  have hyl : VR ι (.func (.yield l) #[] #[]) (.func (.yield i.blk) #[] #[]) := ⟨_, _, _, rfl, ⟨i, hi, h0, rfl⟩, rfl, rfl⟩
  unfold rangeA at e
  split at e
  · rename_i f0 first captured
    obtain ⟨f', x', y', hev, hfn, h1, h2⟩ := hfv
    obtain rfl : f' = .func f0 := hfn
    have hm : VRL ι (first.toList ++ (.func (.yield l) #[] #[] :: captured.toList)) (x'.toList ++ (.func (.yield i.blk) #[] #[] :: y'.toList)) := (VRA.iff.1 h1).append (VRL.cons hyl (VRA.iff.1 h2))
    obtain ⟨g', gs', w', hap, m', h3, h4⟩ := callA_sound (cs0 := cs0) ok hI hg hf hcs (fun d a b c k' => by rw [htd]; exact fun q => by cases q) hm e
    refine ⟨g', gs', w', hap _ ?_, m', h3, h4⟩
    have harr : (x'.toList ++ (.func (.yield i.blk) #[] #[] :: y'.toList)).toArray = x' ++ #[.func (.yield i.blk) #[] #[]] ++ y' := by apply Array.ext'; simp
    have hres : resolve g.eval { callee := .value f, args := #[.const (.func (.yield i.blk) #[] #[])], argTypes := #[] } 0 = pure { target := .fn (.func f0) y', args := x' ++ #[.func (.yield i.blk) #[] #[]] } := by
      have hmap : Array.map g.eval #[Operand.const (Value.func (Fn.yield i.blk) #[] #[])] = #[Value.func (Fn.yield i.blk) #[] #[]] := by simp [Frame.eval]
      simp only [resolve, hev, Deferred.ofValue, hmap]
    rw [hres, pure_bind, harr]
    rfl
  · rename_i j
    obtain ⟨f', x', y', hev, ⟨i', hi', h0', rfl⟩, h1, h2⟩ := hfv
    have hx : x' = #[] := by apply Array.ext'; exact h1
    have hy : y' = #[] := by apply Array.ext'; exact h2
    subst hx; subst hy
    split at e
    · rename_i r hlp
      split at e
      · rename_i nf hn
        cases e
        obtain ⟨i2, lp, hi2, _, hheap, hlr⟩ := getLoopA_sound hI hlp
        rw [hi'] at hi2; cases hi2
        obtain ⟨h3, h4⟩ := roundA_sound (E := E) hlr hi' h0' (VRL.cons hyl VRL.nil) hn
        refine ⟨_, _, w, apply_round ?_, _, Steps.refl _ _, ι, _, g :: gs, w, rfl, h3, ⟨g, gs, rfl, hf, hcs⟩, hI, hg⟩
        have hres : resolve g.eval { callee := .value f, args := #[.const (.func (.yield i.blk) #[] #[])], argTypes := #[] } 0 = pure { target := .fn (.yield i'.blk) #[], args := #[] ++ #[.func (.yield i.blk) #[] #[]] } := by
          have hmap : Array.map g.eval #[Operand.const (Value.func (Fn.yield i.blk) #[] #[])] = #[Value.func (Fn.yield i.blk) #[] #[]] := by simp [Frame.eval]
          simp only [resolve, hev, Deferred.ofValue, hmap]
        rw [hres, pure_bind]
        exact run_yield hheap h4
      · cases e
    · cases e
  · cases e
end
end Go.Am
