import Derived.Test.YtmjdoceckpekmaaGreatDoorAmStage
set_option linter.unusedSimpArgs false
set_option linter.unusedVariables false
namespace Go.Am

def HasBody (P : Program) (f : FuncId) : Prop := ∃ fn c, P.funcs[f]? = some fn ∧ fn.body = some c ∧ (fn.name == "runtime.NumGoroutine") = false

theorem run_callFunc {P : Program} {f : FuncId} (h : HasBody P f) (args : Array Value) (w : World) : (callFunc f args).run P w = .ok (.enter f args) w := by
  obtain ⟨fn, c, hf, hb, hn⟩ := h
  have hp : (program).run P w = .ok P w := rfl
  unfold callFunc
  rw [andThen_bind hp]
  simp only [hf, hn, hb, Option.isNone_some, Bool.false_eq_true, if_false]
  rfl

/-- What is answered without a walk is so. -/
def NatOk (E : Env) (f : FuncId) (g : Native) : Prop := HasBody E.P f ∧ ∀ (ι : Emb) (S : Hp) (w0 w : World) (base : Nat) (args args' : List Value) (v : Value) (S' : Hp), Inv ι S w0 w base → Glob ι ι E.glob → VRL ι args args' → g args S = some (v, S') →
  Calls E.P f args'.toArray w fun e w' => ∃ ι' u, e = .returned u ∧ VR ι' v u ∧ Ext ι ι' ∧ Inv ι' S' w0 w' base

/-- What a function without a Go body yields is so. -/
def ExtOk (E : Env) (f : FuncId) (g : Native) : Prop := ∀ (ι : Emb) (S : Hp) (w0 w : World) (base : Nat) (args args' : List Value) (v : Value) (S' : Hp), Inv ι S w0 w base → VRL ι args args' → g args S = some (v, S') →
  ∃ ι' u w', (callFunc f args'.toArray).run E.P w = .ok (.value u) w' ∧ VR ι' v u ∧ Ext ι ι' ∧ Inv ι' S' w0 w' base

structure Env.Ok (E : Env) : Prop where
  tab : E.Tab
  ext : ∀ f g, E.ext f = some g → ExtOk E f g
  nat : ∀ f g, E.nat f = some g → NatOk E f g

theorem Frame.eta (g : Frame) : g = ⟨g.fn, g.tmps, g.todo, g.defers, g.mode, g.kind, g.roundOf⟩ := by cases g; rfl

section
variable {E : Env} {ι0 ι : Emb} {S : Hp} {w0 w : World} {base : Nat} {cs0 : List Frame}

theorem TR.ofList {l m : List Value} {ts : Array Value} (h : VRL ι l m) (hts : ∀ (i : Nat) (u : Value), m[i]? = some u → ts[i]? = some u) : TR ι (T.ofList l 0 .e) ts := by
  intro t v e
  rw [T.get_ofList] at e
  split at e
  · obtain ⟨u, hu, r⟩ := h.get e
    exact ⟨u, hts t u (by simpa using hu), r⟩
  · simp [T.get] at e

theorem enterA_sound (ok : E.Tab) {kind : CallKind} (hk : kind ≠ .early ∧ kind ≠ .wrapped) {f : FuncId} {args m : List Value} {fr : AFrame} (e : enterA E f args kind = some fr) (hm : VRL ι args m) :
    FR E ι fr (Frame.enter E.P f m.toArray kind) ∧ HasBody E.P f := by
  unfold enterA at e
  split at e
  · rename_i fn hf
    obtain ⟨hfn, hname⟩ := ok.fn _ _ hf
    split at e
    · rename_i c hc
      split at e
      · rename_i hle
        have hle := Nat.le_of_ble_eq_true hle
        cases e
        refine ⟨⟨m.toArray ++ Array.replicate (fn.ntmps - m.toArray.size) undef, [.code c], [], none, ?_, ?_, rfl, rfl, .plain ?_ ⟨_, _, rfl, rfl, rfl⟩, hk⟩, fn, c, hfn, hc, hname⟩
        · simp only [Frame.enter, hfn, Option.map_some, Option.getD_some, Option.bind_some, hc]; rfl
        · have := hm.length; simp; omega
        · exact TR.ofList hm fun i u hu => by
            have hi := (List.getElem?_eq_some_iff.1 hu).1
            rw [Array.getElem?_append_left (by simpa using hi)]
            simpa using hu
      · cases e
    · cases e
  · cases e

theorem callA_sound (ok : E.Ok) (hI : Inv ι S w0 w base) (hg : Glob ι0 ι E.glob) {fr : AFrame} {g : Frame} {cs : List AFrame} {gs : List Frame} (hf : FR E ι fr g) (hcs : FRs E ι cs gs) (hk : ∀ d a b c k, g.todo ≠ .call d a b c :: k) {f : FuncId} {args m : List Value} (hm : VRL ι args m) {s' : ASt}
    (e : callA E fr cs S f args = some s') : ∃ g' gs' w', (∀ s : Sem Next, s.run E.P w = (callFunc f m.toArray).run E.P w → (stepG.apply E.P true g (gs ++ cs0) none s w).bare = .go { frame := g', callers := gs', status := .running, dying := none } w') ∧
      ∃ m', Steps E.P (lone g' gs' w') m' ∧ StR E ι0 w0 base cs0 s' m' := by
  unfold callA at e
  split at e
  · rename_i nat hn
    split at e
    · rename_i v S' hv
      split at e
      · rename_i fr' hfin
        cases e
        obtain ⟨ι', u, w', hr, hvu, hE, hI'⟩ := ok.ext _ _ hn ι S w0 w base args m v S' hI hm hv
        obtain ⟨h1, _⟩ := finish_sound (hf.ext hE) hfin hvu
        exact ⟨g.finish u, gs ++ cs0, w', fun s hs => apply_value (hs.trans hr), _, Steps.refl _ _, ι', _, gs, w', rfl, h1, hcs.ext hE, hI', hg.ext hE⟩
      · cases e
    · cases e
  split at e
  · rename_i nat hn
    split at e
    · rename_i v S' hv
      split at e
      · rename_i fr' hfin
        cases e
        obtain ⟨hb, hc⟩ := ok.nat _ _ hn
        refine ⟨Frame.enter E.P f m.toArray .normal, g :: (gs ++ cs0), w, fun s hs => apply_enter (hs.trans (run_callFunc hb _ _)) hk, ?_⟩
        obtain ⟨x, w', fr2, ⟨ι', u, rfl, hvu, hE, hI'⟩, hst, hfn, hl⟩ := hc ι S w0 w base args m v S' hI hg.self hm hv (g :: (gs ++ cs0))
        obtain ⟨h1, _⟩ := finish_sound (hf.ext hE) hfin hvu
        exact ⟨_, Steps.trans hst (Steps.one (step_leave_returned hl)), ι', _, gs, w', rfl, h1, hcs.ext hE, hI', hg.ext hE⟩
      · cases e
    · cases e
  · split at e
    · rename_i n hn
      cases e
      obtain ⟨h1, hb⟩ := enterA_sound ok.tab ⟨by decide, by decide⟩ hn hm
      exact ⟨Frame.enter E.P f m.toArray .normal, g :: (gs ++ cs0), w, fun s hs => apply_enter (hs.trans (run_callFunc hb _ _)) hk, _, Steps.refl _ _, ι, _, g :: gs, w, rfl, h1, ⟨g, gs, rfl, hf, hcs⟩, hI, hg⟩
    · cases e

theorem putAll_sound {n : Nat} : ∀ {ts : List Tmp} {vs us : List Value} {a a' : Tm} {tmps : Array Value}, putAll n ts vs a = some a' → VRL ι vs us → TR ι a tmps → tmps.size = n →
    TR ι a' ((ts.zip us).foldl (fun tmps p => tmps.setIfInBounds p.1 p.2) tmps) ∧ ((ts.zip us).foldl (fun (tmps : Array Value) p => tmps.setIfInBounds p.1 p.2) tmps).size = n ∧ us.length = ts.length := by
  intro ts
  induction ts with
  | nil =>
    intro vs us a a' tmps e hu h hs
    cases vs with
    | nil => simp only [putAll, Option.some.injEq] at e; subst e; obtain rfl := hu; exact ⟨h, hs, rfl⟩
    | cons v vs => simp [putAll] at e
  | cons t ts ih =>
    intro vs us a a' tmps e hu h hs
    cases vs with
    | nil => simp [putAll] at e
    | cons v vs =>
      obtain ⟨u, us, rfl, hvu, hu⟩ := hu
      simp only [putAll] at e
      split at e
      · rename_i hd
        have hput : putDst n a (some t) v = some (a.put t v) := by simp only [putDst, hd]
        obtain ⟨h1, h2⟩ := putDst_sound hput hs h hvu
        obtain ⟨h3, h4, h5⟩ := ih e hu h1 h2
        exact ⟨h3, h4, by simp [h5]⟩
      · cases e

theorem fold_zip {α β γ : Type} (f : γ → α × β → γ) (a : Array α) (b : Array β) (x : γ) : (a.zip b).foldl f x = (a.toList.zip b.toList).foldl f x := by
  rw [← Array.foldl_toList, Array.toList_zip]

theorem roundA_sound {r : ALoop} {lp : Loop} (hl : LpR ι r lp) {l : Nat} {i : Info} (hi : ι l = some i) (h0 : i.off = 0) {args us : List Value} (hu : VRL ι args us) {fr : AFrame} (e : roundA l r args = some fr) :
    FR E ι fr (Frame.round i.blk lp.fn ((lp.params.zip us.toArray).foldl (fun tmps (t, a) => tmps.setIfInBounds t a) lp.tmps) lp.assign lp.body .normal) ∧ us.toArray.size = lp.params.size := by
  unfold roundA at e
  split at e
  · rename_i a ha
    cases e
    obtain ⟨h1, h2, h3⟩ := putAll_sound ha hu hl.tmps hl.n
    refine ⟨⟨(lp.params.zip us.toArray).foldl (fun tmps (t, a) => tmps.setIfInBounds t a) lp.tmps, [.code lp.assign, .beginRound, .code lp.body], [], some i.blk, ?_, ?_, rfl, ⟨i, hi, h0, rfl⟩, .plain ?_ ?_, ?_, ?_⟩, ?_⟩
    · simp only [Frame.round, hl.fn]; rfl
    · rw [fold_zip, hl.params]; exact h2
    · rw [fold_zip, hl.params]; exact h1
    · rw [hl.assign, hl.body]; exact ⟨_, _, rfl, rfl, _, _, rfl, rfl, _, _, rfl, rfl, rfl⟩
    · exact fun q => CallKind.noConfusion q
    · exact fun q => CallKind.noConfusion q
    · rw [hl.params]; simpa using h3
  · cases e

theorem getLoopA_inv {l : Nat} {r : ALoop} (e : getLoopA S l = some r) : S.get l = some (.loop r) := by
  unfold getLoopA at e
  split at e
  · rename_i r' h; cases e; exact h
  · cases e

theorem getLoopA_sound (hI : Inv ι S w0 w base) {l : Nat} {r : ALoop} (e : getLoopA S l = some r) : ∃ i lp, ι l = some i ∧ i.off = 0 ∧ w.heap[i.blk]? = some (.loop lp) ∧ LpR ι r lp := by
  obtain ⟨i, hi, lp, h1, h2, h3⟩ := hI.obj _ _ (getLoopA_inv e)
  exact ⟨i, lp, hi, h2, h1, h3⟩

theorem back_sound {kind : CallKind} {fr : Frame} (hfk : fr.kind = kind) {cs : List AFrame} {gs : List Frame} (hcs : FRs E ι cs gs) {v u : Value} (hv : VR ι v u) {s' : ASt} (e : back kind cs S v = some s') :
    ∃ g' gs', doReturn E.P true fr (gs ++ cs0) none u w = .go { frame := g', callers := gs' ++ cs0, status := .running, dying := none } w ∧ FR E ι s'.fr g' ∧ FRs E ι s'.cs gs' ∧ s'.S = S := by
  unfold back at e
  split at e
  · rename_i c cs
    obtain ⟨g, gs, rfl, hc, hcs⟩ := hcs
    split at e
    · split at e
      · rename_i c' hfin
        cases e
        obtain ⟨h1, _⟩ := finish_sound hc hfin hv
        refine ⟨_, gs, ?_, h1, hcs, rfl⟩
        simp only [doReturn, List.cons_append, hfk]
      · cases e
    · cases e
      refine ⟨g, gs, ?_, hc, hcs, rfl⟩
      obtain ⟨ts, td, ds, ro, rfl, _⟩ := hc
      simp only [doReturn, List.cons_append, hfk]
      cases c.ret <;> rfl
    · cases e
  · cases e

/-- An operation that makes or writes, of a frame that stands before it. -/
theorem heavyA_sound (ok : E.Ok) (hI : Inv ι S w0 w base) (hg : Glob ι0 ι E.glob) {fr : AFrame} {g : Frame} {cs : List AFrame} {gs : List Frame} (hf : FR E ι fr g) (hcs : FRs E ι cs gs) (hrun : fr.ret = false) {arr : Array Oper} {i : Nat} {idx : List Nat} {k : List Item} {o : Oper}
    (htd : g.todo = .inRegion arr (i :: idx) :: k) (ho : arr[i]? = some o) (hw : Region.wanted o (yielded arr g.tmps) = true) (hρ : EvR E ι fr.tmps g.eval (· ∈ o.op.operands)) {pk : Option (Nat × Nat)} (hpk : ∀ n j, pk = some (n, j) → j = w.tape w.drawn (.mapNext n) % n) {s' : ASt} (e : heavyA E pk fr cs S o = some s') :
    ∃ m', Steps E.P (lone g (gs ++ cs0) w) m' ∧ StR E ι0 w0 base cs0 s' m' := by
  have hmode : g.mode = .run := by
    obtain ⟨ts, td, ds, ro, rfl, _⟩ := hf
    simp only [hrun, modeOf]
  have hro : RoR ι fr.roundOf g.roundOf := by
    obtain ⟨ts, td, ds, ro, rfl, _, _, h, _⟩ := hf; exact h
  unfold heavyA at e
  split at e
  · rename_i hrec
    split at e
    · rename_i hmay
      split at e
      · rename_i fr' hfin
        cases e
        have hr : (execOp g.eval o).run E.P w = .ok .recover w := by
          obtain ⟨dst, op, ty, pos, after, guard⟩ := o
          unfold isRecover at hrec
          split at hrec
          · rename_i c hc
            split at hrec
            · rename_i hcc
              obtain ⟨callee, args, argTypes⟩ := c
              simp only at hc hcc
              subst hc; subst hcc
              rfl
            · cases hrec
          · cases hrec
        have hnd : g.roundOf = none := by
          unfold mayRecover at hmay
          split at hmay
          · cases hmay
          · rename_i hn; rw [hn] at hro; exact hro
        obtain ⟨h1, _⟩ := finish_sound hf hfin (VR.of_plain .nilIface rfl)
        refine ⟨_, Steps.one (step_lone_go ((op_bare hmode htd ho hw (.inl hnd)).trans ?_)), ι, _, gs, w, rfl, h1, hcs, hI, hg⟩
        have hno : tryRecover g (gs ++ cs0) = none := by
          obtain ⟨ts, td, ds, ro, rfl, _⟩ := hf
          unfold tryRecover
          split
          · rename_i caller rest hkd hcl
            simp only at hkd
            unfold mayRecover at hmay
            split at hmay
            · cases hmay
            · cases cs with
              | nil => simp only [hkd] at hmay; cases hmay
              | cons c cs =>
                obtain ⟨g', gs', rfl, hc, _⟩ := hcs
                simp only [List.cons_append, List.cons.injEq] at hcl
                obtain ⟨rfl, _⟩ := hcl
                obtain ⟨ts', td', ds', ro', rfl, _⟩ := hc
                cases c.ret <;> rfl
          · rename_i wr rest hkd hcl
            simp only at hkd
            obtain ⟨_, _, _, _, _, hk⟩ := ‹_ ∧ _›
            exact absurd hkd hk
          · rfl
        cases hg' : g.roundOf with
        | none => simp [stepG.apply, hr, hg', hno]
        | some l => rw [hg'] at hnd; cases hnd
      · cases e
    · cases e
  split at e
  · rename_i v S' hh
    split at e
    · rename_i fr' hfin
      cases e
      obtain ⟨ι', n, w', hr, hE, hn, hI'⟩ := heavy_sound ok.tab hI hpk hρ hh
      have hnd : g.roundOf = none ∨ ∀ c, o.op ≠ .defer c := by
        right; intro c hc
        unfold heavy at hh
        rw [hc] at hh
        simp only [hDefer] at hh
        split at hh
        · split at hh <;> cases hh
        · cases hh
      have key : ∀ u, VR ι' v u → (stepG E.P true { frame := g, callers := gs ++ cs0, status := .running, dying := none } w).bare = .go { frame := g.finish u, callers := gs ++ cs0, status := .running, dying := none } w' → ∃ m', Steps E.P (lone g (gs ++ cs0) w) m' ∧ StR E ι0 w0 base cs0 ⟨fr', cs, S'⟩ m' := by
        intro u hu hst
        obtain ⟨h1, _⟩ := finish_sound (hf.ext hE) hfin hu
        exact ⟨_, Steps.one (step_lone_go hst), ι', _, gs, w', rfl, h1, hcs.ext hE, hI', hg.ext hE⟩
      cases hn with
      | value u hu => exact key u hu (by rw [op_bare hmode htd ho hw hnd]; exact apply_value hr)
      | skip hv => subst hv; exact key undef (VR.of_plain _ rfl) (by rw [op_bare hmode htd ho hw hnd]; exact apply_skip hr)
    · cases e
  · rename_i d hh
    split at e
    · rename_i hron
      split at e
      · rename_i fn n a todo ds ret kind ro hfin
        cases e
        obtain ⟨d', hr, hd⟩ := heavy_sound ok.tab hI hpk hρ hh
        have hgro : g.roundOf = none := by rw [hron] at hro; exact hro
        obtain ⟨h1, h2, h3, h4, h5⟩ := finish_sound hf hfin (VR.of_plain undef rfl)
        refine ⟨_, Steps.one (step_lone_go (by rw [op_bare hmode htd ho hw (.inl hgro)]; exact apply_defer hr)), ι, _, gs, w, rfl, ?_, hcs, hI, hg⟩
        have hfd : ({ g with defers := d' :: g.defers } : Frame).finish undef = { g.finish undef with defers := d' :: (g.finish undef).defers } := by
          unfold Frame.finish
          rw [htd]
        rw [hfd]
        obtain ⟨ts, td, ds', ro', hq, hs, hds, hr', hb, hk⟩ := h1
        rw [hq]
        refine ⟨ts, td, d' :: ds', ro', rfl, hs, ?_, hr', hb, hk⟩
        have : ∀ (d : Deferred) (l : List Deferred) (l' : List Deferred) (d' : Deferred), DfR ι [d] [d'] → DfR ι l l' → DfR ι (d :: l) (d' :: l') := by
          intro d l l' d' h h'
          obtain ⟨tg, as⟩ := d
          cases tg with
          | fn f c =>
            cases f with
            | func f => obtain ⟨c', a', r, e, x, y, _⟩ := h; cases e; exact ⟨c', a', l', rfl, x, y, h'⟩
            | _ => exact h.elim
          | collected b => obtain ⟨i, r, x, e, y, z, _⟩ := h; cases e; exact ⟨i, l', x, rfl, y, z, h'⟩
          | _ => exact h.elim
        exact this _ _ _ _ hd hds
      · cases e
    · cases e
  · rename_i f args hh
    obtain ⟨m, hm, hr⟩ := heavy_sound ok.tab hI hpk hρ hh
    obtain ⟨g', gs', w', h0, m', h1, h2⟩ := callA_sound (cs0 := cs0) ok hI hg hf hcs (fun d a b c k' => by rw [htd]; exact fun q => by cases q) hm e
    have hnd : g.roundOf = none ∨ ∀ c, o.op ≠ .defer c := by
      right; intro c hc
      unfold heavy at hh
      rw [hc] at hh
      simp only [hDefer] at hh
      split at hh
      · split at hh <;> cases hh
      · cases hh
    refine ⟨m', Steps.head (step_lone_go ?_) h1, h2⟩
    rw [op_bare hmode htd ho hw hnd]
    exact h0 _ hr
  · rename_i l args hh
    obtain ⟨i', us, hi', h0, hu, hr⟩ := heavy_sound ok.tab hI hpk hρ hh
    split at e
    · rename_i r hlp
      split at e
      · rename_i n hn
        cases e
        obtain ⟨i2, lp, hi2, _, hheap, hlr⟩ := getLoopA_sound hI hlp
        rw [hi'] at hi2; cases hi2
        obtain ⟨h1, h2⟩ := roundA_sound (E := E) hlr hi' h0 hu hn
        have hnd : g.roundOf = none ∨ ∀ c, o.op ≠ .defer c := by
          right; intro c hc
          unfold heavy at hh
          rw [hc] at hh
          simp only [hDefer] at hh
          split at hh
          · split at hh <;> cases hh
          · cases hh
        refine ⟨_, Steps.one (step_lone_go (by rw [op_bare hmode htd ho hw hnd]; exact apply_round (hr.trans (run_yield hheap h2)))), ι, _, g :: gs, w, rfl, h1, ⟨g, gs, rfl, hf, hcs⟩, hI, hg⟩
      · cases e
    · cases e
  · cases e
end
end Go.Am
