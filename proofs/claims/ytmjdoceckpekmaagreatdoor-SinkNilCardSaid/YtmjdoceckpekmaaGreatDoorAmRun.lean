import Derived.Test.YtmjdoceckpekmaaGreatDoorAmRange
set_option linter.unusedSimpArgs false
set_option linter.unusedVariables false
namespace Go.Am

section
variable {E : Env} {ι0 ι : Emb} {S : Hp} {w0 w : World} {base : Nat} {cs0 : List Frame}

theorem drawn_start (ok : E.Tab) {a : Tm} {ts : Array Value} {arr : Array Oper} {pl : List DStage} (hpl : plan E arr.toList = some pl) (h : TR ι a ts) (t : Nat) :
    DrawnR E ι a arr.toList pl ts arr (Region.schedule (E.P.follows .mixedOrders) arr t) pl 0 arr.size t (Array.replicate arr.size false) where
  plan := hpl
  stages := rfl
  harr := rfl
  idx := by simp only [Region.schedule, ok.follows, Bool.true_or, if_true]; rfl
  size := by simp
  fuel := by
    unfold unlisted
    refine Nat.le_trans (List.length_filter_le _ _) ?_
    simp
  closed := by
    intro i o hi
    exfalso
    simp at hi
    by_cases q : i < arr.size <;> simp [q] at hi
  first := by
    intro j x _
    by_cases q : x < arr.size <;> simp [q]
  kle := Nat.zero_le _
  lights := by
    intro i hi
    exfalso
    simp at hi
    by_cases q : i < arr.size <;> simp [q] at hi
  tr := by
    intro s v hs
    obtain ⟨u, hu, r⟩ := h s v hs
    exact ⟨(Array.getElem?_eq_some_iff.1 hu).1, .inr ⟨u, hu, r⟩⟩

theorem drawn_mid {a a' : Tm} {ops : List Oper} {st : DStage} {rest : List DStage} {ts : Array Value} {arr : Array Oper} {idx : List Nat} {pl : List DStage} {k fuel t : Nat} {L : Array Bool} {n : Nat} (h : DrawnR E ι a ops (st :: rest) ts arr idx pl k fuel t L) (hn : ts.size = n)
    (hev : evAll E S n ops st.evs a = some a') : MidR E ι a' ops ts k fuel L ∧ st.chk = (lts E ops).filter (fun i => Nat.ble (lo E ops i) k && Nat.ble k (Am.hi E ops i)) ∧ st.hv = (hvs E ops)[k]? ∧ rest = pl.drop (k + 1) := by
  obtain ⟨_, _, hpe⟩ := plan_inv h.plan
  have hst := h.stages
  rw [hpe, planOf_drop _ _ _ _ _ _ h.kle, ← hpe] at hst
  simp only [Nat.zero_add, List.cons.injEq] at hst
  obtain ⟨rfl, rfl⟩ := hst
  refine ⟨⟨h.size, h.fuel, h.closed, h.first, fun i hi hl => Nat.le_of_lt (h.lights i hi hl), ?_⟩, rfl, rfl, rfl⟩
  intro s v hs
  rcases evAll_get hev s v hs with hq | ⟨hlt, i, hi, hd⟩
  · exact h.tr s v hq
  · refine ⟨by rw [hn]; exact hlt, .inl ⟨i, hd, ?_⟩⟩
    rw [List.mem_filter] at hi
    have hlit := (lts_mem.1 hi.1).2
    have hlo : lo E ops i = k := Nat.eq_of_beq_eq_true hi.2
    cases hL : L.getD i false
    · rfl
    · have := h.lights i hL hlit; omega

theorem range_eq (n : Nat) : List.range n = List.range' 0 n := List.range_eq_range'

theorem drawn_sound (ok : E.Ok) (hI : Inv ι S w0 w base) (hg : Glob ι0 ι E.glob) {fn : FuncId} {n : Nat} {a : Tm} {ops : List Oper} {stages : List DStage} {k : List AItem} {ds : List Deferred} {kind : CallKind} {ro : Option Nat} {cs : List AFrame} {gs : List Frame}
    {ts : Array Value} {td : List Item} {ds' : List Deferred} {ro' : Option Nat} (hs : ts.size = n) (hds : DfR ι ds ds') (hro : RoR ι ro ro') (hk : kind ≠ .early ∧ kind ≠ .wrapped) (hcs : FRs E ι cs gs)
    {arr : Array Oper} {idx : List Nat} {pl : List DStage} {j fuel t : Nat} {L : Array Bool} (hd : DrawnR E ι a ops stages ts arr idx pl j fuel t L) (hr : TdR ι k td) {pk : Option (Nat × Nat)} (hpk : ∀ n j, pk = some (n, j) → j = w.tape w.drawn (.mapNext n) % n) {s' : ASt}
    (e : Am.step E pk ⟨⟨fn, n, a, .drawn ops stages :: k, ds, false, kind, ro⟩, cs, S⟩ = some s') : ∃ m', Steps E.P (lone ⟨fn, ts, .inRegion arr idx :: td, ds', .run, kind, ro'⟩ (gs ++ cs0) w) m' ∧ StR E ι0 w0 base cs0 s' m' := by
  simp only [Am.step, sItem, sRegion, sOper, sCode, sCond, sReg, sExit, sGoto, sRange, sDrawn, sHv, sBegin, sEnd] at e
  split at e
  · cases e
  · rename_i evs chk hv rest
    split at e
    · rename_i a' hev
      split at e
      · rename_i hchk
        obtain ⟨hmid, hc, hh, hrest⟩ := drawn_mid hd hs hev
        simp only at hc hh
        rw [hc] at hchk
        have hidx := hd.idx
        obtain ⟨ts2, idx2, hst, hsz, hend⟩ := stage_sound ok.tab hI hg hd.harr hd.plan hchk hd.kle fn td ds' kind ro' (gs ++ cs0) fuel t L ts hmid
        rw [← hidx] at hst
        rw [← hh] at hend
        split at e
        · -- the end
          cases e
          obtain ⟨rfl, htr⟩ := hend
          refine ⟨_, Steps.trans hst (Steps.one (step_lone_go (fr' := ⟨fn, ts2, td, ds', .run, kind, ro'⟩) (cs' := gs ++ cs0) (w' := w) (by simp [fr0, stepG, stepG.exec]))), ι, _, gs, w, rfl, ⟨ts2, td, ds', ro', rfl, by rw [hsz, hs], hds, hro, .plain htr hr, hk⟩, hcs, hI, hg⟩
        · rename_i i
          obtain ⟨fuel2, t2, L2, rfl, hm2, hrdy⟩ := hend
          split at e
          · rename_i o ho
            rw [nth_eq] at ho
            have hslots := (plan_inv hd.plan).2.1
            have hsl : ∀ s v, s ∈ readsOf o ops → a'.get s = some v → ∃ u, ts2[s]? = some u ∧ VR ι v u := fun s v hs hv => slot_good (fun j hj => (hslots j hj).2) hm2.closed hrdy hm2.tr ho hs hv
            have harri : arr[i]? = some o := by rw [nth_arr hd.harr]; exact ho
            have hwant : ∀ {b}, wantedA ops a' o = some b → Region.wanted o (yielded arr ts2) = b := fun hw => wanted_sound hd.harr hw fun j x d' v' hg' hd' hv' => hsl d' v' (guard_reads hg' hd') hv'
            have hF : FR E ι ⟨fn, n, a', .wait ops i rest :: k, ds, false, kind, ro⟩ (fr0 fn ts2 (.inRegion arr (i :: Region.linearise.go .any arr fuel2 t2 (L2.setIfInBounds i true) []) :: td) ds' kind ro') :=
              ⟨ts2, _, ds', ro', rfl, by rw [hsz, hs], hds, hro, .wait (pl := pl) (k := j) (fuel := fuel2) (t := t2) (L := L2) { plan := hd.plan, stages := hrest, harr := hd.harr, here := hh.symm, idx := rfl, size := hm2.size, fuel := hm2.fuel, closed := hm2.closed, ready := hrdy, first := hm2.first, lights := hm2.lights, tr := hm2.tr } hr, hk⟩
            split at e
            · rename_i hw
              obtain ⟨m', h1, h2⟩ := heavyA_sound (cs0 := cs0) ok hI hg hF hcs rfl rfl harri (hwant hw) (eval_part (fun s hs v hv => hsl s v (operand_reads hs) hv) hg) hpk e
              exact ⟨m', Steps.trans hst h1, h2⟩
            · rename_i hw
              split at e
              · rename_i a2 ha2
                cases e
                have hdst : dstOf ops i = o.dst := by unfold dstOf; rw [nth_eq, ho]
                have hfin : AFrame.finish ⟨fn, n, a', .wait ops i rest :: k, ds, false, kind, ro⟩ undef = some ⟨fn, n, a2, .drawn ops rest :: k, ds, false, kind, ro⟩ := by
                  simp only [AFrame.finish, hdst, ha2]
                obtain ⟨h1, _⟩ := finish_sound hF hfin (VR.of_plain undef rfl)
                exact ⟨_, Steps.trans hst (Steps.one (op_skip rfl rfl harri (hwant hw))), ι, _, gs, w, rfl, h1, hcs, hI, hg⟩
              · cases e
            · cases e
          · cases e
      · cases e
    · cases e

theorem step_sound (ok : E.Ok) {s s' : ASt} {m : Machine} (h : StR E ι0 w0 base cs0 s m) {pk : Option (Nat × Nat)} (hpk : ∀ n j, pk = some (n, j) → j = m.world.tape m.world.drawn (.mapNext n) % n) (e : Am.step E pk s = some s') : ∃ m', Steps E.P m m' ∧ StR E ι0 w0 base cs0 s' m' := by
  obtain ⟨ι, g, gs, w, rfl, hf, hcs, hI, hg⟩ := h
  obtain ⟨⟨fn, n, a, todo, ds, ret, kind, ro⟩, cs, S⟩ := s
  simp only at hf hcs hI
  cases ret with
  | true => exact retA_sound ok hI hg hf hcs rfl (by simpa only [Am.step, sItem, sRegion, sOper, sCode, sCond, sReg, sExit, sGoto, sRange, sDrawn, sHv, sBegin, sEnd] using e)
  | false =>
    cases todo with
    | nil =>
      refine leaveA_sound hI hg hf hcs rfl (jump := none) ?_ (by simpa only [Am.step, sItem, sRegion, sOper, sCode, sCond, sReg, sExit, sGoto, sRange, sDrawn, sHv, sBegin, sEnd] using e)
      obtain ⟨ts, td, ds', ro', rfl, hs, hds, hro, hb, hk⟩ := hf
      cases hb with
      | plain _ h => exact h
    | cons it k =>
      cases it with
      | wait ops i st => simp [Am.step, sItem, sRegion, sOper, sCode, sCond, sReg, sExit, sGoto, sRange, sDrawn, sHv, sBegin, sEnd] at e
      | inRangeFunc l => simp [Am.step, sItem, sRegion, sOper, sCode, sCond, sReg, sExit, sGoto, sRange, sDrawn, sHv, sBegin, sEnd] at e
      | drawn ops st =>
        obtain ⟨ts, td, ds', ro', rfl, hs, hds, hro, hb, hk⟩ := hf
        cases hb with
        | plain _ h => obtain ⟨_, _, _, h, _⟩ := h; exact h.elim
        | drawn hd hr => exact drawn_sound ok hI hg hs hds hro hk hcs hd hr hpk e
      | inBlock id =>
        obtain ⟨ts, td, ds', ro', rfl, hs, hds, hro, hb, hk⟩ := hf
        cases hb with
        | plain ht h =>
          obtain ⟨y, ys, rfl, rfl, hr⟩ := h
          simp only [Am.step, sItem, sRegion, sOper, sCode, sCond, sReg, sExit, sGoto, sRange, sDrawn, sHv, sBegin, sEnd, Option.some.injEq] at e
          subst e
          exact ⟨_, Steps.one (step_lone_go (fr' := ⟨fn, ts, ys, ds', .run, kind, ro'⟩) (cs' := gs ++ cs0) (w' := w) (by simp [modeOf, stepG, stepG.exec])), ι, _, gs, w, rfl, ⟨ts, ys, ds', ro', rfl, hs, hds, hro, .plain ht hr, hk⟩, hcs, hI, hg⟩
      | inScope b =>
        obtain ⟨ts, td, ds', ro', rfl, hs, hds, hro, hb, hk⟩ := hf
        cases hb with
        | plain ht h =>
          obtain ⟨y, ys, rfl, rfl, hr⟩ := h
          simp only [Am.step, sItem, sRegion, sOper, sCode, sCond, sReg, sExit, sGoto, sRange, sDrawn, sHv, sBegin, sEnd, Option.some.injEq] at e
          subst e
          exact ⟨_, Steps.one (step_lone_go (fr' := ⟨fn, ts, ys, ds', .run, kind, ro'⟩) (cs' := gs ++ cs0) (w' := w) (by simp [modeOf, stepG, stepG.exec])), ι, _, gs, w, rfl, ⟨ts, ys, ds', ro', rfl, hs, hds, hro, .plain ht hr, hk⟩, hcs, hI, hg⟩
      | inLoop b =>
        obtain ⟨ts, td, ds', ro', rfl, hs, hds, hro, hb, hk⟩ := hf
        cases hb with
        | plain ht h =>
          obtain ⟨y, ys, rfl, rfl, hr⟩ := h
          simp only [Am.step, sItem, sRegion, sOper, sCode, sCond, sReg, sExit, sGoto, sRange, sDrawn, sHv, sBegin, sEnd, Option.some.injEq] at e
          subst e
          exact ⟨_, Steps.one (step_lone_go (fr' := ⟨fn, ts, .code b :: .inLoop b :: ys, ds', .run, kind, ro'⟩) (cs' := gs ++ cs0) (w' := w) (by simp [modeOf, stepG, stepG.exec])), ι, _, gs, w, rfl, ⟨ts, _, ds', ro', rfl, hs, hds, hro, .plain ht ⟨_, _, rfl, rfl, _, _, rfl, rfl, hr⟩, hk⟩, hcs, hI, hg⟩
      | beginRound =>
        obtain ⟨ts, td, ds', ro', rfl, hs, hds, hro, hb, hk⟩ := hf
        cases hb with
        | plain ht h =>
          obtain ⟨y, ys, rfl, rfl, hr⟩ := h
          simp only [Am.step, sItem, sRegion, sOper, sCode, sCond, sReg, sExit, sGoto, sRange, sDrawn, sHv, sBegin, sEnd] at e
          cases ro with
          | none => cases e
          | some l =>
            obtain ⟨i, hi, h0, rfl⟩ := hro
            simp only at e
            split at e
            · rename_i p f m2 t ps x y d hlp
              cases e
              obtain ⟨i2, lp, hi2, _, hheap, hlr⟩ := getLoopA_sound hI hlp
              rw [hi] at hi2; cases hi2
              have hb := bare_begin (P := E.P) (g := ⟨fn, ts, .beginRound :: ys, ds', .run, kind, some i.blk⟩) (cs := gs ++ cs0) rfl rfl rfl hheap hlr.state
              refine ⟨_, Steps.one (step_lone_go hb), ι, _, gs, _, rfl, ⟨ts, ys, ds', some i.blk, rfl, hs, hds, ⟨i, hi, h0, rfl⟩, .plain ht hr, hk⟩, hcs, ?_, hg⟩
              exact hI.put (getLoopA_inv hlp) rfl rfl hi ⟨_, rfl, h0, ⟨rfl, hlr.pending, hlr.fn, hlr.n, hlr.tmps, hlr.params, hlr.assign, hlr.body, hlr.defers⟩⟩
            · cases e
      | endRangeFunc l =>
        obtain ⟨ts, td, ds', ro', rfl, hs, hds, hro, hb, hk⟩ := hf
        cases hb with
        | plain ht h =>
          obtain ⟨y, ys, rfl, ⟨i, hi, h0, rfl⟩, hr⟩ := h
          simp only [Am.step, sItem, sRegion, sOper, sCode, sCond, sReg, sExit, sGoto, sRange, sDrawn, sHv, sBegin, sEnd] at e
          split at e
          · cases e
          · rename_i st p f m2 t ps x y d hne hlp
            obtain ⟨i2, lp, hi2, _, hheap, hlr⟩ := getLoopA_sound hI hlp
            rw [hi] at hi2; cases hi2
            have hnb : lp.state ≠ .busy := by rw [hlr.state]; exact fun q => hne q
            have hb := bare_end (P := E.P) (g := ⟨fn, ts, .endRangeFunc i.blk :: ys, ds', .run, kind, ro'⟩) (cs := gs ++ cs0) rfl rfl hheap hnb
            have hpe : lp.pending = p := hlr.pending
            have hI' := hI.lose (o' := .loop ⟨.exhausted, p, f, m2, t, ps, x, y, d⟩) (getLoopA_inv hlp) rfl rfl hi (x := .loop { lp with state := .exhausted }) ⟨_, rfl, h0, ⟨rfl, hlr.pending, hlr.fn, hlr.n, hlr.tmps, hlr.params, hlr.assign, hlr.body, hlr.defers⟩⟩
            rw [hpe] at hb hI'
            split at e
            · cases e
              exact ⟨_, Steps.one (step_lone_go hb), ι, _, gs, _, rfl, ⟨ts, ys, ds', ro', rfl, hs, hds, hro, .plain ht hr, hk⟩, hcs, hI', hg⟩
            · cases e
              exact ⟨_, Steps.one (step_lone_go hb), ι, _, gs, _, rfl, ⟨ts, _, ds', ro', rfl, hs, hds, hro, .plain ht ⟨_, _, rfl, rfl, hr⟩, hk⟩, hcs, hI', hg⟩
          · cases e
      | inRegion ops rest =>
        have hf0 := hf
        obtain ⟨ts, td, ds', ro', rfl, hs, hds, hro, hb, hk⟩ := hf
        cases hb with
        | plain ht h =>
          obtain ⟨y, ys, rfl, ⟨arr, j, rfl, harr, hdrop⟩, hr⟩ := h
          simp only [Am.step, sItem, sRegion, sOper, sCode, sCond, sReg, sExit, sGoto, sRange, sDrawn, sHv, sBegin, sEnd] at e
          cases rest with
          | nil =>
            cases e
            exact ⟨_, Steps.one (step_lone_go (fr' := ⟨fn, ts, ys, ds', .run, kind, ro'⟩) (cs' := gs ++ cs0) (w' := w) (by simp [modeOf, stepG, stepG.exec])), ι, _, gs, w, rfl, ⟨ts, ys, ds', ro', rfl, hs, hds, hro, .plain ht hr, hk⟩, hcs, hI, hg⟩
          | cons o rest =>
            obtain ⟨hj, hdrop'⟩ := drop_cons hdrop
            have harrj : arr[j]? = some o := by rw [nth_arr harr]; exact hj
            have hwant : ∀ {b}, wantedA ops a o = some b → Region.wanted o (yielded arr ts) = b := fun hw => wanted_sound harr hw fun j x d v _ _ hv => ht d v hv
            have hidx : List.range' j (o :: rest).length = j :: List.range' (j + 1) rest.length := by simp [List.range'_succ]
            have hev : EvR E ι a (Frame.eval ⟨fn, ts, .inRegion arr (List.range' j (o :: rest).length) :: ys, ds', modeOf false, kind, ro'⟩) (· ∈ o.op.operands) := eval_of ht hg _
            have skipOr : ∀ (v : Value) {a2}, putDst n a o.dst v = some a2 → AFrame.finish ⟨fn, n, a, .inRegion ops (o :: rest) :: k, ds, false, kind, ro⟩ v = some ⟨fn, n, a2, .inRegion ops rest :: k, ds, false, kind, ro⟩ := by
              intro v a2 h
              simp only [AFrame.finish, h]
            simp only at e
            split at e
            · rename_i hw
              split at e
              · rename_i hlit
                split at e
                · rename_i v hv
                  split at e
                  · rename_i a2 ha2
                    cases e
                    obtain ⟨u, hu, hvu⟩ := light_sound ok.tab hI hev hv
                    obtain ⟨h1, _⟩ := finish_sound hf0 (skipOr v ha2) hvu
                    refine ⟨_, Steps.one (step_lone_go ?_), ι, _, gs, w, rfl, h1, hcs, hI, hg⟩
                    rw [op_bare rfl (by rw [hidx]) harrj (hwant hw) ?_]
                    · exact apply_value hu
                    · right
                      intro c hc
                      unfold isLight at hlit; rw [hc] at hlit; cases hlit
                  · cases e
                · cases e
              · exact heavyA_sound ok hI hg hf0 hcs rfl (by rw [hidx]) harrj (hwant hw) hev hpk e
            · rename_i hw
              split at e
              · rename_i a2 ha2
                cases e
                obtain ⟨h1, _⟩ := finish_sound hf0 (skipOr undef ha2) (VR.of_plain undef rfl)
                exact ⟨_, Steps.one (op_skip rfl (by rw [hidx]) harrj (hwant hw)), ι, _, gs, w, rfl, h1, hcs, hI, hg⟩
              · cases e
            · cases e
      | code c =>
        have hf0 := hf
        obtain ⟨ts, td, ds', ro', rfl, hs, hds, hro, hb, hk⟩ := hf
        cases hb with
        | plain ht h =>
          obtain ⟨y, ys, rfl, rfl, hr⟩ := h
          have go : ∀ (td' : List Item) (k' : List AItem), TdR ι k' td' → (stepG E.P true { frame := ⟨fn, ts, .code c :: ys, ds', .run, kind, ro'⟩, callers := gs ++ cs0, status := .running, dying := none } w).bare = .go { frame := ⟨fn, ts, td', ds', .run, kind, ro'⟩, callers := gs ++ cs0, status := .running, dying := none } w →
              ∃ m', Steps E.P (lone ⟨fn, ts, .code c :: ys, ds', modeOf false, kind, ro'⟩ (gs ++ cs0) w) m' ∧ StR E ι0 w0 base cs0 ⟨⟨fn, n, a, k', ds, false, kind, ro⟩, cs, S⟩ m' := by
            intro td' k' hk' hst
            exact ⟨_, Steps.one (step_lone_go hst), ι, _, gs, w, rfl, ⟨ts, td', ds', ro', rfl, hs, hds, hro, .plain ht hk', hk⟩, hcs, hI, hg⟩
          cases c with
          | skip => simp only [Am.step, sItem, sRegion, sOper, sCode, sCond, sReg, sExit, sGoto, sRange, sDrawn, sHv, sBegin, sEnd, Option.some.injEq] at e; subst e; exact go ys k hr (by simp [stepG, stepG.exec])
          | label l => simp only [Am.step, sItem, sRegion, sOper, sCode, sCond, sReg, sExit, sGoto, sRange, sDrawn, sHv, sBegin, sEnd, Option.some.injEq] at e; subst e; exact go ys k hr (by simp [stepG, stepG.exec])
          | seq x y => simp only [Am.step, sItem, sRegion, sOper, sCode, sCond, sReg, sExit, sGoto, sRange, sDrawn, sHv, sBegin, sEnd, Option.some.injEq] at e; subst e; exact go (.code x :: .code y :: ys) _ ⟨_, _, rfl, rfl, _, _, rfl, rfl, hr⟩ (by simp [stepG, stepG.exec])
          | block id b => simp only [Am.step, sItem, sRegion, sOper, sCode, sCond, sReg, sExit, sGoto, sRange, sDrawn, sHv, sBegin, sEnd, Option.some.injEq] at e; subst e; exact go (.code b :: .inBlock id :: ys) _ ⟨_, _, rfl, rfl, _, _, rfl, rfl, hr⟩ (by simp [stepG, stepG.exec])
          | loop b => simp only [Am.step, sItem, sRegion, sOper, sCode, sCond, sReg, sExit, sGoto, sRange, sDrawn, sHv, sBegin, sEnd, Option.some.injEq] at e; subst e; exact go (.code b :: .inLoop b :: ys) _ ⟨_, _, rfl, rfl, _, _, rfl, rfl, hr⟩ (by simp [stepG, stepG.exec])
          | scope b => simp only [Am.step, sItem, sRegion, sOper, sCode, sCond, sReg, sExit, sGoto, sRange, sDrawn, sHv, sBegin, sEnd, Option.some.injEq] at e; subst e; exact go (.code b :: .inScope b :: ys) _ ⟨_, _, rfl, rfl, _, _, rfl, rfl, hr⟩ (by simp [stepG, stepG.exec])
          | refuse why => simp [Am.step, sItem, sRegion, sOper, sCode, sCond, sReg, sExit, sGoto, sRange, sDrawn, sHv, sBegin, sEnd] at e
          | cond c x y =>
            simp only [Am.step, sItem, sRegion, sOper, sCode, sCond, sReg, sExit, sGoto, sRange, sDrawn, sHv, sBegin, sEnd] at e
            have hev : ∀ v, ev E a c = some v → VR ι v (Frame.eval ⟨fn, ts, .code (.cond c x y) :: ys, ds', .run, kind, ro'⟩ c) := fun v hv => eval_of (g := ⟨fn, ts, .code (.cond c x y) :: ys, ds', .run, kind, ro'⟩) ht hg (fun _ => True) c v trivial hv
            split at e
            · rename_i hc
              cases e
              have h1 := VR.bool (hev _ hc)
              exact go (.code x :: ys) _ ⟨_, _, rfl, rfl, hr⟩ (by simp [stepG, stepG.exec, h1])
            · rename_i hc
              cases e
              have h1 := VR.bool (hev _ hc)
              exact go (.code y :: ys) _ ⟨_, _, rfl, rfl, hr⟩ (by simp [stepG, stepG.exec, h1])
            · cases e
          | ret => exact leaveA_sound hI hg hf0 hcs rfl (jump := some .ret) ⟨_, rfl, .inl rfl⟩ (by simpa only [Am.step, sItem, sRegion, sOper, sCode, sCond, sReg, sExit, sGoto, sRange, sDrawn, sHv, sBegin, sEnd] using e)
          | exit id =>
            simp only [Am.step, sItem, sRegion, sOper, sCode, sCond, sReg, sExit, sGoto, sRange, sDrawn, sHv, sBegin, sEnd] at e
            split at e
            · rename_i k' hk'
              cases e
              obtain ⟨td', h1, h2⟩ := exit_sound id hr hk'
              exact go td' k' h2 (by simp [stepG, stepG.exec, h1])
            · rename_i hk'
              exact leaveA_sound hI hg hf0 hcs rfl (jump := some (.exit id)) ⟨_, rfl, .inr (.inl ⟨id, rfl, exit_none id hr hk'⟩)⟩ e
          | goto l =>
            simp only [Am.step, sItem, sRegion, sOper, sCode, sCond, sReg, sExit, sGoto, sRange, sDrawn, sHv, sBegin, sEnd] at e
            split at e
            · rename_i k' hk'
              cases e
              obtain ⟨td', h1, h2⟩ := goto_sound l hr hk'
              exact go td' k' h2 (by simp [stepG, stepG.exec, h1])
            · rename_i hk'
              exact leaveA_sound hI hg hf0 hcs rfl (jump := some (.goto l)) ⟨_, rfl, .inr (.inr ⟨l, rfl, goto_none l hr hk'⟩)⟩ e
          | region id ops draw =>
            simp only [Am.step, sItem, sRegion, sOper, sCode, sCond, sReg, sExit, sGoto, sRange, sDrawn, sHv, sBegin, sEnd] at e
            split at e
            · split at e
              · rename_i pl hpl
                cases e
                have hst : (stepG E.P true { frame := ⟨fn, ts, .code (.region id ops true) :: ys, ds', .run, kind, ro'⟩, callers := gs ++ cs0, status := .running, dying := none } w).bare = .go { frame := ⟨fn, ts, .inRegion ops (Region.schedule (E.P.follows .mixedOrders) ops (w.tape w.drawn (.order fn id))) :: ys, ds', .run, kind, ro'⟩, callers := gs ++ cs0, status := .running, dying := none } { w with drawn := w.drawn + 1 } := by
                  simp [stepG, stepG.exec, choose, Sem.run, Question.forced, Question.cut]
                exact ⟨_, Steps.one (step_lone_go hst), ι, _, gs, _, rfl, ⟨ts, _, ds', ro', rfl, hs, hds, hro, .drawn (drawn_start ok.tab hpl ht _) hr, hk⟩, hcs, hI.drew _, hg⟩
              · cases e
            · cases e
              refine go (.inRegion ops (List.range ops.size) :: ys) _ ⟨_, _, rfl, ⟨ops, 0, ?_, rfl, by simp⟩, hr⟩ (by simp [stepG, stepG.exec])
              rw [range_eq]; simp
          | rangeFunc f ps as bd =>
            simp only [Am.step, sItem, sRegion, sOper, sCode, sCond, sReg, sExit, sGoto, sRange, sDrawn, sHv, sBegin, sEnd] at e
            split at e
            · rename_i fv hfv
              have hVR : ∀ ι', Ext ι ι' → VR ι' fv (Frame.eval ⟨fn, ts, .code (.rangeFunc f ps as bd) :: ys, ds', .run, kind, ro'⟩ f) := fun ι' hE => VR.ext hE _ _ (eval_of (g := ⟨fn, ts, .code (.rangeFunc f ps as bd) :: ys, ds', .run, kind, ro'⟩) ht hg (fun _ => True) f fv trivial hfv)
              cases ro with
              | some l =>
                obtain ⟨i, hi, h0, rfl⟩ := hro
                simp only at e
                split at e
                · rename_i r hlp
                  obtain ⟨i2, lp, hi2, _, hheap, hlr⟩ := getLoopA_sound hI hlp
                  rw [hi] at hi2; cases hi2
                  have hE : Ext ι (bindE ι S.next ⟨w.heap.size, 0, 0⟩) := bindE_ext _ (hI.dom _ (Nat.le_refl _))
                  obtain ⟨id, hid, hid0, hidd⟩ := hlr.defers
                  have hI' := hI.new (o := .loop ⟨.ready, none, fn, n, a, ps, as, bd, r.defers⟩) (x := .loop { state := .ready, pending := none, fn, tmps := ts, params := ps, assign := as, body := bd, defers := lp.defers }) (room := 0)
                    ⟨_, rfl, rfl, ⟨rfl, rfl, rfl, hs, ht.ext hE, rfl, rfl, rfl, id, hE _ _ hid, hid0, hidd⟩⟩
                  have hb := bare_range (P := E.P) (g := ⟨fn, ts, .code (.rangeFunc f ps as bd) :: ys, ds', .run, kind, some i.blk⟩) (cs := gs ++ cs0) rfl rfl (run_enterLoop_inner hheap fn ts ps as bd)
                  obtain ⟨g', gs', w', h1, m', h2, h3⟩ := rangeA_sound (cs0 := cs0) ok hI' (hg.ext hE) (fr := ⟨fn, n, a, .inRangeFunc S.next :: k, ds, false, kind, some l⟩) (g := ⟨fn, ts, .inRangeFunc w.heap.size :: ys, [] ++ ds', .run, kind, some i.blk⟩)
                    ⟨ts, _, ds', some i.blk, rfl, hs, hds.ext hE, ⟨i, hE _ _ hi, h0, rfl⟩, .plain (ht.ext hE) ⟨_, _, rfl, ⟨_, bindE_self _ _, rfl, rfl⟩, hr.ext hE⟩, hk⟩ (hcs.ext hE) (bindE_self _ _) rfl (hVR _ hE) rfl e
                  exact ⟨m', Steps.head (step_lone_go (hb.trans h1)) h2, h3⟩
                · cases e
              | none =>
                obtain rfl := hro
                simp only at e
                have hE1 : Ext ι (bindE ι S.next ⟨w.heap.size, 0, 0⟩) := bindE_ext _ (hI.dom _ (Nat.le_refl _))
                have hI1 := hI.new (o := .deferred (some [])) (x := .deferred (some [])) (room := 0) ⟨[], rfl, rfl, rfl⟩
                have hE2 : Ext (bindE ι S.next ⟨w.heap.size, 0, 0⟩) _ := bindE_ext ⟨(w.alloc (.deferred (some []))).heap.size, 0, 0⟩ (hI1.dom _ (Nat.le_refl _))
                have hE := hE1.trans hE2
                have hsz : (w.alloc (.deferred (some []))).heap.size = w.heap.size + 1 := size_alloc _ _
                have hI2 := hI1.new (o := .loop ⟨.ready, none, fn, n, a, ps, as, bd, S.next⟩) (x := .loop { state := .ready, pending := none, fn, tmps := ts, params := ps, assign := as, body := bd, defers := w.heap.size }) (room := 0)
                  ⟨_, rfl, rfl, ⟨rfl, rfl, rfl, hs, ht.ext hE, rfl, rfl, rfl, _, hE2 _ _ (bindE_self _ _), rfl, rfl⟩⟩
                have hb := bare_range (P := E.P) (w := w) (g := ⟨fn, ts, .code (.rangeFunc f ps as bd) :: ys, ds', .run, kind, none⟩) (cs := gs ++ cs0) rfl rfl (run_enterLoop_outer fn ts ps as bd)
                rw [← hsz] at hb
                obtain ⟨g', gs', w', h1, m', h2, h3⟩ := rangeA_sound (cs0 := cs0) ok hI2 (hg.ext hE) (fr := ⟨fn, n, a, .inRangeFunc (S.next + 1) :: k, ⟨.collected S.next, #[]⟩ :: ds, false, kind, none⟩) (g := ⟨fn, ts, .inRangeFunc (w.alloc (.deferred (some []))).heap.size :: ys, [{ target := .collected w.heap.size, args := #[] }] ++ ds', .run, kind, none⟩)
                  ⟨ts, _, _, none, rfl, hs, ⟨_, _, _, rfl, hE2 _ _ (bindE_self _ _), rfl, hds.ext hE⟩, rfl, .plain (ht.ext hE) ⟨_, _, rfl, ⟨_, bindE_self _ _, rfl, rfl⟩, hr.ext hE⟩, hk⟩ (hcs.ext hE) (bindE_self _ _) rfl (hVR _ hE) rfl e
                exact ⟨m', Steps.head (step_lone_go (hb.trans h1)) h2, h3⟩
            · cases e
end
end Go.Am
