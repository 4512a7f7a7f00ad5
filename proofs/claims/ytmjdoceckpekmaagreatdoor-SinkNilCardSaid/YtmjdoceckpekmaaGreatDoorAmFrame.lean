import Derived.Test.YtmjdoceckpekmaaGreatDoorAmHeavy2
import Derived.Calls
import Derived.Orders
set_option linter.unusedSimpArgs false
set_option linter.unusedVariables false
namespace Go.Am

/-! ### what stands in a frame -/
def ItR (ι : Emb) : AItem → Item → Prop
  | .code c, x => x = .code c
  | .inBlock id, x => x = .inBlock id
  | .inLoop b, x => x = .inLoop b
  | .inScope b, x => x = .inScope b
  | .inRegion ops rest, x => ∃ arr j, x = .inRegion arr (List.range' j rest.length) ∧ arr.toList = ops ∧ rest = ops.drop j
  | .inRangeFunc l, x => ∃ i, ι l = some i ∧ i.off = 0 ∧ x = .inRangeFunc i.blk
  | .endRangeFunc l, x => ∃ i, ι l = some i ∧ i.off = 0 ∧ x = .endRangeFunc i.blk
  | .beginRound, x => x = .beginRound
  | .drawn _ _, _ => False
  | .wait _ _ _, _ => False

def TdR (ι : Emb) : List AItem → List Item → Prop
  | [], l => l = []
  | x :: xs, l => ∃ y ys, l = y :: ys ∧ ItR ι x y ∧ TdR ι xs ys

theorem ItR.ext {ι ι' : Emb} (h : Ext ι ι') : ∀ {x y}, ItR ι x y → ItR ι' x y
  | .code _, _, e => e
  | .inBlock _, _, e => e
  | .inLoop _, _, e => e
  | .inScope _, _, e => e
  | .inRegion _ _, _, e => e
  | .inRangeFunc _, _, ⟨i, a, b⟩ => ⟨i, h _ _ a, b⟩
  | .endRangeFunc _, _, ⟨i, a, b⟩ => ⟨i, h _ _ a, b⟩
  | .beginRound, _, e => e
  | .drawn _ _, _, e => e.elim
  | .wait _ _ _, _, e => e.elim

theorem TdR.ext {ι ι' : Emb} (h : Ext ι ι') : ∀ {x y}, TdR ι x y → TdR ι' x y
  | [], _, e => e
  | _ :: _, _, ⟨y, ys, a, b, c⟩ => ⟨y, ys, a, b.ext h, TdR.ext h c⟩

/-! ### a region that draws its order -/
def isLit (E : Env) (ops : List Oper) (i : Nat) : Bool := match nth ops i with
  | some o => isLight E o
  | none => false
def hvs (E : Env) (ops : List Oper) : List Nat := (List.range ops.length).filter fun i => !isLit E ops i
def lts (E : Env) (ops : List Oper) : List Nat := (List.range ops.length).filter (isLit E ops)
def ahd (ops : List Oper) : List Nat := aheadOf ops []
def lo (E : Env) (ops : List Oper) (i : Nat) : Nat := count (fun h => ords (ahd ops) h i) (hvs E ops)
def hi (E : Env) (ops : List Oper) (i : Nat) : Nat := count (fun h => !ords (ahd ops) i h) (hvs E ops)

theorem plan_eq (E : Env) (ops : List Oper) : plan E ops = match chainOk (ahd ops) (hvs E ops) && (List.range ops.length).all fun j => backOk ops j && slotOk ops (ahd ops) ops.length j with
    | true => some (planOf (lts E ops) (lo E ops) (hi E ops) 0 (hvs E ops))
    | false => none := rfl

/-- What has been done of a region: each stands behind what it hangs on. -/
def Closed (ops : List Oper) (L : Array Bool) : Prop := ∀ i o, L.getD i false = true → ops[i]? = some o → ∀ e ∈ o.after, Region.binds .any e = true → L.getD e.on false = true

/-- Of those that make or write just the first k. -/
def First (E : Env) (ops : List Oper) (L : Array Bool) (k : Nat) : Prop := ∀ j h, (hvs E ops)[j]? = some h → (L.getD h false = true ↔ j < k)

def TRd (ι : Emb) (a : Tm) (ts : Array Value) (ops : List Oper) (L : Array Bool) : Prop :=
  ∀ s v, a.get s = some v → s < ts.size ∧ ((∃ i, dstOf ops i = some s ∧ L.getD i false = false) ∨ ∃ u, ts[s]? = some u ∧ VR ι v u)

theorem TRd.ext {ι ι' : Emb} (h : Ext ι ι') {a : Tm} {ts : Array Value} {ops : List Oper} {L : Array Bool} (k : TRd ι a ts ops L) : TRd ι' a ts ops L := fun s v e =>
  ⟨(k s v e).1, (k s v e).2.imp id fun ⟨u, x, y⟩ => ⟨u, x, VR.ext h _ _ y⟩⟩

def unlisted (L : Array Bool) : Nat := (L.toList.filter (!·)).length

structure DrawnR (E : Env) (ι : Emb) (a : Tm) (ops : List Oper) (stages : List DStage) (ts : Array Value) (arr : Array Oper) (idx : List Nat) (pl : List DStage) (k fuel t : Nat) (L : Array Bool) : Prop where
  plan : plan E ops = some pl
  stages : stages = pl.drop k
  harr : arr.toList = ops
  idx : idx = Region.linearise.go .any arr fuel t L []
  size : L.size = ops.length
  fuel : unlisted L ≤ fuel
  closed : Closed ops L
  first : First E ops L k
  kle : k ≤ (hvs E ops).length
  lights : ∀ i, L.getD i false = true → isLit E ops i = true → lo E ops i < k
  tr : TRd ι a ts ops L

structure WaitR (E : Env) (ι : Emb) (a : Tm) (ops : List Oper) (i : Nat) (stages : List DStage) (ts : Array Value) (arr : Array Oper) (idx : List Nat) (pl : List DStage) (k fuel t : Nat) (L : Array Bool) : Prop where
  plan : plan E ops = some pl
  stages : stages = pl.drop (k + 1)
  harr : arr.toList = ops
  here : (hvs E ops)[k]? = some i
  idx : idx = Region.linearise.go .any arr fuel t (L.setIfInBounds i true) []
  size : L.size = ops.length
  fuel : unlisted L ≤ fuel + 1
  closed : Closed ops L
  ready : ∀ o, ops[i]? = some o → ∀ e ∈ o.after, Region.binds .any e = true → L.getD e.on false = true
  first : First E ops L k
  lights : ∀ i, L.getD i false = true → isLit E ops i = true → lo E ops i ≤ k
  tr : TRd ι a ts ops L

inductive BodyR (E : Env) (ι : Emb) (a : Tm) : List AItem → Array Value → List Item → Prop where
  | plain {todo ts td} (h : TR ι a ts) (k : TdR ι todo td) : BodyR E ι a todo ts td
  | drawn {ops stages rest ts arr idx td pl k fuel t L} (h : DrawnR E ι a ops stages ts arr idx pl k fuel t L) (r : TdR ι rest td) : BodyR E ι a (.drawn ops stages :: rest) ts (.inRegion arr idx :: td)
  | wait {ops i stages rest ts arr idx td pl k fuel t L} (h : WaitR E ι a ops i stages ts arr idx pl k fuel t L) (r : TdR ι rest td) : BodyR E ι a (.wait ops i stages :: rest) ts (.inRegion arr (i :: idx) :: td)

theorem DrawnR.ext {E : Env} {ι ι' : Emb} (h : Ext ι ι') {a ops stages ts arr idx pl k fuel t L} (d : DrawnR E ι a ops stages ts arr idx pl k fuel t L) : DrawnR E ι' a ops stages ts arr idx pl k fuel t L :=
  { d with tr := d.tr.ext h }
theorem WaitR.ext {E : Env} {ι ι' : Emb} (h : Ext ι ι') {a ops i stages ts arr idx pl k fuel t L} (d : WaitR E ι a ops i stages ts arr idx pl k fuel t L) : WaitR E ι' a ops i stages ts arr idx pl k fuel t L :=
  { d with tr := d.tr.ext h }
theorem BodyR.ext {E : Env} {ι ι' : Emb} (h : Ext ι ι') {a todo ts td} (b : BodyR E ι a todo ts td) : BodyR E ι' a todo ts td := by
  cases b with
  | plain a b => exact .plain (a.ext h) (b.ext h)
  | drawn a b => exact .drawn (a.ext h) (b.ext h)
  | wait a b => exact .wait (a.ext h) (b.ext h)

def modeOf : Bool → FrameMode
  | true => .returning
  | false => .run

def RoR (ι : Emb) : Option Nat → Option Nat → Prop
  | none, x => x = none
  | some l, x => ∃ i, ι l = some i ∧ i.off = 0 ∧ x = some i.blk

/-- A frame. -/
def FR (E : Env) (ι : Emb) (f : AFrame) (g : Frame) : Prop :=
  ∃ ts td ds ro, g = ⟨f.fn, ts, td, ds, modeOf f.ret, f.kind, ro⟩ ∧ ts.size = f.n ∧ DfR ι f.defers ds ∧ RoR ι f.roundOf ro ∧ BodyR E ι f.tmps f.todo ts td ∧ f.kind ≠ .early ∧ f.kind ≠ .wrapped

def FRs (E : Env) (ι : Emb) : List AFrame → List Frame → Prop
  | [], l => l = []
  | f :: fs, l => ∃ g gs, l = g :: gs ∧ FR E ι f g ∧ FRs E ι fs gs

theorem RoR.ext {ι ι' : Emb} (h : Ext ι ι') : ∀ {x y}, RoR ι x y → RoR ι' x y
  | none, _, e => e
  | some _, _, ⟨i, a, b⟩ => ⟨i, h _ _ a, b⟩
theorem FR.ext {E : Env} {ι ι' : Emb} (h : Ext ι ι') {f : AFrame} {g : Frame} (k : FR E ι f g) : FR E ι' f g :=
  let ⟨ts, td, ds, ro, a, b, c, d, e, r⟩ := k
  ⟨ts, td, ds, ro, a, b, c.ext h, d.ext h, e.ext h, r⟩
theorem FRs.ext {E : Env} {ι ι' : Emb} (h : Ext ι ι') : ∀ {fs gs}, FRs E ι fs gs → FRs E ι' fs gs
  | [], _, e => e
  | _ :: _, _, ⟨g, gs, a, b, c⟩ => ⟨g, gs, a, b.ext h, FRs.ext h c⟩

/-- What is known from the start, and the globals. -/
def Glob (ι0 ι : Emb) (n : Nat) : Prop := Ext ι0 ι ∧ ∀ g, g < n → ∃ i, ι g = some i ∧ i.blk = g ∧ i.off = 0
theorem Glob.ext {ι0 ι ι' : Emb} (h : Ext ι ι') {n : Nat} (k : Glob ι0 ι n) : Glob ι0 ι' n := ⟨k.1.trans h, fun g hg => let ⟨i, a, b⟩ := k.2 g hg; ⟨i, h _ _ a, b⟩⟩
theorem Glob.self {ι0 ι : Emb} {n : Nat} (k : Glob ι0 ι n) : Glob ι ι n := ⟨Ext.refl _, k.2⟩

/-- The machine that an abstract state stands for. -/
def StR (E : Env) (ι0 : Emb) (w0 : World) (base : Nat) (cs0 : List Frame) (s : ASt) (m : Machine) : Prop :=
  ∃ ι g gs w, m = lone g (gs ++ cs0) w ∧ FR E ι s.fr g ∧ FRs E ι s.cs gs ∧ Inv ι s.S w0 w base ∧ Glob ι0 ι E.glob

/-! ### slots -/
/-- What an array of slots is behind a store. -/
def setD (ts : Array Value) (d : Option Tmp) (u : Value) : Array Value := match d with
  | some d => ts.setIfInBounds d u
  | none => ts

theorem putDst_sound {ι : Emb} {n : Nat} {a a' : Tm} {d : Option Tmp} {v u : Value} {ts : Array Value} (e : putDst n a d v = some a') (hs : ts.size = n) (h : TR ι a ts) (hv : VR ι v u) :
    TR ι a' (setD ts d u) ∧ (setD ts d u).size = n := by
  unfold putDst at e
  unfold setD
  cases d with
  | some d =>
    simp only at e ⊢
    split at e
    · rename_i hd
      have hd : d < n := Nat.le_of_ble_eq_true hd
      cases e
      refine ⟨?_, by simp [hs]⟩
      intro t x hx
      rw [T.get_put] at hx
      by_cases ht : t = d
      · subst ht; rw [if_pos rfl] at hx; cases hx
        exact ⟨u, by rw [Array.getElem?_setIfInBounds, if_pos rfl, if_pos (by rw [hs]; exact hd)], hv⟩
      · rw [if_neg ht] at hx
        obtain ⟨z, hz, r⟩ := h t x hx
        exact ⟨z, by rw [Array.getElem?_setIfInBounds, if_neg (fun q => ht q.symm)]; exact hz, r⟩
    · cases e
  | none => cases e; exact ⟨h, hs⟩

theorem eval_of {E : Env} {ι0 ι : Emb} {a : Tm} {g : Frame} (h : TR ι a g.tmps) (hg : Glob ι0 ι E.glob) (X : Operand → Prop) : EvR E ι a g.eval X := by
  intro x v _ e
  cases x with
  | tmp t =>
    obtain ⟨u, hu, r⟩ := h t v e
    have : g.eval (.tmp t) = u := by simp [Frame.eval, hu]
    rw [this]; exact r
  | const c =>
    simp only [ev] at e
    split at e
    · rename_i hp; cases e; exact VR.of_plain _ hp
    · cases e
  | global n =>
    simp only [ev] at e
    split at e
    · rename_i hn; cases e
      have hn : n < E.glob := Nat.le_of_ble_eq_true hn
      obtain ⟨i, hi, hb, h0⟩ := hg.2 n hn
      exact ⟨i, hi, rfl, by rw [hb, h0]; rfl⟩
    · cases e
  | func f =>
    simp only [ev, Option.some.injEq] at e; subst e
    exact VR.of_plain (.func (.func f) #[] #[]) rfl

theorem nth_arr {arr : Array Oper} {ops : List Oper} (h : arr.toList = ops) (i : Nat) : arr[i]? = ops[i]? := by rw [← h]; simp

theorem dstOf_eq {arr : Array Oper} {ops : List Oper} (h : arr.toList = ops) (i : Nat) : dstOf ops i = (arr[i]?).bind (·.dst) := by
  unfold dstOf
  rw [nth_eq, nth_arr h]
  cases ops[i]? <;> rfl

/-- Is an operation wanted? The one it hangs on is known. -/
theorem wanted_sound {ι : Emb} {ops : List Oper} {arr : Array Oper} (harr : arr.toList = ops) {a : Tm} {ts : Array Value} {o : Oper} {b : Bool} (e : wantedA ops a o = some b)
    (h : ∀ j w d v, o.guard = some (j, w) → dstOf ops j = some d → a.get d = some v → ∃ u, ts[d]? = some u ∧ VR ι v u) : Region.wanted o (yielded arr ts) = b := by
  unfold wantedA at e
  unfold Region.wanted
  split at e
  · rename_i hg; cases e; rw [hg]
  · rename_i j want hg
    rw [hg]
    simp only
    split at e
    · rename_i d hd
      unfold yielded
      rw [← dstOf_eq harr, hd]
      simp only [Option.bind_some]
      split at e
      · rename_i x hx
        obtain ⟨u, hu, hv⟩ := h j want d _ hg hd hx
        obtain rfl := hv
        rw [hu]
        simp only [Option.some.injEq] at e
        subst e
        cases x <;> cases want <;> rfl
      · rename_i hx
        obtain ⟨u, hu, hv⟩ := h j want d _ hg hd hx
        cases e
        obtain ⟨cs', rfl, _⟩ := hv
        rw [hu]; cases want <;> rfl
      · cases e
    · cases e

/-! ### one step of the machine -/
section
variable {P : Program}
theorem op_bare {fr : Frame} {cs : List Frame} {w : World} {arr : Array Oper} {i : Nat} {rest : List Nat} {k : List Item} {o : Oper} (hm : fr.mode = .run) (ht : fr.todo = .inRegion arr (i :: rest) :: k) (ho : arr[i]? = some o)
    (hw : Region.wanted o (yielded arr fr.tmps) = true) (hd : fr.roundOf = none ∨ ∀ c, o.op ≠ .defer c) :
    (stepG P true { frame := fr, callers := cs, status := .running, dying := none } w).bare = (stepG.apply P true fr cs none (execOp fr.eval o) w).bare := by
  simp only [stepG, hm]
  simp only [stepG.exec, ht, ho, Option.map_some, Option.getD_some, hw, if_true]
  simp only [stepG.oper, Frame.oper?, ht, ho]
  rcases hd with h | h
  · rw [h]
  · cases hr : fr.roundOf with
    | none => rfl
    | some l => cases hop : o.op <;> first | rfl | exact absurd hop (h _)

theorem op_skip {fr : Frame} {cs : List Frame} {w : World} {arr : Array Oper} {i : Nat} {rest : List Nat} {k : List Item} {o : Oper} (hm : fr.mode = .run) (ht : fr.todo = .inRegion arr (i :: rest) :: k) (ho : arr[i]? = some o)
    (hw : Region.wanted o (yielded arr fr.tmps) = false) : Go.step P (lone fr cs w) = .next (lone (fr.finish undef) cs w) := by
  refine step_lone_go ?_
  simp only [stepG, hm]
  simp only [stepG.exec, ht, ho, Option.map_some, Option.getD_some, hw, Bool.false_eq_true, if_false, GStep.bare_go]

theorem apply_value {fr : Frame} {cs : List Frame} {w w' : World} {s : Sem Next} {v : Value} (h : s.run P w = .ok (.value v) w') :
    (stepG.apply P true fr cs none s w).bare = .go { frame := fr.finish v, callers := cs, status := .running, dying := none } w' := by
  simp [stepG.apply, h]
theorem apply_skip {fr : Frame} {cs : List Frame} {w w' : World} {s : Sem Next} (h : s.run P w = .ok .skip w') :
    (stepG.apply P true fr cs none s w).bare = .go { frame := fr.finish undef, callers := cs, status := .running, dying := none } w' := by
  simp [stepG.apply, h]
theorem apply_defer {fr : Frame} {cs : List Frame} {w w' : World} {s : Sem Next} {d : Deferred} (h : s.run P w = .ok (.defer d) w') :
    (stepG.apply P true fr cs none s w).bare = .go { frame := ({ fr with defers := d :: fr.defers } : Frame).finish undef, callers := cs, status := .running, dying := none } w' := by
  simp [stepG.apply, h]
theorem apply_enter {fr : Frame} {cs : List Frame} {w w' : World} {s : Sem Next} {f : FuncId} {args : Array Value} (h : s.run P w = .ok (.enter f args) w') (hk : ∀ d a b c k, fr.todo ≠ .call d a b c :: k) :
    (stepG.apply P true fr cs none s w).bare = .go { frame := Frame.enter P f args .normal, callers := fr :: cs, status := .running, dying := none } w' := by
  simp only [stepG.apply, Sem.runT_eq, if_true, h, GStep.bare_after, GStep.bare_go]
  split
  · rename_i hh; exact absurd hh (hk _ _ _ _ _)
  · rfl
theorem apply_round {fr : Frame} {cs : List Frame} {w w' : World} {s : Sem Next} {l f : Nat} {ts : Array Value} {x y : Code} (h : s.run P w = .ok (.round l f ts x y) w') :
    (stepG.apply P true fr cs none s w).bare = .go { frame := Frame.round l f ts x y .normal, callers := fr :: cs, status := .running, dying := none } w' := by
  simp [stepG.apply, h]
theorem apply_recover {fr : Frame} {cs : List Frame} {w w' : World} {s : Sem Next} (h : s.run P w = .ok .recover w') (h1 : tryRecover fr cs = none) (h2 : ∀ l, tryRecoverLoop l cs = none) :
    (stepG.apply P true fr cs none s w).bare = .go { frame := fr.finish .nilIface, callers := cs, status := .running, dying := none } w' := by
  cases hr : fr.roundOf with
  | none => simp [stepG.apply, h, hr, h1]
  | some l =>
    cases hp : P.follows .rangeFuncRecover <;> simp [stepG.apply, h, hr, h1, h2, hp]
end
end Go.Am
