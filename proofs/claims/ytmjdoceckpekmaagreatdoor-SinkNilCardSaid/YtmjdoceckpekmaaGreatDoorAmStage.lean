import Derived.Test.YtmjdoceckpekmaaGreatDoorAmPlan
set_option linter.unusedSimpArgs false
set_option linter.unusedVariables false
namespace Go.Am

mutual
theorem veq_sound : ∀ (a b : Value), veq a b = true → a = b
  | .bool _, .bool _, h => by simp [veq] at h; rw [h]
  | .int _ _, .int _ _, h => by
    simp only [veq, Bool.and_eq_true] at h; have := h.2; rw [intEq_eq] at this; rw [kindEq_eq h.1, eq_of_beq this]
  | .string ⟨⟨_⟩⟩, .string ⟨⟨_⟩⟩, h => by simp only [veq] at h; rw [bytesEq_eq] at h; rw [eq_of_beq h]
  | .pointer _, .pointer _, h => by simp [veq] at h; rw [h]
  | .slice _ _ _, .slice _ _ _, h => by
    simp only [veq, Bool.and_eq_true] at h
    rw [eq_of_beq h.1.1, Nat.eq_of_beq_eq_true h.1.2, Nat.eq_of_beq_eq_true h.2]
  | .map _, .map _, h => by simp [veq] at h; rw [h]
  | .func (.func _) x y, .func (.func _) u v, h => by
    simp only [veq, Bool.and_eq_true] at h
    rw [Nat.eq_of_beq_eq_true h.1.1, veqA_sound x u h.1.2, veqA_sound y v h.2]
  | .func (.yield _) x y, .func (.yield _) u v, h => by
    simp only [veq, Bool.and_eq_true] at h
    rw [Nat.eq_of_beq_eq_true h.1.1, veqA_sound x u h.1.2, veqA_sound y v h.2]
  | .nilFunc, .nilFunc, _ => rfl
  | .nilIface, .nilIface, _ => rfl
  | .iface _ a, .iface _ b, h => by
    simp only [veq, Bool.and_eq_true] at h
    rw [Nat.eq_of_beq_eq_true h.1, veq_sound a b h.2]
  | .agg a, .agg b, h => by rw [veqA_sound a b h]
  | .tuple a, .tuple b, h => by rw [veqA_sound a b h]
theorem veqA_sound : ∀ (a b : Array Value), veqA a b = true → a = b
  | ⟨a⟩, ⟨b⟩, h => by rw [veqL_sound a b h]
theorem veqL_sound : ∀ (a b : List Value), veqL a b = true → a = b
  | [], [], _ => rfl
  | a :: l, b :: m, h => by
    simp only [veqL, Bool.and_eq_true] at h
    rw [veq_sound a b h.1, veqL_sound l m h.2]
end

section
variable {E : Env} {ι0 ι : Emb} {S : Hp} {w0 w : World} {base : Nat}

theorem lightAt_inv {a : Tm} {ops : List Oper} {i : Nat} {d : Option Tmp} {v : Value} (h : lightAt E S a ops i = some (d, v)) :
    ∃ o b, ops[i]? = some o ∧ d = o.dst ∧ wantedA ops a o = some b ∧ (b = true → light E S a o = some v) ∧ (b = false → v = undef) := by
  unfold lightAt at h
  split at h
  · rename_i o ho
    rw [nth_eq] at ho
    split at h
    · rename_i hw
      split at h
      · rename_i u hu; cases h; exact ⟨o, true, ho, rfl, hw, fun _ => hu, fun q => by cases q⟩
      · cases h
    · rename_i hw; cases h; exact ⟨o, false, ho, rfl, hw, fun q => (by cases q), fun _ => rfl⟩
    · cases h
  · cases h

theorem evAll_get {n : Nat} {ops : List Oper} : ∀ {l : List Nat} {a a' : Tm}, evAll E S n ops l a = some a' → ∀ s v, a'.get s = some v → a.get s = some v ∨ (s < n ∧ ∃ i ∈ l, dstOf ops i = some s) := by
  intro l
  induction l with
  | nil => intro a a' h s v hs; simp only [evAll, Option.some.injEq] at h; subst h; exact .inl hs
  | cons i l ih =>
    intro a a' h s v hs
    simp only [evAll] at h
    split at h
    · rename_i d u hd
      obtain ⟨o, b, ho, rfl, _⟩ := lightAt_inv hd
      have hdst : dstOf ops i = o.dst := by unfold dstOf; rw [nth_eq, ho]
      split at h
      · rename_i a1 ha
        rcases ih h s v hs with hq | ⟨hn, j, hj, hq⟩
        · unfold putDst at ha
          split at ha
          · rename_i d' hd'
            split at ha
            · rename_i hdn
              cases ha
              rw [T.get_put] at hq
              by_cases hsd : s = d'
              · exact .inr ⟨by rw [hsd]; exact Nat.le_of_ble_eq_true hdn, i, by simp, by rw [hdst, hd', hsd]⟩
              · rw [if_neg hsd] at hq; exact .inl hq
            · cases ha
          · cases ha; exact .inl hq
        · exact .inr ⟨hn, j, by simp [hj], hq⟩
      · cases h
    · cases h

theorem chkAll_spec {ops : List Oper} {a : Tm} : ∀ {l : List Nat}, chkAll E S ops a l = true → ∀ i ∈ l, ∃ d v, lightAt E S a ops i = some (some d, v) ∧ a.get d = some v := by
  intro l
  induction l with
  | nil => intro _ i hi; simp at hi
  | cons x l ih =>
    intro h i hi
    simp only [chkAll] at h
    split at h
    · rename_i d v hl
      split at h
      · rename_i u hu
        split at h
        · rename_i hv
          rcases List.mem_cons.1 hi with rfl | hi
          · exact ⟨d, v, hl, by rw [veq_sound _ _ hv]; exact hu⟩
          · exact ih h i hi
        · cases h
      · cases h
    · cases h

theorem eval_part {a : Tm} {g : Frame} {X : Operand → Prop} (h : ∀ s, X (.tmp s) → ∀ v, a.get s = some v → ∃ u, g.tmps[s]? = some u ∧ VR ι v u) (hg : Glob ι0 ι E.glob) : EvR E ι a g.eval X := by
  intro x v hX e
  cases x with
  | tmp t =>
    obtain ⟨u, hu, r⟩ := h t hX v e
    have : g.eval (.tmp t) = u := by simp [Frame.eval, hu]
    rw [this]; exact r
  | _ => exact eval_of (a := .e) (fun t v e => by simp [T.get] at e) hg (fun _ => True) _ v trivial (by simpa [ev] using e)

theorem dstOf_lt {ops : List Oper} {j : Nat} {s : Tmp} (h : dstOf ops j = some s) : j < ops.length := by
  unfold dstOf at h
  rw [nth_eq] at h
  split at h
  · rename_i o ho; exact (List.getElem?_eq_some_iff.1 ho).1
  · cases h

/-- Ready: all it hangs on is listed. -/
def Rdy (ops : List Oper) (L : Array Bool) (i : Nat) : Prop := ∀ o, ops[i]? = some o → ∀ e ∈ o.after, Region.binds .any e = true → L.getD e.on false = true

theorem slot_good {ops : List Oper} {L : Array Bool} {a : Tm} {ts : Array Value} {i : Nat} {o : Oper} (hso : ∀ j, j < ops.length → slotOk ops (ahd ops) ops.length j = true) (hc : Closed ops L) (hr : Rdy ops L i) (htr : TRd ι a ts ops L)
    (ho : ops[i]? = some o) {s : Tmp} {v : Value} (hs : s ∈ readsOf o ops) (h : a.get s = some v) : ∃ u, ts[s]? = some u ∧ VR ι v u := by
  rcases (htr s v h).2 with ⟨j, hj, hl⟩ | h
  · have := (slot_spec (hso j (dstOf_lt hj)) hj ho).2 hs
    have := ahead_listed hc (i + 1) i j (Nat.lt_succ_self i) hr this
    rw [this] at hl; cases hl
  · exact h

theorem guard_reads {ops : List Oper} {o : Oper} {j : Nat} {b : Bool} {d : Tmp} (h : o.guard = some (j, b)) (hd : dstOf ops j = some d) : d ∈ readsOf o ops := by
  unfold readsOf; rw [h]; simp [hd]

theorem operand_reads {ops : List Oper} {o : Oper} {s : Tmp} (h : Operand.tmp s ∈ o.op.operands) : s ∈ readsOf o ops := by
  unfold readsOf
  rw [List.mem_append]; left
  rw [List.mem_filterMap]
  exact ⟨_, by simpa using h, rfl⟩

/-- What is known of a region between two that make or write. -/
structure MidR (E : Env) (ι : Emb) (a : Tm) (ops : List Oper) (ts : Array Value) (k fuel : Nat) (L : Array Bool) : Prop where
  size : L.size = ops.length
  fuel : unlisted L ≤ fuel
  closed : Closed ops L
  first : First E ops L k
  lights : ∀ i, L.getD i false = true → isLit E ops i = true → lo E ops i ≤ k
  tr : TRd ι a ts ops L

def fr0 (fn : FuncId) (ts : Array Value) (td : List Item) (ds : List Deferred) (kind : CallKind) (ro : Option Nat) : Frame := ⟨fn, ts, td, ds, .run, kind, ro⟩

/-- How a stage ends. -/
def EndR (E : Env) (ι : Emb) (a : Tm) (ops : List Oper) (ts : Array Value) (arr : Array Oper) (idx : List Nat) (k : Nat) : Option Nat → Prop
  | none => idx = [] ∧ TR ι a ts
  | some i => ∃ fuel t L, idx = i :: Region.linearise.go .any arr fuel t (L.setIfInBounds i true) [] ∧ MidR E ι a ops ts k (fuel + 1) L ∧ Rdy ops L i

theorem all_end {a : Tm} {ops : List Oper} {arr : Array Oper} {ts : Array Value} {k fuel : Nat} {L : Array Bool} (m : MidR E ι a ops ts k fuel L) (h : ∀ i, i < ops.length → L.getD i false = true) : EndR E ι a ops ts arr [] k ((hvs E ops)[k]?) := by
  cases hk : (hvs E ops)[k]? with
  | some i => exact absurd ((m.first k i hk).1 (h i (hvs_lt hk).1)) (Nat.lt_irrefl k)
  | none =>
    refine ⟨rfl, fun s v hs => ?_⟩
    rcases (m.tr s v hs).2 with ⟨j, hj, hl⟩ | h'
    · rw [h j (dstOf_lt hj)] at hl; cases hl
    · exact h'

theorem stage_sound (ok : E.Tab) (hI : Inv ι S w0 w base) (hg : Glob ι0 ι E.glob) {a : Tm} {ops : List Oper} {arr : Array Oper} {pl : List DStage} (harr : arr.toList = ops) (hpl : plan E ops = some pl) {k : Nat}
    (hchk : chkAll E S ops a ((lts E ops).filter fun i => Nat.ble (lo E ops i) k && Nat.ble k (hi E ops i)) = true) (hk : k ≤ (hvs E ops).length)
    (fn : FuncId) (td : List Item) (ds : List Deferred) (kind : CallKind) (ro : Option Nat) (cs : List Frame) : ∀ (fuel t : Nat) (L : Array Bool) (ts : Array Value), MidR E ι a ops ts k fuel L →
    ∃ ts2 idx2, Steps E.P (lone (fr0 fn ts (.inRegion arr (Region.linearise.go .any arr fuel t L []) :: td) ds kind ro) cs w) (lone (fr0 fn ts2 (.inRegion arr idx2 :: td) ds kind ro) cs w) ∧ ts2.size = ts.size ∧ EndR E ι a ops ts2 arr idx2 k ((hvs E ops)[k]?) := by
  obtain ⟨hchain, hslots, _⟩ := plan_inv hpl
  intro fuel
  induction fuel with
  | zero =>
    intro t L ts m
    refine ⟨ts, [], Steps.refl _ _, rfl, all_end m fun i hi => unlisted_zero (Nat.le_zero.1 m.fuel) (by rw [m.size]; exact hi)⟩
  | succ fuel ih =>
    intro t L ts m
    have hgo : Region.linearise.go .any arr (fuel + 1) t L [] = match (Region.ready .any arr L)[t % (Region.ready .any arr L).length]? with
      | some i => Region.linearise.go .any arr fuel (t / (Region.ready .any arr L).length) (L.setIfInBounds i true) [i]
      | none => [].reverse := rfl
    cases hi : (Region.ready .any arr L)[t % (Region.ready .any arr L).length]? with
    | none =>
      have hnil : Region.ready .any arr L = [] := by
        cases hr : Region.ready .any arr L with
        | nil => rfl
        | cons x xs =>
          rw [hr] at hi
          have hlt : t % (x :: xs).length < (x :: xs).length := Nat.mod_lt _ (by simp)
          simp at hi
          simp at hlt
          omega
      rw [hi] at hgo
      rw [hgo]
      exact ⟨ts, [], Steps.refl _ _, rfl, all_end m (ready_nil harr m.size (fun j hj => (hslots j hj).1) hnil)⟩
    | some i =>
      have hmem := List.mem_of_getElem? hi
      rw [ready_iff harr m.size] at hmem
      obtain ⟨hin, hun, hrdy⟩ := hmem
      rw [hi] at hgo
      simp only [] at hgo
      rw [linearise_go_acc .any arr fuel _ _ [i], List.reverse_singleton, List.singleton_append] at hgo
      rw [hgo]
      have hiL : i < L.size := by rw [m.size]; exact hin
      have ho : ops[i]? = some ops[i] := by simp [hin]
      generalize ops[i] = o at ho
      have hahead : ∀ j, ords (ahd ops) j i = true → L.getD j false = true := fun j hj => ahead_listed m.closed (i + 1) i j (Nat.lt_succ_self i) hrdy hj
      cases hlit : isLit E ops i with
      | false =>
        obtain ⟨j, hj⟩ := hvs_mem hin hlit
        have h1 : ¬ j < k := fun q => by rw [(m.first j i hj).2 q] at hun; cases hun
        have h2 : ¬ k < j := fun q => by
          obtain ⟨j', rfl⟩ : ∃ j', j = j' + 1 := ⟨j - 1, by omega⟩
          have hjlt : j' + 1 < (hvs E ops).length := (List.getElem?_eq_some_iff.1 hj).1
          have hj' : (hvs E ops)[j']? = some (hvs E ops)[j'] := by simp
          have := (m.first j' _ hj').1 (hahead _ (chain_spec hchain hj' hj))
          omega
        obtain rfl : j = k := by omega
        rw [hj]
        exact ⟨ts, _, Steps.refl _ _, rfl, fuel, _, L, rfl, m, hrdy⟩
      | true =>
        have hlo : lo E ops i ≤ k := count_le fun j x hx hp => (m.first j x hx).1 (hahead x hp)
        have hhi : k ≤ Am.hi E ops i := le_count hk fun j x hx hjk => by
          cases hq : ords (ahd ops) i x with
          | false => rfl
          | true =>
            have hxl := (m.first j x hx).2 hjk
            have := ahead_listed m.closed (x + 1) x i (Nat.lt_succ_self x) (fun o' ho' e' he' hb' => m.closed x o' hxl ho' e' he' hb') hq
            rw [this] at hun; cases hun
        obtain ⟨d, v, hla, had⟩ := chkAll_spec hchk i (by
          rw [List.mem_filter]
          exact ⟨lts_mem.2 ⟨hin, hlit⟩, by rw [Bool.and_eq_true]; exact ⟨Nat.ble_eq_true_of_le hlo, Nat.ble_eq_true_of_le hhi⟩⟩)
        obtain ⟨o', b, ho', hd, hw, hlt, hlf⟩ := lightAt_inv hla
        rw [ho] at ho'; cases ho'
        have hsl : ∀ s v, s ∈ readsOf o ops → a.get s = some v → ∃ u, ts[s]? = some u ∧ VR ι v u := fun s v hs hv => slot_good (fun j hj => (hslots j hj).2) m.closed hrdy m.tr ho hs hv
        have hwant : Region.wanted o (yielded arr ts) = b := wanted_sound harr hw fun j x d' v' hg' hd' hv' => hsl d' v' (guard_reads hg' hd') hv'
        have harri : arr[i]? = some o := by rw [nth_arr harr]; exact ho
        have hdst : dstOf ops i = some d := by unfold dstOf; rw [nth_eq, ho]; exact hd.symm
        -- one step
        have hstep : ∃ u, VR ι v u ∧ Go.step E.P (lone (fr0 fn ts (.inRegion arr (i :: Region.linearise.go .any arr fuel (t / (Region.ready .any arr L).length) (L.setIfInBounds i true) []) :: td) ds kind ro) cs w) =
            .next (lone (fr0 fn (ts.setIfInBounds d u) (.inRegion arr (Region.linearise.go .any arr fuel (t / (Region.ready .any arr L).length) (L.setIfInBounds i true) []) :: td) ds kind ro) cs w) := by
          have hfin : ∀ u, (fr0 fn ts (.inRegion arr (i :: Region.linearise.go .any arr fuel (t / (Region.ready .any arr L).length) (L.setIfInBounds i true) []) :: td) ds kind ro).finish u = fr0 fn (ts.setIfInBounds d u) (.inRegion arr (Region.linearise.go .any arr fuel (t / (Region.ready .any arr L).length) (L.setIfInBounds i true) []) :: td) ds kind ro := by
            intro u
            have hb : (arr[i]?).bind (·.dst) = some d := by rw [harri]; exact hd.symm
            simp only [fr0, Frame.finish, hb]
          cases b with
          | false =>
            refine ⟨undef, ?_, ?_⟩
            · rw [hlf rfl]; exact VR.of_plain _ rfl
            · rw [← hfin]
              exact op_skip rfl rfl harri hwant
          | true =>
            obtain ⟨u, hu, hvu⟩ := light_sound ok hI (eval_part (g := fr0 fn ts (.inRegion arr (i :: Region.linearise.go .any arr fuel (t / (Region.ready .any arr L).length) (L.setIfInBounds i true) []) :: td) ds kind ro) (fun s hs v hv => hsl s v (operand_reads hs) hv) hg) (hlt rfl)
            refine ⟨u, hvu, ?_⟩
            rw [← hfin]
            refine step_lone_go ?_
            rw [op_bare rfl rfl harri hwant ?_]
            · exact apply_value hu
            · right
              intro c hc
              have : isLight E o = true := by
                have : isLit E ops i = isLight E o := by unfold isLit; rw [nth_eq, ho]
                rw [← this]; exact hlit
              unfold isLight at this; rw [hc] at this; cases this
        obtain ⟨u, hvu, hst⟩ := hstep
        have hLt : L.getD i true = false := by
          simp [hiL] at hun ⊢; exact hun
        obtain ⟨ts2, idx2, h1, h2, h3⟩ := ih (t / (Region.ready .any arr L).length) (L.setIfInBounds i true) (ts.setIfInBounds d u) {
          size := by simp [m.size]
          fuel := by have := unlisted_set hiL hLt; have := m.fuel; omega
          closed := by
            intro j o2 hj ho2 ed hed hb
            rw [getD_set hiL] at hj ⊢
            by_cases hji : j = i
            · subst hji
              have := hrdy o2 ho2 ed hed hb
              split
              · rfl
              · exact this
            · rw [if_neg hji] at hj
              have := m.closed j o2 hj ho2 ed hed hb
              split
              · rfl
              · exact this
          first := by
            intro j h hj
            rw [getD_set hiL]
            by_cases hh : h = i
            · subst hh; rw [(hvs_lt hj).2] at hlit; cases hlit
            · rw [if_neg hh]; exact m.first j h hj
          lights := by
            intro j hj hl
            rw [getD_set hiL] at hj
            by_cases hji : j = i
            · subst hji; exact hlo
            · rw [if_neg hji] at hj; exact m.lights j hj hl
          tr := by
            intro s x hx
            by_cases hsd : s = d
            · subst hsd
              rw [had] at hx; cases hx
              have hsz := (m.tr s v had).1
              exact ⟨by simpa using hsz, .inr ⟨u, by rw [Array.getElem?_setIfInBounds, if_pos rfl, if_pos hsz], hvu⟩⟩
            · obtain ⟨hsz, hor⟩ := m.tr s x hx
              refine ⟨by simpa using hsz, ?_⟩
              rcases hor with ⟨j, h1, h2⟩ | ⟨z, hz, hzr⟩
              · left
                refine ⟨j, h1, ?_⟩
                rw [getD_set hiL, if_neg (by rintro rfl; rw [hdst] at h1; cases h1; exact hsd rfl)]; exact h2
              · right
                exact ⟨z, by rw [Array.getElem?_setIfInBounds, if_neg (fun q => hsd q.symm)]; exact hz, hzr⟩ }
        exact ⟨ts2, idx2, Steps.head hst h1, by rw [h2]; simp, h3⟩
end
end Go.Am
