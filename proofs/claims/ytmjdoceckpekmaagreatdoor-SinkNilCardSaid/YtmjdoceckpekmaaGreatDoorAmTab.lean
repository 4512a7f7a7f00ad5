import Derived.Test.YtmjdoceckpekmaaGreatDoorAmMem
set_option linter.unusedSimpArgs false
set_option linter.unusedVariables false
namespace Go.Am

/-- What the tables say is so. -/
structure Env.Tab (E : Env) : Prop where
  und : ∀ t d, E.und t = some d → E.P.underlying t = some d
  siz : ∀ t n, E.siz t = some n → ∃ i, E.P.info? t = some i ∧ i.size = n
  zer : ∀ t v, E.zer t = some v → (∃ i, E.P.info? t = some i ∧ i.zero = some v) ∧ plain v = true
  byt : ∀ t n, E.byt t = some n → ∃ i, E.P.info? t = some i ∧ i.bytes = n
  flds : ∀ t fs, E.und t = some (.struct fs) → ∀ f ∈ fs.toList, ∃ n, E.siz f.type = some n
  fn : ∀ f g, E.fn f = some g → E.P.funcs[f]? = some g ∧ (g.name == "runtime.NumGoroutine") = false
  follows : E.P.follows .mixedOrders = true

section
variable {P : Program} {w : World}
theorem run_underlying {t : TypeId} {d : TypeDesc} (h : P.underlying t = some d) : (underlying t).run P w = .ok d w := by
  simp [underlying, program, Sem.run, bind, Sem.bind, h, pure]
theorem run_typeInfo {t : TypeId} {i : TypeInfo} (h : P.info? t = some i) : (typeInfo t).run P w = .ok i w := by
  simp [typeInfo, program, Sem.run, bind, Sem.bind, h, pure]
theorem run_sizeOf {t : TypeId} {i : TypeInfo} (h : P.info? t = some i) : (sizeOf t).run P w = .ok i.size w := by
  unfold sizeOf; rw [andThen_bind (run_typeInfo h)]; rfl
theorem run_zeroValue {t : TypeId} {i : TypeInfo} {v : Value} (h : P.info? t = some i) (hz : i.zero = some v) : (zeroValue t).run P w = .ok v w := by
  unfold zeroValue; rw [andThen_bind (run_typeInfo h), hz]; rfl
end

section
variable {E : Env} (ok : E.Tab) {w : World}
include ok
theorem runUnd {t : TypeId} {d : TypeDesc} (h : E.und t = some d) : (underlying t).run E.P w = .ok d w := run_underlying (ok.und _ _ h)
theorem runSiz {t : TypeId} {n : Nat} (h : E.siz t = some n) : (sizeOf t).run E.P w = .ok n w := by
  obtain ⟨i, hi, rfl⟩ := ok.siz _ _ h; exact run_sizeOf hi
theorem runZer {t : TypeId} {v : Value} (h : E.zer t = some v) : (zeroValue t).run E.P w = .ok v w := by
  obtain ⟨⟨i, hi, hz⟩, _⟩ := ok.zer _ _ h; exact run_zeroValue hi hz
theorem runByt {t : TypeId} {n : Nat} (h : E.byt t = some n) : ∃ i, (typeInfo t).run E.P w = .ok i w ∧ i.bytes = n := by
  obtain ⟨i, hi, rfl⟩ := ok.byt _ _ h; exact ⟨i, run_typeInfo hi, rfl⟩
theorem runAgg {t : TypeId} {b : Bool} (h : aggT E t = some b) : (isAgg t).run E.P w = .ok b w := by
  unfold aggT at h
  unfold isAgg
  split at h
  · rename_i f hu; cases h; rw [andThen_bind (runUnd ok hu)]; rfl
  · rename_i f hu; cases h; rw [andThen_bind (runUnd ok hu)]; rfl
  · rename_i d hn1 hn2 hu; cases h; rw [andThen_bind (runUnd ok hu)]
    cases d <;> first | rfl | (rename_i x; exact (hn1 x rfl).elim) | (rename_i x y; exact (hn2 x y rfl).elim)
  · cases h
end

/-- What the operands come to, of which there is question. -/
def EvR (E : Env) (ι : Emb) (a : Tm) (ρ : Operand → Value) (X : Operand → Prop) : Prop := ∀ x v, X x → ev E a x = some v → VR ι v (ρ x)

theorem EvR.list {E : Env} {ι : Emb} {a : Tm} {ρ : Operand → Value} {X : Operand → Prop} (h : EvR E ι a ρ X) : ∀ (l : List Operand) {vs : List Value}, (∀ x ∈ l, X x) → evs E a l = some vs → VRL ι vs (l.map ρ)
  | [], _, _, e => by simp only [evs, Option.some.injEq] at e; subst e; exact VRL.nil
  | x :: l, _, hX, e => by
    simp only [evs] at e
    split at e
    · rename_i v hv
      split at e
      · rename_i r hr; cases e; exact VRL.cons (h x v (hX x (by simp)) hv) (EvR.list h l (fun y hy => hX y (by simp [hy])) hr)
      · cases e
    · cases e

def PR (ι : Emb) : List (Nat × Value) → List (Nat × Value) → Prop
  | [], l => l = []
  | (i, v) :: ps, l => ∃ u r, l = (i, u) :: r ∧ VR ι v u ∧ PR ι ps r

theorem EvR.parts {E : Env} {ι : Emb} {a : Tm} {ρ : Operand → Value} {X : Operand → Prop} (h : EvR E ι a ρ X) : ∀ (l : List (Nat × Operand)) {vs : List (Nat × Value)}, (∀ p ∈ l, X p.2) → evParts E a l = some vs → PR ι vs (l.map fun p => (p.1, ρ p.2))
  | [], _, _, e => by simp only [evParts, Option.some.injEq] at e; subst e; exact rfl
  | (i, x) :: l, _, hX, e => by
    simp only [evParts] at e
    split at e
    · rename_i v hv
      split at e
      · rename_i r hr; cases e; exact ⟨_, _, rfl, h x v (hX (i, x) (by simp)) hv, EvR.parts h l (fun y hy => hX y (by simp [hy])) hr⟩
      · cases e
    · cases e

def OR (ι : Emb) : Option Value → Option Value → Prop
  | none, o => o = none
  | some v, o => ∃ u, o = some u ∧ VR ι v u

theorem EvR.opt {E : Env} {ι : Emb} {a : Tm} {ρ : Operand → Value} {X : Operand → Prop} (h : EvR E ι a ρ X) {x : Option Operand} {o : Option Value} (hX : ∀ y, x = some y → X y) (e : evO E a x = some o) : OR ι o (x.map ρ) := by
  cases x with
  | none => simp only [evO, Option.some.injEq] at e; subst e; rfl
  | some x =>
    simp only [evO] at e
    split at e
    · rename_i v hv; cases e; exact ⟨_, rfl, h x v (hX x rfl) hv⟩
    · cases e

/-! ### reading -/
theorem readN_sound {ι : Emb} {size : Nat} {c : T Value} {off : Nat} {cs : Array Value} (h : Row ι size c off cs) : ∀ (n k : Nat) {l : List Value}, k + n ≤ size → readN c k n = some l →
    ∃ m, VRL ι l m ∧ m.length = n ∧ ∀ j, j < n → cs[off + k + j]? = m[j]? := by
  intro n
  induction n with
  | zero => intro k l _ e; simp only [readN, Option.some.injEq] at e; subst e; exact ⟨[], VRL.nil, rfl, fun j hj => by omega⟩
  | succ n ih =>
    intro k l hk e
    simp only [readN] at e
    split at e
    · rename_i v hv
      split at e
      · rename_i r hr
        cases e
        obtain ⟨v', u, h1, h2, h3⟩ := h k (by omega)
        rw [hv] at h1; cases h1
        obtain ⟨m, hm, hlen, hj⟩ := ih (k + 1) (by omega) hr
        refine ⟨u :: m, VRL.cons h3 hm, by simp [hlen], ?_⟩
        intro j hjn
        cases j with
        | zero => simpa using h2
        | succ j => have := hj j (by omega); simp only [List.getElem?_cons_succ]; rw [← this]; congr 1; omega
      · cases e
    · cases e

section
variable {ι : Emb} {S : Hp} {w0 w : World} {base : Nat}

theorem row_of (h : Inv ι S w0 w base) {b : Nat} {size : Nat} {c : T Value} (e : S.get b = some (.cells size c) ∨ S.get b = some (.con size c)) :
    ∃ i cs t f, ι b = some i ∧ w.heap[i.blk]? = some (.cells cs t f) ∧ Row ι size c i.off cs := by
  rcases e with e | e
  · obtain ⟨i, hi, cs, t, f, a, _, _, _, r⟩ := h.obj _ _ e; exact ⟨i, cs, t, f, hi, a, r⟩
  · obtain ⟨i, hi, cs, t, f, a, r⟩ := h.obj _ _ e; exact ⟨i, cs, t, f, hi, a, r⟩

theorem loadN_inv {b off n : Nat} {l : List Value} (e : loadN S b off n = some l) : ∃ size c, (S.get b = some (.cells size c) ∨ S.get b = some (.con size c)) ∧ off + n ≤ size ∧ readN c off n = some l := by
  unfold loadN at e
  split at e
  · rename_i size c hg
    split at e
    · rename_i hb; exact ⟨size, c, .inl hg, Nat.le_of_ble_eq_true hb, e⟩
    · cases e
  · rename_i size c hg
    split at e
    · rename_i hb; exact ⟨size, c, .inr hg, Nat.le_of_ble_eq_true hb, e⟩
    · cases e
  · cases e

theorem load1_inv {b off : Nat} {v : Value} (e : load1 S b off = some v) : ∃ size c, (S.get b = some (.cells size c) ∨ S.get b = some (.con size c)) ∧ off < size ∧ c.get off = some v := by
  unfold load1 at e
  split at e
  · rename_i size c hg
    split at e
    · rename_i hb; exact ⟨size, c, .inl hg, Nat.le_of_ble_eq_true hb, e⟩
    · cases e
  · rename_i size c hg
    split at e
    · rename_i hb; exact ⟨size, c, .inr hg, Nat.le_of_ble_eq_true hb, e⟩
    · cases e
  · cases e

theorem loadN_sound (h : Inv ι S w0 w base) {b off n : Nat} {l : List Value} (e : loadN S b off n = some l) {i : Info} (hi : ι b = some i) (P : Program) :
    ∃ m, VRL ι l m ∧ (loadCells ⟨i.blk, i.off + off, none⟩ n).run P w = .ok m.toArray w := by
  obtain ⟨size, c, hg, hle, hr⟩ := loadN_inv e
  obtain ⟨i', cs, t, f, hi', hw, row⟩ := row_of h hg
  rw [hi] at hi'; cases hi'
  obtain ⟨m, hm, hlen, hj⟩ := readN_sound row n off hle hr
  refine ⟨m, hm, ?_⟩
  rw [← hlen]
  exact run_loadCells hw m (fun k hk => hj k (by omega))

theorem load1_sound (h : Inv ι S w0 w base) {b off : Nat} {v : Value} (e : load1 S b off = some v) {i : Info} (hi : ι b = some i) (P : Program) :
    ∃ u, VR ι v u ∧ (load ⟨i.blk, i.off + off, none⟩).run P w = .ok u w := by
  obtain ⟨size, c, hg, hlt, hr⟩ := load1_inv e
  obtain ⟨i', cs, t, f, hi', hw, row⟩ := row_of h hg
  rw [hi] at hi'; cases hi'
  obtain ⟨v', u, h1, h2, h3⟩ := row off hlt
  rw [hr] at h1; cases h1
  exact ⟨u, h3, run_load (by rw [cell_of hw]; exact h2)⟩

theorem loadV_sound {E : Env} (ok : E.Tab) (h : Inv ι S w0 w base) {t : TypeId} {b off : Nat} {v : Value} (e : loadV E S t b off = some v) {i : Info} (hi : ι b = some i) :
    ∃ u, VR ι v u ∧ (loadVar t ⟨i.blk, i.off + off, none⟩).run E.P w = .ok u w := by
  unfold loadV at e
  unfold loadVar
  split at e
  · rename_i ha
    split at e
    · rename_i n hs
      split at e
      · rename_i l hl
        cases e
        obtain ⟨m, hm, hr⟩ := loadN_sound h hl hi E.P
        refine ⟨.agg m.toArray, ⟨_, rfl, by rw [VRA.iff]; simpa using hm⟩, ?_⟩
        rw [andThen_bind (runAgg ok ha)]
        simp only [if_true]
        rw [andThen_bind (runSiz ok hs), andThen_bind hr]; rfl
      · cases e
    · cases e
  · rename_i ha
    obtain ⟨u, hu, hr⟩ := load1_sound h e hi E.P
    refine ⟨u, hu, ?_⟩
    rw [andThen_bind (runAgg ok ha)]
    simpa using hr
  · cases e

theorem apart_sound {E : Env} (ok : E.Tab) {t : TypeId} {l m : List Value} {off : Nat} {v : Value} (hl : VRL ι l m) (e : apart E t l off = some v) : ∃ u, VR ι v u ∧ (part t ⟨m⟩ off).run E.P w = .ok u w := by
  unfold apart at e
  unfold part
  split at e
  · rename_i ha
    split at e
    · rename_i n hs
      cases e
      refine ⟨.agg ((⟨m⟩ : Array Value).extract off (off + n)), ⟨_, rfl, ?_⟩, ?_⟩
      · rw [VRA.iff]
        have : ((⟨m⟩ : Array Value).extract off (off + n)).toList = (m.drop off).take n := by simp
        rw [this]
        exact (hl.drop off).take n
      · rw [andThen_bind (runAgg ok ha)]
        simp only [if_true]
        rw [andThen_bind (runSiz ok hs)]; rfl
    · cases e
  · rename_i ha
    rw [nth_eq] at e
    obtain ⟨u, hu, r⟩ := hl.get e
    refine ⟨u, r, ?_⟩
    rw [andThen_bind (runAgg ok ha)]
    have : (⟨m⟩ : Array Value)[off]? = some u := by simpa using hu
    simp only [this]
    rfl
  · cases e
end

end Go.Am
