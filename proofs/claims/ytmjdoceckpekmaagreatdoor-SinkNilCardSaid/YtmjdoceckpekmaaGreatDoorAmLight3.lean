import Derived.Test.YtmjdoceckpekmaaGreatDoorAmLight2
set_option linter.unusedSimpArgs false
set_option linter.unusedVariables false
namespace Go.Am

theorem writeC_toList (l : List Value) (cs : Array Value) (k : Nat) (h : k + l.length ≤ cs.size) : (writeC cs k l).toList = cs.toList.take k ++ l ++ cs.toList.drop (k + l.length) := by
  apply List.ext_getElem?
  intro j
  have := writeC_get l cs k j h
  rw [Array.getElem?_toList, this]
  simp only [List.getElem?_append, List.length_take, List.length_append, Array.length_toList]
  have hm : min k cs.size = k := by omega
  rw [hm]
  by_cases h1 : j < k
  · rw [if_neg (by omega), if_pos (by omega), if_pos h1, List.getElem?_take, if_pos h1, Array.getElem?_toList]
  · by_cases h2 : j < k + l.length
    · rw [if_pos ⟨by omega, h2⟩, if_pos h2, if_neg h1]
    · rw [if_neg (by omega), if_neg h2, List.getElem?_drop, Array.getElem?_toList]
      congr 1; omega

theorem foldl_write (off : Nat) : ∀ (l : List Value) (cs : Array Value) (n : Nat), (l.zipIdx n).foldl (fun cs (x : Value × Nat) => cs.setIfInBounds (off + x.2) x.1) cs = writeC cs (off + n) l := by
  intro l
  induction l with
  | nil => intro cs n; rfl
  | cons v l ih => intro cs n; simp only [List.zipIdx_cons, List.foldl_cons, ih, writeC, Nat.add_assoc]

theorem fill_write (off : Nat) (v : Value) (cs : Array Value) : v.cells.zipIdx.foldl (fun cs (c, j) => cs.setIfInBounds (off + j) c) cs = writeC cs off v.cells.toList := by
  rw [← Array.foldl_toList, Array.toList_zipIdx]
  exact foldl_write off v.cells.toList cs 0

section
variable {E : Env} {ι : Emb} {w : World}

theorem fillA_sound {pl pl' : Nat → Option (Nat × Nat)} (hp : ∀ i x, pl i = some x → pl' i = some x) : ∀ (ps qs : List (Nat × Value)) (l r : List Value) (m : Array Value), PR ι ps qs → VRL ι l m.toList → fillA pl l ps = some r →
    ∃ m', Instr.fill pl' m qs = some m' ∧ VRL ι r m'.toList := by
  intro ps
  induction ps with
  | nil => intro qs l r m hq hl e; rw [show qs = [] from hq]; simp only [fillA, Option.some.injEq] at e; subst e; exact ⟨m, rfl, hl⟩
  | cons p ps ih =>
    intro qs l r m hq hl e
    obtain ⟨i, v⟩ := p
    obtain ⟨u, qr, rfl, hv, hps⟩ := hq
    simp only [fillA] at e
    split at e
    · cases e
    · rename_i off size hpl
      split at e
      · rename_i hc
        simp only [Bool.and_eq_true] at hc
        have h1 : (cellsL v).length = size := Nat.eq_of_beq_eq_true hc.1
        have h2 : off + size ≤ l.length := Nat.le_of_ble_eq_true hc.2
        have hcl := VR.cellsL hv
        have h3 : u.cells.size = size := by have := hcl.length; simp at this; omega
        have h4 : m.size = l.length := by have := hl.length; simpa using this
        have hw : VRL ι (l.take off ++ cellsL v ++ l.drop (off + size)) (writeC m off u.cells.toList).toList := by
          rw [writeC_toList _ _ _ (by simp; omega)]
          have : u.cells.toList.length = size := by simpa using h3
          rw [this]
          exact ((hl.take off).append hcl).append (hl.drop (off + size))
        obtain ⟨m', hm', hr⟩ := ih qr _ r _ hps hw e
        refine ⟨m', ?_, hr⟩
        simp only [Instr.fill, hp i _ hpl]
        rw [if_neg (by simp [h3]; omega), fill_write]
        exact hm'
      · cases e

theorem PR.of_array {ρ : Operand → Value} (parts : Array (Nat × Operand)) : (parts.map fun (i, x) => (i, ρ x)).toList = parts.toList.map fun p => (p.1, ρ p.2) := by
  simp

theorem run_mapM_places (ok : E.Tab) : ∀ (fs : List Field), (∀ f ∈ fs, ∃ n, E.siz f.type = some n) → ∃ r : List (Nat × Nat), (fs.mapM (m := Sem) fun (f : Field) => do pure (f.offset, ← sizeOf f.type)).run E.P w = .ok r w ∧
    ∀ (i : Nat) (f : Field) (n : Nat), fs[i]? = some f → E.siz f.type = some n → r[i]? = some (f.offset, n) := by
  intro fs
  induction fs with
  | nil => intro _; exact ⟨[], rfl, by simp⟩
  | cons f fs ih =>
    intro h
    obtain ⟨n, hn⟩ := h f (by simp)
    obtain ⟨r, hr, hk⟩ := ih (fun g hg => h g (by simp [hg]))
    refine ⟨(f.offset, n) :: r, ?_, ?_⟩
    · rw [List.mapM_cons]
      simp only [bind_assoc, pure_bind]
      rw [andThen_bind (runSiz ok hn), andThen_bind hr]; rfl
    · intro i g k hi hs
      cases i with
      | zero => simp at hi; subst hi; rw [hn] at hs; cases hs; rfl
      | succ i => simp at hi; simpa using hk i g k hi hs

theorem buildA_sound (ok : E.Tab) {t : TypeId} {ps : List (Nat × Value)} {qs : Array (Nat × Value)} {v : Value} (hq : PR ι ps qs.toList) (e : buildA E t ps = some v) : ∃ u, VR ι v u ∧ (Instr.build t qs).run E.P w = .ok u w := by
  unfold buildA at e
  unfold Instr.build
  split at e
  · rename_i fields z hu hz
    have hzp := (ok.zer _ _ hz).2
    split at e
    · rename_i l hl
      cases e
      obtain ⟨r, hr, hk⟩ := run_mapM_places (w := w) ok fields.toList (fun f hf => ok.flds _ _ hu f hf)
      obtain ⟨m', hm', hv⟩ := fillA_sound (pl' := fun i => r[i]?) (fun i x hx => by
        split at hx
        · rename_i f hf
          split at hx
          · rename_i s hs; cases hx; rw [nth_eq] at hf; exact hk i f s hf hs
          · cases hx
        · cases hx) ps qs.toList _ _ z.cells hq (VR.cellsL (VR.of_plain z hzp)) hl
      refine ⟨.agg m', ⟨_, rfl, VRA.iff.2 hv⟩, ?_⟩
      simp only
      rw [andThen_bind (runZer ok hz), andThen_bind (runUnd ok hu)]
      simp only
      have hr' : (fields.mapM (m := Sem) fun (f : Field) => do pure (f.offset, ← sizeOf f.type)).run E.P w = .ok r.toArray w := by
        rw [Array.mapM_eq_mapM_toList]
        have : (List.toArray <$> (fields.toList.mapM (m := Sem) fun (f : Field) => do pure (f.offset, ← sizeOf f.type))).run E.P w = .ok r.toArray w := by
          rw [Sem.run_map, hr]; rfl
        exact this
      rw [andThen_bind hr']
      have : (fun (i : Nat) => r.toArray[i]?) = fun (i : Nat) => r[i]? := by funext i; simp
      rw [this, hm']; rfl
    · cases e
  · rename_i n elem z hu hz
    have hzp := (ok.zer _ _ hz).2
    split at e
    · rename_i s hs
      split at e
      · rename_i l hl
        cases e
        obtain ⟨m', hm', hv⟩ := fillA_sound (pl' := fun i => some (i * s, s)) (fun i x hx => hx) ps qs.toList _ _ z.cells hq (VR.cellsL (VR.of_plain z hzp)) hl
        refine ⟨.agg m', ⟨_, rfl, VRA.iff.2 hv⟩, ?_⟩
        simp only
        rw [andThen_bind (runZer ok hz), andThen_bind (runUnd ok hu)]
        simp only
        rw [andThen_bind (runSiz ok hs), hm']; rfl
      · cases e
    · cases e
  · cases e

theorem bound_sound {x u : Value} {y n : Nat} (e : bound x y = some n) (hx : VR ι x u) : n ≤ y ∧ ∀ y' code, n ≤ y' → (Instr.sliceBound u y' code).run E.P w = .ok n w := by
  unfold bound at e
  split at e
  · rename_i k m
    split at e
    · rename_i h
      cases e
      obtain rfl := hx
      refine ⟨Nat.le_of_ble_eq_true h, fun y' code hy => ?_⟩
      unfold Instr.sliceBound
      rw [andThen_bind (a := (k, Int.ofNat n)) (w' := w) rfl]
      simp only
      rw [if_pos (by constructor <;> simp; omega)]
      rfl
    · cases e
  · cases e

/-- A bound that is there, or not. -/
theorem bound_opt {x u : Option Value} {d y n : Nat} (e : (match x with | some v => bound v y | none => some d) = some n) (hx : OR ι x u) :
    (x = none ∧ u = none ∧ n = d) ∨ (∃ v z, x = some v ∧ u = some z ∧ n ≤ y ∧ ∀ y' code, n ≤ y' → (Instr.sliceBound z y' code).run E.P w = .ok n w) := by
  cases x with
  | none => left; simp at e; exact ⟨rfl, hx, e.symm⟩
  | some v =>
    right
    obtain ⟨z, rfl, hz⟩ := hx
    obtain ⟨a, b⟩ := bound_sound (E := E) (w := w) e hz
    exact ⟨v, z, rfl, rfl, a, b⟩

def mOr (mx : Option Value) (c m : Nat) : Nat := match mx with
  | none => c
  | some _ => m

theorem beq_no {m l : Nat} (h : m ≠ l) : Nat.beq m l = false := by
  cases hb : Nat.beq m l
  · rfl
  · exact absurd (Nat.eq_of_beq_eq_true hb) h
theorem beq_yes (m : Nat) : Nat.beq m m = true := by simp
theorem blt_no {l h : Nat} (e : Nat.blt l h = false) : h ≤ l := by
  rcases Nat.lt_or_ge l h with q | q
  · have : Nat.blt l h = true := by simpa using q
    rw [this] at e; cases e
  · exact q

theorem bounds_sound {len cap l h m : Nat} {lo hi mx lo' hi' mx' : Option Value} (e : bounds len cap lo hi mx = some (l, h, m)) (hlo : OR ι lo lo') (hhi : OR ι hi hi') (hmx : OR ι mx mx') (hlc : len ≤ cap ∨ hi ≠ none) (b : Bool) (cap' : Nat) (hc : cap ≤ cap') :
    l ≤ h ∧ h ≤ m ∧ m ≤ cap ∧ (mx = none → m = cap) ∧ (Instr.sliceBounds b len cap' lo' hi' mx').run E.P w = .ok (l, h, mOr mx cap' m) w := by
  unfold bounds at e
  split at e
  · cases e
  · rename_i m0 hm0
    split at e
    · cases e
    · rename_i h0 hh0
      split at e
      · cases e
      · rename_i l0 hl0
        cases e
        have L := bound_opt (E := E) (w := w) hl0 hlo
        have M := bound_opt (E := E) (w := w) hm0 hmx
        unfold Instr.sliceBounds
        rcases M with ⟨rfl, rfl, rfl⟩ | ⟨mv, mu, rfl, rfl, mx1, my⟩
        · have H := bound_opt (E := E) (w := w) (x := hi) (d := len) (y := m) (n := h) (by cases hi <;> simpa using hh0) hhi
          rcases H with ⟨rfl, rfl, rfl⟩ | ⟨hv, hu, rfl, rfl, hx1, hy⟩
          · have hlc : h ≤ m := by rcases hlc with q | q; exact q; exact absurd rfl q
            rcases L with ⟨rfl, rfl, rfl⟩ | ⟨lv, lu, rfl, rfl, lx1, ly⟩
            · exact ⟨Nat.zero_le _, hlc, Nat.le_refl _, fun _ => rfl, rfl⟩
            · refine ⟨lx1, hlc, Nat.le_refl _, fun _ => rfl, ?_⟩
              simp only [pure_bind]
              rw [andThen_bind (ly _ _ lx1)]; rfl
          · have hcm := hc
            rcases L with ⟨rfl, rfl, rfl⟩ | ⟨lv, lu, rfl, rfl, lx1, ly⟩
            · refine ⟨Nat.zero_le _, hx1, Nat.le_refl _, fun _ => rfl, ?_⟩
              simp only [pure_bind]
              rw [andThen_bind (hy _ _ (by omega))]; rfl
            · refine ⟨lx1, hx1, Nat.le_refl _, fun _ => rfl, ?_⟩
              simp only [pure_bind]
              rw [andThen_bind (hy _ _ (by omega)), andThen_bind (ly _ _ lx1)]; rfl
        · have hcm := hc
          cases hi with
          | none => simp at hh0
          | some hv =>
            obtain ⟨hu, rfl, hhu⟩ := hhi
            obtain ⟨hx1, hy⟩ := bound_sound (E := E) (w := w) hh0 hhu
            rcases L with ⟨rfl, rfl, rfl⟩ | ⟨lv, lu, rfl, rfl, lx1, ly⟩
            · refine ⟨Nat.zero_le _, hx1, mx1, fun q => by simp at q, ?_⟩
              simp only [pure_bind]
              rw [andThen_bind (my _ _ (by omega)), andThen_bind (hy _ _ hx1)]; rfl
            · refine ⟨lx1, hx1, mx1, fun q => by simp at q, ?_⟩
              simp only [pure_bind]
              rw [andThen_bind (my _ _ (by omega)), andThen_bind (hy _ _ hx1), andThen_bind (ly _ _ lx1)]; rfl
end
end Go.Am
