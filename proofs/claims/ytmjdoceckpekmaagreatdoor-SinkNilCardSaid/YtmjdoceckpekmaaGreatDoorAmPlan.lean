import Derived.Test.YtmjdoceckpekmaaGreatDoorAmSound
set_option linter.unusedSimpArgs false
set_option linter.unusedVariables false
namespace Go.Am

/-! ### a region that draws its order: which stand ahead of which -/
theorem planOf_drop (lights : List Nat) (lo hi : Nat → Nat) : ∀ (hs : List Nat) (k0 j : Nat), j ≤ hs.length →
    (planOf lights lo hi k0 hs).drop j = ⟨lights.filter fun i => Nat.beq (lo i) (k0 + j), lights.filter fun i => Nat.ble (lo i) (k0 + j) && Nat.ble (k0 + j) (hi i), hs[j]?⟩ :: (planOf lights lo hi k0 hs).drop (j + 1) := by
  intro hs
  induction hs with
  | nil => intro k0 j h; obtain rfl : j = 0 := by simpa using h
           simp [planOf]
  | cons x hs ih =>
    intro k0 j h
    cases j with
    | zero => simp [planOf]
    | succ j =>
      have := ih (k0 + 1) j (by simpa using h)
      simp only [planOf, List.drop_succ_cons, List.getElem?_cons_succ]
      rw [show k0 + (j + 1) = k0 + 1 + j from by omega]
      exact this

theorem plan_inv {E : Env} {ops : List Oper} {pl : List DStage} (h : plan E ops = some pl) : chainOk (ahd ops) (hvs E ops) = true ∧ (∀ j, j < ops.length → backOk ops j = true ∧ slotOk ops (ahd ops) ops.length j = true) ∧ pl = planOf (lts E ops) (lo E ops) (hi E ops) 0 (hvs E ops) := by
  rw [plan_eq] at h
  split at h
  · rename_i hc
    cases h
    rw [Bool.and_eq_true, List.all_eq_true] at hc
    refine ⟨hc.1, fun j hj => ?_, rfl⟩
    have := hc.2 j (by simpa using hj)
    rwa [Bool.and_eq_true] at this
  · cases h

def aheadOne (o : Oper) (acc : List Nat) : Nat := o.after.toList.foldl (fun s e => match Region.binds .any e with
      | true => s ||| 2 ^ e.on ||| (nth acc e.on).getD 0
      | false => s) 0

theorem aheadOf_cons (o : Oper) (l : List Oper) (acc : List Nat) : aheadOf (o :: l) acc = aheadOf l (acc ++ [aheadOne o acc]) := rfl

theorem aheadOf_pre : ∀ (l : List Oper) (acc : List Nat), ∃ r, aheadOf l acc = acc ++ r := by
  intro l
  induction l with
  | nil => intro acc; exact ⟨[], by simp [aheadOf]⟩
  | cons o l ih => intro acc; obtain ⟨r, hr⟩ := ih (acc ++ [aheadOne o acc]); exact ⟨_ :: r, by rw [aheadOf_cons, hr]; simp; rfl⟩

theorem aheadOf_get : ∀ (l : List Oper) (acc : List Nat) (i : Nat) (o : Oper), l[i]? = some o →
    (aheadOf l acc)[acc.length + i]? = some (aheadOne o ((aheadOf l acc).take (acc.length + i))) := by
  intro l
  induction l with
  | nil => intro acc i o h; simp at h
  | cons x l ih =>
    intro acc i o h
    rw [aheadOf_cons]
    cases i with
    | zero =>
      simp only [List.getElem?_cons_zero, Option.some.injEq] at h
      subst h
      obtain ⟨r, hr⟩ := aheadOf_pre l (acc ++ [aheadOne x acc])
      rw [hr]
      simp
    | succ i =>
      have := ih (acc ++ [aheadOne x acc]) i o (by simpa using h)
      simp only [List.length_append, List.length_cons, List.length_nil] at this
      rw [show acc.length + (i + 1) = acc.length + (0 + 1) + i from by omega]
      exact this

theorem fold_bits (es : List Edge) (acc : List Nat) (j : Nat) : ∀ (s : Nat), (es.foldl (fun s e => match Region.binds .any e with
      | true => s ||| 2 ^ e.on ||| (nth acc e.on).getD 0
      | false => s) s).testBit j = true → s.testBit j = true ∨ ∃ e ∈ es, Region.binds .any e = true ∧ (j = e.on ∨ ∃ b, acc[e.on]? = some b ∧ b.testBit j = true) := by
  induction es with
  | nil => intro s h; exact .inl h
  | cons e es ih =>
    intro s h
    rw [List.foldl_cons] at h
    rcases ih _ h with h | ⟨e', he, hb, hj⟩
    · split at h
      · rename_i hb
        rw [Nat.testBit_or, Nat.testBit_or, Bool.or_eq_true, Bool.or_eq_true] at h
        rcases h with (h | h) | h
        · exact .inl h
        · rw [Nat.testBit_two_pow] at h
          have hq : e.on = j := by simpa using h
          exact .inr ⟨e, by simp, hb, .inl hq.symm⟩
        · rw [nth_eq] at h
          cases q : acc[e.on]? with
          | none => rw [q] at h; simp at h
          | some b => rw [q] at h; exact .inr ⟨e, by simp, hb, .inr ⟨b, q, h⟩⟩
      · exact .inl h
    · exact .inr ⟨e', by simp [he], hb, hj⟩

/-- What stands ahead of an operation stands ahead by an edge, or ahead of such a one. -/
theorem ords_edge {ops : List Oper} {j i : Nat} (h : ords (ahd ops) j i = true) : ∃ o, ops[i]? = some o ∧ ∃ e ∈ o.after, Region.binds .any e = true ∧ (j = e.on ∨ (e.on < i ∧ ords (ahd ops) j e.on = true)) := by
  unfold ords at h
  rw [nth_eq] at h
  have hlen : ∀ (l : List Oper) (acc : List Nat), (aheadOf l acc).length = acc.length + l.length := by
    intro l; induction l with
    | nil => intro acc; simp [aheadOf]
    | cons o l ih => intro acc; rw [aheadOf_cons, ih]; simp; omega
  cases hi : ops[i]? with
  | none =>
    have : (ahd ops)[i]? = none := by
      rw [List.getElem?_eq_none_iff] at hi ⊢
      unfold ahd; rw [hlen]; simpa using hi
    rw [this] at h; simp at h
  | some o =>
    have hg := aheadOf_get ops [] i o hi
    simp only [List.length_nil, Nat.zero_add] at hg
    have hg' : (ahd ops)[i]? = some (aheadOne o ((ahd ops).take i)) := hg
    rw [hg'] at h
    simp only [Option.getD_some] at h
    rcases fold_bits _ _ _ _ h with h | ⟨e, he, hb, hj⟩
    · simp at h
    · refine ⟨o, rfl, e, by simpa using he, hb, ?_⟩
      rcases hj with hj | ⟨b, hb', hj⟩
      · exact .inl hj
      · right
        rw [List.getElem?_take] at hb'
        split at hb'
        · rename_i hlt
          refine ⟨hlt, ?_⟩
          unfold ords; rw [nth_eq, hb']; exact hj
        · cases hb'

/-- All that stands ahead of an operation that may be made is listed. -/
theorem ahead_listed {ops : List Oper} {L : Array Bool} (hc : Closed ops L) : ∀ (n i j : Nat), i < n → (∀ o, ops[i]? = some o → ∀ e ∈ o.after, Region.binds .any e = true → L.getD e.on false = true) → ords (ahd ops) j i = true → L.getD j false = true := by
  intro n
  induction n with
  | zero => intro i j h; omega
  | succ n ih =>
    intro i j hi hr h
    obtain ⟨o, ho, e, he, hb, hj⟩ := ords_edge h
    have hl := hr o ho e he hb
    rcases hj with rfl | ⟨hlt, hj⟩
    · exact hl
    · exact ih e.on j (by omega) (fun o' ho' e' he' hb' => hc e.on o' hl ho' e' he' hb') hj

theorem chain_spec {b : List Nat} : ∀ {hs : List Nat} {q x y : Nat}, chainOk b hs = true → hs[q]? = some x → hs[q + 1]? = some y → ords b x y = true := by
  intro hs
  induction hs with
  | nil => intro q x y _ h; simp at h
  | cons a hs ih =>
    intro q x y h hx hy
    cases hs with
    | nil => simp at hy
    | cons c hs =>
      simp only [chainOk, Bool.and_eq_true] at h
      cases q with
      | zero => simp at hx hy; subst hx; subst hy; exact h.1
      | succ q => exact ih h.2 (by simpa using hx) (by simpa using hy)

theorem count_le {p : Nat → Bool} {k : Nat} : ∀ {hs : List Nat}, (∀ j x, hs[j]? = some x → p x = true → j < k) → count p hs ≤ k := by
  intro hs
  induction hs generalizing k with
  | nil => intro _; simp [count]
  | cons x hs ih =>
    intro h
    simp only [count]
    cases k with
    | zero =>
      have : ∀ (l : List Nat), (∀ y ∈ l, p y = false) → count p l = 0 := by
        intro l; induction l with
        | nil => intro _; rfl
        | cons z l ihl => intro hz; simp only [count, hz z (by simp)]; exact ihl (fun y hy => hz y (by simp [hy]))
      have hx : p x = false := by
        cases q : p x
        · rfl
        · have := h 0 x (by simp) q; omega
      rw [hx]
      rw [this hs]
      · exact Nat.le_refl 0
      · intro y hy
        cases q : p y
        · rfl
        · obtain ⟨m, hm⟩ := List.getElem?_of_mem hy
          have := h (m + 1) y (by simpa using hm) q; omega
    | succ k =>
      have := ih (k := k) (fun j y hj hy => by have := h (j + 1) y (by simpa using hj) hy; omega)
      split <;> omega

theorem le_count {p : Nat → Bool} {k : Nat} : ∀ {hs : List Nat}, k ≤ hs.length → (∀ j x, hs[j]? = some x → j < k → p x = true) → k ≤ count p hs := by
  intro hs
  induction hs generalizing k with
  | nil => intro h _; simpa [count] using h
  | cons x hs ih =>
    intro hk h
    cases k with
    | zero => omega
    | succ k =>
      have := ih (k := k) (by simpa using hk) (fun j y hj hy => h (j + 1) y (by simpa using hj) (by omega))
      simp only [count, h 0 x (by simp) (by omega)]
      omega

theorem lts_mem {E : Env} {ops : List Oper} {i : Nat} : i ∈ lts E ops ↔ i < ops.length ∧ isLit E ops i = true := by
  unfold lts; simp

theorem hvs_mem {E : Env} {ops : List Oper} {i : Nat} (h : i < ops.length) (h' : isLit E ops i = false) : ∃ j : Nat, (hvs E ops)[j]? = some i := by
  apply List.getElem?_of_mem
  unfold hvs; simp [h, h']

theorem ready_iff {arr : Array Oper} {ops : List Oper} (harr : arr.toList = ops) {L : Array Bool} (hs : L.size = ops.length) {i : Nat} : i ∈ Region.ready .any arr L ↔ i < ops.length ∧ L.getD i false = false ∧ ∀ o, ops[i]? = some o → ∀ e ∈ o.after, Region.binds .any e = true → L.getD e.on false = true := by
  unfold Region.ready
  rw [List.mem_filter, List.mem_range, Bool.and_eq_true]
  have hsz : arr.size = ops.length := by rw [← harr]; simp
  rw [hsz]
  refine and_congr_right fun hi => ?_
  have hiL : i < L.size := by omega
  have h1 : (!L.getD i true) = true ↔ L.getD i false = false := by simp [hiL]
  rw [h1]
  refine and_congr_right fun _ => ?_
  rw [nth_arr harr]
  have : ops[i]? = some ops[i] := by simp [hi]
  rw [this]
  simp only [Option.map_some, Option.getD_some, Option.some.injEq, forall_eq']
  rw [Array.all_eq_true_iff_forall_mem]
  constructor
  · intro h e he hb
    have := h e he
    rw [hb] at this
    simpa using this
  · intro h e he
    cases hb : Region.binds .any e
    · rfl
    · simp [h e he hb]

/-- Nothing more may be made: all is listed. -/
theorem ready_nil {arr : Array Oper} {ops : List Oper} (harr : arr.toList = ops) {L : Array Bool} (hs : L.size = ops.length) (hback : ∀ j, j < ops.length → backOk ops j = true) (h : Region.ready .any arr L = []) : ∀ i, i < ops.length → L.getD i false = true := by
  intro i
  induction i using Nat.strongRecOn with
  | _ i ih =>
    intro hi
    cases hl : L.getD i false
    · exfalso
      have : i ∈ Region.ready .any arr L := by
        rw [ready_iff harr hs]
        refine ⟨hi, hl, ?_⟩
        intro o ho e he hb
        have hbk := hback i hi
        unfold backOk at hbk
        rw [nth_eq, ho] at hbk
        simp only [List.all_eq_true] at hbk
        have := hbk e (by simpa using he)
        rw [hb] at this
        have hlt : e.on < i := by
          have h2 : Nat.blt e.on i = true := by simpa using this
          exact Nat.le_of_ble_eq_true h2
        exact ih e.on hlt (by omega)
      rw [h] at this; simp at this
    · rfl

theorem unlisted_zero {L : Array Bool} (h : unlisted L = 0) {i : Nat} (hi : i < L.size) : L.getD i false = true := by
  unfold unlisted at h
  have := List.length_eq_zero_iff.1 h
  rw [List.filter_eq_nil_iff] at this
  have := this L[i] (by simp)
  simp [hi]
  simpa using this

theorem slot_spec {ops : List Oper} {j i : Nat} {d : Tmp} {p : Oper} (h : slotOk ops (ahd ops) ops.length j = true) (hd : dstOf ops j = some d) (hp : ops[i]? = some p) :
    (i ≠ j → p.dst ≠ some d) ∧ (d ∈ readsOf p ops → ords (ahd ops) j i = true) := by
  unfold slotOk at h
  rw [hd] at h
  simp only [List.all_eq_true, List.mem_range] at h
  have hi : i < ops.length := (List.getElem?_eq_some_iff.1 hp).1
  have := h i hi
  rw [nth_eq, hp] at this
  simp only [Bool.and_eq_true, Bool.or_eq_true] at this
  obtain ⟨h1, h2⟩ := this
  constructor
  · intro hij e
    rcases h1 with h1 | h1
    · exact hij (Nat.eq_of_beq_eq_true h1)
    · rw [e] at h1
      simp at h1
  · intro hr
    rcases h2 with h2 | h2
    · exact h2
    · simp at h2; exact absurd hr h2
end Go.Am
