import Derived.Test.YtmjdoceckpekmaaGreatDoorAmLight3
set_option linter.unusedSimpArgs false
set_option linter.unusedVariables false
namespace Go.Am
section
variable {E : Env} {ι : Emb} {w : World}

theorem sliceRow_sound {s : Nat} {q : Addr} {len cap : Nat} {lo hi mx lo' hi' mx' : Option Value} {v : Value} {i : Info} {a' : Option Addr} {n' c' : Nat} (e : sliceRow s q len cap lo hi mx = some v) (hi0 : ι q.block = some i) (hx : SR i q len cap (.slice a' n' c'))
    (hlo : OR ι lo lo') (hhi : OR ι hi hi') (hmx : OR ι mx mx') :
    ∃ l h m, (Instr.sliceBounds true n' c' lo' hi' mx').run E.P w = .ok (l, h, m) w ∧ VR ι v (.slice (if m = l then a' else a'.map (·.add (l * s))) (h - l) (m - l)) := by
  unfold sliceRow at e
  unfold SR at hx
  split at e
  · rename_i hsp
    rw [hsp] at hx
    obtain ⟨rfl, rfl, rfl⟩ : a' = some ⟨i.blk, i.off + q.off, none⟩ ∧ n' = len ∧ c' = cap := by simpa using hx
    split at e
    · rename_i l h m hle hb
      cases e
      obtain ⟨h1, h2, h3, h4, hr⟩ := bounds_sound (E := E) (w := w) hb hlo hhi hmx (.inl (Nat.le_of_ble_eq_true hle)) true c' (Nat.le_refl _)
      have hm : mOr mx c' m = m := by cases mx with
        | none => exact (h4 rfl).symm
        | some _ => rfl
      rw [hm] at hr
      refine ⟨l, h, m, hr, i, hi0, ?_⟩
      unfold SR
      by_cases he : m = l
      · subst he; rw [if_pos rfl, beq_yes]
      · rw [if_neg he, beq_no he]; simp only [Option.map_some, addr_add, Nat.add_assoc]
    · cases e
  · rename_i hsp
    rw [hsp] at hx
    obtain ⟨c'', hx, hn, hroom⟩ := hx
    obtain ⟨rfl, rfl, rfl⟩ : a' = some ⟨i.blk, i.off + q.off, none⟩ ∧ n' = len ∧ c' = c'' := by simpa using hx
    split at e
    · rename_i hcs
      have hcs : cap = s := Nat.eq_of_beq_eq_true hcs
      subst hcs
      split at e
      · rename_i l h m hb
        obtain rfl : mx' = none := hmx
        obtain ⟨h1, h2, h3, h4, hr⟩ := bounds_sound (E := E) (w := w) hb hlo hhi (mx := none) (mx' := none) rfl (.inl (Nat.le_refl _)) true c' hn
        refine ⟨l, h, c', hr, ?_⟩
        split at e
        · rename_i hlt
          have hlt := Nat.le_of_ble_eq_true hlt
          cases e
          rw [if_neg (by omega)]
          refine ⟨i, hi0, ?_⟩
          unfold SR
          simp only [Option.map_some, addr_add]
          refine ⟨c' - l, by rw [Nat.add_assoc], by omega, ?_⟩
          have : (c' - l) * cap + l * cap = c' * cap := by rw [← Nat.add_mul]; congr 1; omega
          omega
        · rename_i hlt
          have hlt := blt_no hlt
          have hh : h - l = 0 := by omega
          rw [hh]
          cases l with
          | zero =>
            cases e
            refine ⟨i, hi0, ?_⟩
            unfold SR
            simp only [hsp]
            refine ⟨c', ?_, by omega, hroom⟩
            congr 1
            split
            · rfl
            · simp [addr_add]
          | succ l =>
            cases e
            refine ⟨i, hi0, ?_⟩
            unfold SR
            simp only
            refine ⟨trivial, ?_⟩
            split
            · exact ⟨_, _, rfl⟩
            · exact ⟨i.off + q.off + (l + 1) * cap, c' - (l + 1), by simp only [Option.map_some, addr_add]⟩
      · cases e
    · rename_i mv hcs
      have hcs : cap = s := Nat.eq_of_beq_eq_true hcs
      subst hcs
      split at e
      · rename_i l h m hb
        cases e
        obtain ⟨h1, h2, h3, h4, hr⟩ := bounds_sound (E := E) (w := w) hb hlo hhi hmx (.inl (Nat.le_refl _)) true c' hn
        refine ⟨l, h, m, hr, i, hi0, ?_⟩
        unfold SR
        by_cases he : m = l
        · subst he; rw [if_pos rfl, beq_yes]
        · rw [if_neg he, beq_no he]; simp only [Option.map_some, addr_add, Nat.add_assoc]
      · cases e
    · cases e
  · rename_i n hne hsp
    rw [hsp] at hx
    obtain ⟨n, rfl⟩ : ∃ k, n = k + 1 := ⟨n - 1, by have : n ≠ 0 := fun q => hne q
                                                   omega⟩
    obtain ⟨h0, o, c'', hx⟩ := hx
    obtain ⟨rfl, rfl, rfl⟩ : a' = some ⟨i.blk, o, none⟩ ∧ n' = 0 ∧ c' = c'' := by simpa using hx
    have fin : v = .slice (some q) 0 0 → (Instr.sliceBounds true 0 c' lo' hi' mx').run E.P w = .ok (0, 0, c') w → ∃ l h m, (Instr.sliceBounds true 0 c' lo' hi' mx').run E.P w = .ok (l, h, m) w ∧ VR ι v (.slice (if m = l then some ⟨i.blk, o, none⟩ else (some (⟨i.blk, o, none⟩ : Addr)).map (·.add (l * s))) (h - l) (m - l)) := by
      rintro rfl hr
      refine ⟨0, 0, c', hr, i, hi0, ?_⟩
      unfold SR
      simp only [hsp]
      refine ⟨trivial, ?_⟩
      split
      · exact ⟨o, c', rfl⟩
      · exact ⟨o + 0 * s, c', by simp only [Option.map_some, addr_add]; rfl⟩
    have bz : ∀ {u : Value} {k : IntKind}, VR ι (.int k (.ofNat 0)) u → ∀ y code, (Instr.sliceBound u y code).run E.P w = .ok 0 w := by
      intro u k hu y code
      have : bound (.int k (.ofNat 0)) 0 = some 0 := rfl
      exact (bound_sound (E := E) (w := w) this hu).2 y code (Nat.zero_le _)
    split at e
    · cases e
      obtain ⟨u, rfl, hu⟩ := hlo; obtain rfl := hhi; obtain rfl := hmx
      refine fin rfl ?_
      unfold Instr.sliceBounds; simp only [pure_bind]
      rw [andThen_bind (bz hu _ _)]; rfl
    · cases e
      obtain ⟨u, rfl, hu⟩ := hhi; obtain rfl := hlo; obtain rfl := hmx
      refine fin rfl ?_
      unfold Instr.sliceBounds; simp only [pure_bind]
      rw [andThen_bind (bz hu _ _)]; rfl
    · cases e
      obtain ⟨u, rfl, hu⟩ := hhi; obtain ⟨u2, rfl, hu2⟩ := hlo; obtain rfl := hmx
      refine fin rfl ?_
      unfold Instr.sliceBounds; simp only [pure_bind]
      rw [andThen_bind (bz hu _ _), andThen_bind (bz hu2 _ _)]; rfl
    · cases e
      obtain rfl := hhi; obtain rfl := hlo; obtain rfl := hmx
      exact fin rfl rfl
    · cases e

theorem sliceArr_sound {s n : Nat} {p : Addr} {lo hi mx lo' hi' mx' : Option Value} {v : Value} {i : Info} (e : sliceArr s n p lo hi mx = some v) (hi0 : ι p.block = some i)
    (hlo : OR ι lo lo') (hhi : OR ι hi hi') (hmx : OR ι mx mx') :
    ∃ l h m, (Instr.sliceBounds false n n lo' hi' mx').run E.P w = .ok (l, h, m) w ∧ VR ι v (.slice (some (if m = l then ⟨i.blk, i.off + p.off, none⟩ else (⟨i.blk, i.off + p.off, none⟩ : Addr).add (l * s))) (h - l) (m - l)) := by
  unfold sliceArr at e
  split at e
  · cases e
  · split at e
    · rename_i l h m hb
      cases e
      obtain ⟨h1, h2, h3, h4, hr⟩ := bounds_sound (E := E) (w := w) hb hlo hhi hmx (.inl (Nat.le_refl _)) false n (Nat.le_refl _)
      have hm : mOr mx n m = m := by cases mx with
        | none => exact (h4 rfl).symm
        | some _ => rfl
      rw [hm] at hr
      refine ⟨l, h, m, hr, i, hi0, ?_⟩
      unfold SR
      by_cases he : m = l
      · subst he; rw [if_pos rfl, beq_yes]
      · rw [if_neg he, beq_no he]; simp only [addr_add, Nat.add_assoc]
    · cases e

theorem sliceA_sound (ok : E.Tab) {t : TypeId} {x u v : Value} {lo hi mx lo' hi' mx' : Option Value} (e : sliceA E t x lo hi mx = some v) (hx : VR ι x u) (hlo : OR ι lo lo') (hhi : OR ι hi hi') (hmx : OR ι mx mx') :
    ∃ r, VR ι v r ∧ (Instr.sliceAt t u lo' hi' mx').run E.P w = .ok r w := by
  unfold sliceA at e
  unfold Instr.sliceAt
  split at e
  · rename_i s hu
    obtain rfl := hx
    rw [andThen_bind (runUnd ok hu)]
    simp only
    unfold Instr.slice
    rw [andThen_bind (runUnd ok hu)]
    split at e
    · cases e
    · obtain rfl := hmx
      split at e
      · rename_i l h m hb
        cases e
        obtain ⟨h1, h2, h3, h4, hr⟩ := bounds_sound (E := E) (w := w) hb hlo hhi (mx := none) (mx' := none) rfl (.inl (Nat.le_refl _)) false s.length (Nat.le_refl _)
        refine ⟨_, rfl, ?_⟩
        simp only [Option.isSome_none, Bool.false_eq_true, if_false]
        have hsz : (⟨⟨s⟩⟩ : ByteArray).size = s.length := rfl
        simp only [hsz]
        rw [andThen_bind hr]
        have : (⟨⟨s⟩⟩ : ByteArray).extract l h = ⟨⟨(s.take h).drop l⟩⟩ := by
          apply ByteArray.ext
          simp [List.drop_take]
        simp only [this]; rfl
      · cases e
  · rename_i elem p len cap hu
    split at e
    · rename_i s hs
      cases p with
      | none =>
        obtain rfl := hx
        simp only at e
        split at e
        · rename_i l h m hle hb
          cases e
          obtain ⟨h1, h2, h3, h4, hr⟩ := bounds_sound (E := E) (w := w) hb hlo hhi hmx (.inl (Nat.le_of_ble_eq_true hle)) true cap (Nat.le_refl _)
          have hm : mOr mx cap m = m := by cases mx with
            | none => exact (h4 rfl).symm
            | some _ => rfl
          rw [hm] at hr
          refine ⟨_, rfl, ?_⟩
          rw [andThen_bind (runUnd ok hu)]
          simp only
          unfold Instr.slice
          rw [andThen_bind (runUnd ok hu)]
          simp only
          rw [andThen_bind hr]
          simp only
          rw [andThen_bind (runSiz ok hs)]
          simp
        · cases e
      | some q =>
        obtain ⟨i, hi0, hsr⟩ := hx
        obtain ⟨a', c', rfl⟩ : ∃ a' c', u = .slice (some a') len c' := VR.slice_some (ι := ι) ⟨i, hi0, hsr⟩
        obtain ⟨l, h, m, hr, hv⟩ := sliceRow_sound (E := E) (w := w) e hi0 hsr hlo hhi hmx
        refine ⟨_, hv, ?_⟩
        rw [andThen_bind (runUnd ok hu)]
        simp only
        unfold Instr.slice
        rw [andThen_bind (runUnd ok hu)]
        simp only
        rw [andThen_bind hr]
        simp only
        rw [andThen_bind (runSiz ok hs)]
        rfl
    · cases e
  · rename_i n elem p hu
    split at e
    · rename_i s hs
      obtain ⟨i, hi0, hsp, rfl⟩ := hx
      obtain ⟨l, h, m, hr, hv⟩ := sliceArr_sound (E := E) (w := w) e hi0 hlo hhi hmx
      refine ⟨_, hv, ?_⟩
      rw [andThen_bind (runUnd ok hu)]
      simp only
      rw [andThen_bind (a := (⟨i.blk, i.off + p.off, none⟩ : Addr)) (w' := w) rfl, andThen_bind hr]
      simp only
      rw [andThen_bind (runSiz ok hs)]
      rfl
    · cases e
  · rename_i arr p hu
    split at e
    · rename_i n elem hu2
      split at e
      · rename_i s hs
        obtain ⟨i, hi0, hsp, rfl⟩ := hx
        obtain ⟨l, h, m, hr, hv⟩ := sliceArr_sound (E := E) (w := w) e hi0 hlo hhi hmx
        refine ⟨_, hv, ?_⟩
        rw [andThen_bind (runUnd ok hu)]
        simp only
        unfold Instr.slice
        rw [andThen_bind (runUnd ok hu)]
        simp only
        rw [andThen_bind (a := (⟨i.blk, i.off + p.off, none⟩ : Addr)) (w' := w) rfl]
        rw [andThen_bind (runUnd ok hu2)]
        simp only
        rw [andThen_bind hr]
        simp only
        rw [andThen_bind (runSiz ok hs)]
        rfl
      · cases e
    · cases e
  · cases e

/-! ### maps -/
theorem bytes_beq (x y : List UInt8) : ((⟨⟨x⟩⟩ : ByteArray) == ⟨⟨y⟩⟩) = (x == y) := by
  show ((⟨x⟩ : Array UInt8) == ⟨y⟩) = _
  simp


theorem sameNowB_sound {d : TypeDesc} {a b : Value} {r : Bool} (h : sameNowB d a b = some r) : Instr.sameNow d a b = some r := by
  unfold sameNowB at h
  split at h
  · cases h; simp only [Instr.sameNow, if_true, intEq_eq]
  · cases h
    simp only [Instr.sameNow, bytesEq_eq, bytes_beq]
  · cases h

theorem sameNowB_true {d : TypeDesc} {a b : Value} (h : sameNowB d a b = some true) : a = b := by
  unfold sameNowB at h
  split at h
  · simp only [intEq_eq, Option.some.injEq, beq_iff_eq] at h; rw [h]
  · simp only [bytesEq_eq, Option.some.injEq, beq_iff_eq] at h; rw [h]
  · cases h

theorem findIn_sound {d : TypeDesc} {k : Value} : ∀ (es : List (Value × Value)) (l : List MapEntry) (i : Nat) (r : Option (Nat × Value)), MR ι es l → findIn d k es i = some r →
    ∃ r', Instr.findNow d k l i = some r' ∧ (match r, r' with
      | none, none => True
      | some (n, v), some (m, u) => m = n ∧ VR ι v u ∧ i ≤ n ∧ ∃ e, l[n - i]? = some e ∧ e.key = k ∧ e.val = u ∧ ∃ x, es[n - i]? = some x ∧ x.1 = k
      | _, _ => False) := by
  intro es
  induction es with
  | nil => intro l i r h e; rw [show l = [] from h]; simp only [findIn, Option.some.injEq] at e; subst e; exact ⟨none, rfl, trivial⟩
  | cons x es ih =>
    intro l i r h e
    obtain ⟨k', v⟩ := x
    obtain ⟨en, l', rfl, hk, hp, hv, hes⟩ := h
    simp only [findIn] at e
    split at e
    · rename_i hs
      cases e
      have := sameNowB_sound hs
      refine ⟨some (i, en.val), by simp only [Instr.findNow, hk, this], rfl, hv, Nat.le_refl _, en, by simp, ?_, rfl, (k', v), by simp, (sameNowB_true hs).symm⟩
      rw [hk]; exact (sameNowB_true hs).symm
    · rename_i hs
      obtain ⟨r', hr', hm⟩ := ih l' (i + 1) r hes e
      refine ⟨r', by simp only [Instr.findNow, hk, sameNowB_sound hs, hr'], ?_⟩
      match r, r', hm with
      | none, none, _ => trivial
      | some (n, v), some (m, u), ⟨a, b, c, en', d1, d2, d3, x, d4, d5⟩ =>
        have : n - i = (n - (i + 1)) + 1 := by omega
        exact ⟨a, b, by omega, en', by rw [this]; simpa using d1, d2, d3, x, by rw [this]; simpa using d4, d5⟩
    · cases e

theorem findA_sound (ok : E.Tab) {t : TypeId} {k : Value} {es : List (Value × Value)} {r : Option (Nat × Value)} {elem : TypeId} (e : findA E t k es = some (r, elem)) :
    plain k = true ∧ ∃ key, E.und t = some (.map key elem) ∧ (∀ b n, (Instr.checkKey b (n + 1) key k).run E.P w = .ok () w) ∧ ∀ l, MR ι es l → ∃ r', (Instr.findKey key k l).run E.P w = .ok r' w ∧ (match r, r' with
      | none, none => True
      | some (n, v), some (m, u) => m = n ∧ VR ι v u ∧ ∃ e, l[n]? = some e ∧ e.key = k ∧ e.val = u ∧ ∃ x, es[n]? = some x ∧ x.1 = k
      | _, _ => False) := by
  unfold findA at e
  split at e
  · rename_i key elem' hu
    split at e
    · rename_i q z hk _
      split at e
      · rename_i r0 hf
        cases e
        refine ⟨rfl, key, hu, ?_, ?_⟩
        · intro b n; unfold Instr.checkKey; rw [andThen_bind (runUnd ok hk)]; rfl
        · intro l hl
          obtain ⟨r', hr', hm⟩ := findIn_sound es l 0 r hl hf
          refine ⟨r', ?_, ?_⟩
          · unfold Instr.findKey; rw [andThen_bind (runUnd ok hk), hr']; rfl
          · match r, r', hm with
            | none, none, _ => trivial
            | some (n, v), some (m, u), ⟨a, b, _, c⟩ => exact ⟨a, b, by simpa using c⟩
      · cases e
    · rename_i z hk _
      split at e
      · rename_i r0 hf
        cases e
        refine ⟨rfl, key, hu, ?_, ?_⟩
        · intro b n; unfold Instr.checkKey; rw [andThen_bind (runUnd ok hk)]; rfl
        · intro l hl
          obtain ⟨r', hr', hm⟩ := findIn_sound es l 0 r hl hf
          refine ⟨r', ?_, ?_⟩
          · unfold Instr.findKey; rw [andThen_bind (runUnd ok hk), hr']; rfl
          · match r, r', hm with
            | none, none, _ => trivial
            | some (n, v), some (m, u), ⟨a, b, _, c⟩ => exact ⟨a, b, by simpa using c⟩
      · cases e
    · cases e
  · cases e

theorem mapOf_sound {S : Hp} {w0 : World} {base : Nat} (h : Inv ι S w0 w base) {x u : Value} {es : List (Value × Value)} (e : mapOf S x = some es) (hx : VR ι x u) :
    (u = .map none ∧ es = []) ∨ ∃ r i en bs clock, x = .map (some r) ∧ S.get r = some (.map es bs clock) ∧ ι r = some i ∧ u = .map (some i.blk) ∧ w.heap[i.blk]? = some (.map en clock) ∧ MR ι es en.toList ∧ en.toList.map (·.born) = bs := by
  unfold mapOf at e
  split at e
  · cases e; exact .inl ⟨hx, rfl⟩
  · rename_i r
    split at e
    · rename_i es' bs cl hg
      cases e
      obtain ⟨i, hi, _, rfl⟩ := hx
      obtain ⟨i', hi', en, hw, h0, hm, hs⟩ := h.obj _ _ hg
      rw [hi] at hi'; cases hi'
      exact .inr ⟨r, i, en, bs, cl, rfl, hg, hi, rfl, hw, hm, hs⟩
    · cases e
  · cases e

theorem run_getObj_map {P : Program} {r : Nat} {en : Array MapEntry} {cl : Nat} (h : w.heap[r]? = some (.map en cl)) : (getObj r).run P w = .ok (.map en cl) w := by
  simp [getObj, Sem.run, h]

def lookTail (b : Bool) (key elem : TypeId) (k : Value) (es : Array MapEntry) : Sem Value := do
  Instr.checkKey es.isEmpty 10000 key k
  let (v, ok) ← match ← Instr.findKey key k es.toList with
    | some (_, v) => pure (v, true)
    | none => pure (← zeroValue elem, false)
  pure (if b then .tuple #[v, .bool ok] else v)

theorem lookupA_sound (ok : E.Tab) {S : Hp} {w0 : World} {base : Nat} (h : Inv ι S w0 w base) {t : TypeId} {x u k k' v : Value} {b : Bool} (e : lookupA E S t x k b = some v) (hx : VR ι x u) (hk : VR ι k k') :
    ∃ r, VR ι v r ∧ (Instr.lookup t u k' b).run E.P w = .ok r w := by
  unfold lookupA at e
  split at e
  · rename_i es hes
    have fin : ∀ (val : Value) (u' : Value) (bo : Bool), VR ι val u' → VR ι (okTuple b val bo) (if b = true then .tuple #[u', .bool bo] else u') := by
      intro val u' bo hv
      cases b
      · exact hv
      · exact ⟨_, rfl, VRL.cons hv (VRL.cons rfl VRL.nil)⟩
    have main : ∀ (arr : Array MapEntry), MR ι es arr.toList → ∃ r key elem, VR ι v r ∧ E.und t = some (.map key elem) ∧ (lookTail b key elem k' arr).run E.P w = .ok r w := by
      intro arr hen
      split at e
      · rename_i n val elem hf
        cases e
        obtain ⟨hp, key, hu, hck, hfk⟩ := findA_sound (ι := ι) (w := w) ok hf
        obtain rfl := VR.plain _ _ hk hp
        obtain ⟨r', hr', hm⟩ := hfk arr.toList hen
        match r', hm with
        | some (m, u'), ⟨_, hv, _⟩ =>
          refine ⟨_, key, elem, fin val u' true hv, hu, ?_⟩
          unfold lookTail
          rw [andThen_bind (hck _ 9999)]
          simp only [bind_assoc]
          rw [andThen_bind hr']; rfl
      · rename_i elem hf
        split at e
        · rename_i z hz
          cases e
          obtain ⟨hp, key, hu, hck, hfk⟩ := findA_sound (ι := ι) (w := w) ok hf
          obtain rfl := VR.plain _ _ hk hp
          obtain ⟨r', hr', hm⟩ := hfk arr.toList hen
          match r', hm with
          | none, _ =>
            refine ⟨_, key, elem, fin z z false (VR.of_plain z (ok.zer _ _ hz).2), hu, ?_⟩
            unfold lookTail
            rw [andThen_bind (hck _ 9999)]
            simp only [bind_assoc]
            rw [andThen_bind hr']
            simp only [bind_assoc, pure_bind]
            rw [andThen_bind (runZer ok hz)]; rfl
        · cases e
      · cases e
    rcases mapOf_sound h hes hx with ⟨rfl, rfl⟩ | ⟨r, i, en, bs, cl, rfl, hg, hi, rfl, hw, hm, hs⟩
    · obtain ⟨r, key, elem, hv, hu, hr⟩ := main #[] rfl
      refine ⟨r, hv, ?_⟩
      unfold Instr.lookup
      rw [andThen_bind (runUnd ok hu)]
      exact hr
    · obtain ⟨r, key, elem, hv, hu, hr⟩ := main en hm
      refine ⟨r, hv, ?_⟩
      unfold Instr.lookup
      rw [andThen_bind (runUnd ok hu)]
      simp only [bind_assoc]
      rw [andThen_bind (run_getObj_map hw)]
      exact hr
  · cases e

theorem lenA_sound (ok : E.Tab) {S : Hp} {w0 : World} {base : Nat} (h : Inv ι S w0 w base) {t : TypeId} {x u v : Value} (e : lenA E S t x = some v) (hx : VR ι x u) (ty : TypeId) (ts : Array TypeId) (ht : ts[0]? = some t) :
    (Builtin.len_ ts ty #[u]).run E.P w = .ok v w ∧ VR ι v v := by
  unfold lenA at e
  split at e
  · rename_i s hu
    obtain rfl := hx; cases e
    refine ⟨?_, rfl⟩
    unfold Builtin.len_; simp only [ht]
    refine Eq.trans (andThen_bind (runUnd ok hu)) ?_; rfl
  · rename_i el a n c hu
    have : ∃ a' c', u = .slice a' n c' := by
      cases a with
      | none => exact ⟨_, _, hx⟩
      | some a => obtain ⟨a', c', r⟩ := VR.slice_some hx; exact ⟨_, _, r⟩
    obtain ⟨a', c', rfl⟩ := this
    cases e
    refine ⟨?_, rfl⟩
    unfold Builtin.len_; simp only [ht]
    refine Eq.trans (andThen_bind (runUnd ok hu)) ?_; rfl
  · rename_i n el hu
    cases e
    refine ⟨?_, rfl⟩
    unfold Builtin.len_; simp only [ht]
    refine Eq.trans (andThen_bind (runUnd ok hu)) ?_
    cases u <;> rfl
  · rename_i key el hu
    split at e
    · rename_i es hes
      cases e
      refine ⟨?_, rfl⟩
      unfold Builtin.len_; simp only [ht]
      refine Eq.trans (andThen_bind (runUnd ok hu)) ?_
      rcases mapOf_sound h hes hx with ⟨rfl, rfl⟩ | ⟨r, i, en, bs, cl, rfl, hg, hi, rfl, hw, hm, hs⟩
      · rfl
      · refine Eq.trans (andThen_bind (run_getObj_map hw)) ?_
        have : en.size = es.length := by
          have : ∀ (es : List (Value × Value)) (l : List MapEntry), MR ι es l → l.length = es.length := by
            intro es; induction es with
            | nil => intro l hl; rw [show l = [] from hl]; rfl
            | cons x es ih => intro l hl; obtain ⟨e, r, rfl, _, _, _, hr⟩ := hl; simp [ih r hr]
          simpa using this es en.toList hm
        simp only [this]; rfl
    · cases e
  · cases e
end
end Go.Am
