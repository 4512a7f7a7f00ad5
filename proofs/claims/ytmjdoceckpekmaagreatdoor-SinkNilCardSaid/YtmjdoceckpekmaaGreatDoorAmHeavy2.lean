import Derived.Test.YtmjdoceckpekmaaGreatDoorAmMapIt
set_option linter.unusedSimpArgs false
set_option linter.unusedVariables false
namespace Go.Am
section
variable {E : Env} {ι : Emb} {S : Hp} {w0 w : World} {base : Nat}

theorem MR.setAt {v u : Value} : ∀ {es : List (Value × Value)} {l : List MapEntry} (i : Nat), MR ι es l → VR ι v u → (∀ e, l[i]? = some e → ∀ k, MR ι (setAt v es i) (l.modify i fun e => { e with key := k, val := u }) ∨ k ≠ e.key)
  | [], l, i, h, _ => by
    intro e he; rw [show l = [] from h] at he; simp at he
  | (k, x) :: es, l, i, h, hv => by
    obtain ⟨e, r, rfl, hk, hp, hx, hr⟩ := h
    intro e' he k'
    cases i with
    | zero =>
      simp at he; subst he
      by_cases hkk : k' = e.key
      · left; subst hkk
        exact ⟨_, _, rfl, hk, hp, hv, hr⟩
      · exact .inr hkk
    | succ i =>
      simp at he
      rcases MR.setAt i hr hv e' he k' with q | q
      · left; exact ⟨_, _, rfl, hk, hp, hx, q⟩
      · exact .inr q

theorem MR.dropAt : ∀ {es : List (Value × Value)} {l : List MapEntry} (i : Nat), MR ι es l → MR ι (dropAt es i) (l.eraseIdx i)
  | [], l, i, h => by rw [show l = [] from h]; simp [Am.dropAt, MR]
  | (k, x) :: es, l, i, h => by
    obtain ⟨e, r, rfl, hk, hp, hx, hr⟩ := h
    cases i with
    | zero => exact hr
    | succ i => exact ⟨_, _, rfl, hk, hp, hx, MR.dropAt i hr⟩

theorem MR.snoc {k v u : Value} {c : Nat} (hp : plain k = true) (hv : VR ι v u) : ∀ {es : List (Value × Value)} {l : List MapEntry}, MR ι es l → MR ι (es ++ [(k, v)]) (l ++ [⟨k, u, c⟩])
  | [], l, h => by rw [show l = [] from h]; exact ⟨_, _, rfl, rfl, hp, hv, rfl⟩
  | (_, _) :: _, l, h => by
    obtain ⟨e, r, rfl, a, b, c, hr⟩ := h
    exact ⟨_, _, rfl, a, b, c, MR.snoc hp hv hr⟩

theorem born_modify (l : List MapEntry) (i : Nat) (k u : Value) : (l.modify i fun e => { e with key := k, val := u }).map (·.born) = l.map (·.born) := by
  apply List.ext_getElem?
  intro j
  simp only [List.getElem?_map, List.getElem?_modify]
  cases l[j]? with
  | none => simp
  | some y => simp only [Option.map_eq_map, Option.map_some]; congr 1; split <;> rfl

theorem born_erase : ∀ (l : List MapEntry) (i : Nat), (l.eraseIdx i).map (·.born) = dropAt (l.map (·.born)) i
  | [], i => by simp [dropAt]
  | e :: l, i => by
    cases i with
    | zero => rfl
    | succ i => simp only [List.eraseIdx_cons_succ, List.map_cons, dropAt]; rw [born_erase l i]

theorem run_setObj_map {P : Program} {r : Nat} {en : Array MapEntry} {cl : Nat} (h : w.heap[r]? = some (.map en cl)) (o : Obj) : (setObj r o).run P w = .ok () (w.putObj r o) := by
  simp [setObj, Sem.run, h, World.putObj]

theorem keyThatStays_same {P : Program} {k : Value} {n : Nat} {r : Option (Nat × Value)} {t : TypeId} {es : List (Value × Value)} (e : findA E t k es = some (r, n)) : (Instr.keyThatStays k k).run P w = .ok k w := by
  unfold findA at e
  split at e
  · split at e
    · unfold Instr.keyThatStays
      simp [Instr.sameBits]
    · unfold Instr.keyThatStays
      rename_i z _ _
      have : ∀ (b : ByteArray), (b == b) = true := by
        intro b; obtain ⟨⟨l⟩⟩ := b; rw [bytes_beq]; simp
      simp [Instr.sameBits, this]
    · cases e
  · cases e

theorem updateA_sound (ok : E.Tab) (h : Inv ι S w0 w base) {t : TypeId} {m k v m' k' v' : Value} {S' : Hp} (e : updateA E S t m k v = some S') (hm : VR ι m m') (hk : VR ι k k') (hv : VR ι v v') :
    ∃ w', (Instr.mapUpdate t m' k' v').run E.P w = .ok () w' ∧ Inv ι S' w0 w' base := by
  unfold updateA at e
  split at e
  · rename_i r
    split at e
    · rename_i es bs cl hg
      obtain ⟨i, hi, _, rfl⟩ := hm
      obtain ⟨i', hi', en, hw, h0, hmr, hst⟩ := h.obj _ _ hg
      rw [hi] at hi'; cases hi'
      split at e
      · rename_i n x elem hf
        cases e
        obtain ⟨hp, key, hu, hck, hfk⟩ := findA_sound (ι := ι) (w := w) ok hf
        obtain rfl := VR.plain _ _ hk hp
        obtain ⟨r', hr', hmm⟩ := hfk en.toList hmr
        match r', hmm with
        | some (n', u), ⟨hnn, _, ent, he1, he2, _, _⟩ =>
          subst hnn
          have hen : en[n']? = some ent := by simpa using he1
          refine ⟨w.putObj i.blk (.map (en.modify n' fun e => { e with key := k', val := v' }) cl), ?_, ?_⟩
          · unfold Instr.mapUpdate
            refine Eq.trans (andThen_bind (runUnd ok hu)) ?_
            refine Eq.trans (andThen_bind (run_getObj_map hw)) ?_
            refine Eq.trans (andThen_bind (hck _ 9999)) ?_
            refine Eq.trans (andThen_bind hr') ?_
            have hkk : ((en[n']?).map (·.key)).getD k' = k' := by simp [hen, he2]
            show (do
              let key ← Instr.keyThatStays (((en[n']?).map (·.key)).getD k') k'
              setObj i.blk (.map (en.modify n' fun e => { e with key, val := v' }) cl) : Sem Unit).run E.P w = _
            rw [hkk, andThen_bind (keyThatStays_same hf)]
            exact run_setObj_map hw _
          · refine h.put hg rfl rfl hi ⟨_, rfl, h0, ?_, ?_⟩
            · rcases MR.setAt n' hmr hv ent he1 k' with q | q
              · have : (en.modify n' fun e => { e with key := k', val := v' }).toList = en.toList.modify n' fun e => { e with key := k', val := v' } := by simp
                rw [this]; exact q
              · exact absurd he2.symm q
            · rw [Array.toList_modify, born_modify]; exact hst
      · rename_i elem hf
        cases e
        obtain ⟨hp, key, hu, hck, hfk⟩ := findA_sound (ι := ι) (w := w) ok hf
        obtain rfl := VR.plain _ _ hk hp
        obtain ⟨r', hr', hmm⟩ := hfk en.toList hmr
        match r', hmm with
        | none, _ =>
          refine ⟨w.putObj i.blk (.map (en.push { key := k', val := v', born := cl }) (cl + 1)), ?_, ?_⟩
          · unfold Instr.mapUpdate
            refine Eq.trans (andThen_bind (runUnd ok hu)) ?_
            refine Eq.trans (andThen_bind (run_getObj_map hw)) ?_
            refine Eq.trans (andThen_bind (hck _ 9999)) ?_
            refine Eq.trans (andThen_bind hr') ?_
            exact run_setObj_map hw _
          · refine h.put hg rfl rfl hi ⟨_, rfl, h0, ?_, ?_⟩
            · simp only [Array.toList_push]; exact MR.snoc hp hv hmr
            · simp only [Array.toList_push, List.map_append, List.map_cons, List.map_nil, hst]
      · cases e
    · cases e
  · cases e

theorem deleteA_sound (ok : E.Tab) (h : Inv ι S w0 w base) {t : TypeId} {m k m' k' : Value} {S' : Hp} (e : deleteA E S t m k = some S') (hm : VR ι m m') (hk : VR ι k k') (ts : Array TypeId) (ht : ts[0]? = some t) (ty : TypeId) :
    ∃ w', (Builtin.delete_ ts ty #[m', k']).run E.P w = .ok (.tuple #[]) w' ∧ Inv ι S' w0 w' base := by
  unfold deleteA at e
  split at e
  · rename_i r
    split at e
    · rename_i es bs cl hg
      obtain ⟨i, hi, _, rfl⟩ := hm
      obtain ⟨i', hi', en, hw, h0, hmr, hst⟩ := h.obj _ _ hg
      rw [hi] at hi'; cases hi'
      split at e
      · rename_i n x elem hf
        cases e
        obtain ⟨hp, key, hu, hck, hfk⟩ := findA_sound (ι := ι) (w := w) ok hf
        obtain rfl := VR.plain _ _ hk hp
        obtain ⟨r', hr', hmm⟩ := hfk en.toList hmr
        match r', hmm with
        | some (n', u), ⟨hnn, _, _⟩ =>
          subst hnn
          refine ⟨w.putObj i.blk (.map (en.eraseIdxIfInBounds n') cl), ?_, ?_⟩
          · unfold Builtin.delete_
            simp only [ht]
            refine Eq.trans (andThen_bind (runUnd ok hu)) ?_
            refine Eq.trans (andThen_bind (run_getObj_map hw)) ?_
            refine Eq.trans (andThen_bind (hck _ 9999)) ?_
            refine Eq.trans (andThen_bind hr') ?_
            refine Eq.trans (andThen_bind (run_setObj_map hw _)) ?_
            rfl
          · have hl : (en.eraseIdxIfInBounds n').toList = en.toList.eraseIdx n' := by
              unfold Array.eraseIdxIfInBounds
              split
              · simp
              · rename_i hh; rw [List.eraseIdx_of_length_le (by simpa using hh)]
            refine h.put hg rfl rfl hi ⟨_, rfl, h0, ?_, ?_⟩
            · rw [hl]; exact MR.dropAt n' hmr
            · rw [hl, born_erase, hst]
      · rename_i elem hf
        cases e
        obtain ⟨hp, key, hu, hck, hfk⟩ := findA_sound (ι := ι) (w := w) ok hf
        obtain rfl := VR.plain _ _ hk hp
        obtain ⟨r', hr', hmm⟩ := hfk en.toList hmr
        match r', hmm with
        | none, _ =>
          refine ⟨w, ?_, h⟩
          unfold Builtin.delete_
          simp only [ht]
          refine Eq.trans (andThen_bind (runUnd ok hu)) ?_
          refine Eq.trans (andThen_bind (run_getObj_map hw)) ?_
          refine Eq.trans (andThen_bind (hck _ 9999)) ?_
          refine Eq.trans (andThen_bind hr') ?_
          refine Eq.trans (andThen_bind (run_setObj_map hw _)) ?_
          rw [putObj_self hw]; rfl
      · cases e
    · cases e
  · cases e

theorem copyA_sound (ok : E.Tab) (h : Inv ι S w0 w base) {dt : TypeId} {d s v d' s' : Value} {S' : Hp} (e : copyA E S dt d s = some (v, S')) (hd : VR ι d d') (hs : VR ι s s') (ts : Array TypeId) (ht : ts[0]? = some dt) (ty : TypeId) :
    ∃ w', (Builtin.copy_ ts ty #[d', s']).run E.P w = .ok v w' ∧ VR ι v v ∧ Inv ι S' w0 w' base := by
  unfold copyA at e
  split at e
  · rename_i elem b dl c1 q sl c2 hu
    split at e
    · rename_i z hz
      obtain ⟨ad, cd, rfl⟩ := VR.slice_some hd
      obtain ⟨as, cs, rfl⟩ := VR.slice_some hs
      have hmin : natMin sl dl = Nat.min sl dl := by
        unfold natMin
        cases hb : Nat.ble sl dl with
        | true => have := Nat.le_of_ble_eq_true hb; simp only; exact (Nat.min_eq_left this).symm
        | false =>
          have : dl ≤ sl := by
            rcases Nat.lt_or_ge sl dl with k | k
            · have : Nat.ble sl dl = true := by simp; omega
              rw [this] at hb; cases hb
            · exact k
          simp only; exact (Nat.min_eq_right this).symm
      have hpre : ∀ {cells : Array Value} {w'}, (Builtin.firstCells z (Nat.min sl dl) (.slice (some as) sl cs)).run E.P w = .ok cells w → (storeCells ad cells.toList).run E.P w = .ok () w' →
          (Builtin.copy_ ts ty #[.slice (some ad) dl cd, .slice (some as) sl cs]).run E.P w = .ok (goInt (Nat.min sl dl : Nat)) w' := by
        intro cells w' h1 h2
        unfold Builtin.copy_
        simp only [ht]
        refine Eq.trans (andThen_bind (runUnd ok hu)) ?_
        refine Eq.trans (andThen_bind (a := sl) (w' := w) rfl) ?_
        refine Eq.trans (andThen_bind (runSiz ok hz)) ?_
        refine Eq.trans (andThen_bind h1) ?_
        refine Eq.trans (andThen_bind h2) ?_
        rfl
      rw [hmin] at e
      split at e
      · rename_i hn
        cases e
        refine ⟨w, ?_, rfl, h⟩
        have := hpre (cells := #[]) (w' := w) (by rw [hn]; unfold Builtin.firstCells; simp only [Nat.zero_mul]; rfl) rfl
        rw [hn] at this; exact this
      · rename_i n hn
        have hn : Nat.min sl dl = n + 1 := hn
        split at e
        · rename_i l hl
          split at e
          · rename_i S1 hst
            cases e
            obtain ⟨i, hi, hsr⟩ := hd
            obtain ⟨j, hj, hsq⟩ := hs
            have hsl : n + 1 ≤ sl := by rw [← hn]; exact Nat.min_le_left _ _
            have hdl : n + 1 ≤ dl := by rw [← hn]; exact Nat.min_le_right _ _
            have had : ad = ⟨i.blk, i.off + b.off, none⟩ := by
              unfold SR at hsr
              split at hsr
              · cases hsr; rfl
              · obtain ⟨_, hh, _⟩ := hsr; cases hh; rfl
              · obtain ⟨hh, _⟩ := hsr; omega
            have has : as = ⟨j.blk, j.off + q.off, none⟩ := by
              unfold SR at hsq
              split at hsq
              · cases hsq; rfl
              · obtain ⟨_, hh, _⟩ := hsq; cases hh; rfl
              · obtain ⟨hh, _⟩ := hsq; omega
            subst had; subst has
            obtain ⟨m, hm, hr⟩ := loadN_sound h hl hj E.P
            obtain ⟨w', hw, hI⟩ := storeN_sound h hst hi hm E.P
            refine ⟨w', ?_, rfl, hI⟩
            have := hpre (cells := m.toArray) (w' := w') (by rw [hn]; exact hr) (by simpa using hw)
            rw [hn] at this; exact this
          · cases e
        · cases e
    · cases e
  · cases e

/-- What a step hands on. -/
inductive NextR (ι : Emb) (v : Value) : Next → Prop where
  | value (u : Value) (h : VR ι v u) : NextR ι v (.value u)
  | skip (h : v = undef) : NextR ι v .skip

def HeavyR (E : Env) (ι : Emb) (w0 w : World) (base : Nat) (s : Sem Next) (S : Hp) : Eff → Prop
  | .val v S' => ∃ ι' n w', s.run E.P w = .ok n w' ∧ Ext ι ι' ∧ NextR ι' v n ∧ Inv ι' S' w0 w' base
  | .defer d => ∃ d', s.run E.P w = .ok (.defer d') w ∧ DfR ι [d] [d']
  | .enter f args => ∃ m, VRL ι args m ∧ s.run E.P w = (callFunc f m.toArray).run E.P w
  | .round l args => ∃ i m, ι l = some i ∧ i.off = 0 ∧ VRL ι args m ∧ s.run E.P w = (Instr.yield i.blk m.toArray).run E.P w

theorem heavy_val {s : Sem Value} {ι' : Emb} {v u : Value} {S' : Hp} {w' : World} (h : s.run E.P w = .ok u w') (hE : Ext ι ι') (hv : VR ι' v u) (hI : Inv ι' S' w0 w' base) : HeavyR E ι w0 w base (do pure (.value (← s))) S (.val v S') :=
  ⟨ι', _, w', by rw [andThen_bind h]; rfl, hE, .value u hv, hI⟩

theorem heavy_unit {s : Sem Unit} {S' : Hp} {w' : World} (h : s.run E.P w = .ok () w') (hI : Inv ι S' w0 w' base) : HeavyR E ι w0 w base (do s; pure .skip) S (.val undef S') :=
  ⟨ι, _, w', by rw [andThen_bind h]; rfl, Ext.refl _, .skip rfl, hI⟩

/-- A new variable. -/
theorem newVar_sound (h : Inv ι S w0 w base) {v u : Value} (hv : VR ι v u) (t : TypeId) :
    ∃ ι', (newVar t u).run E.P w = .ok ⟨w.heap.size, 0, none⟩ (w.alloc (.cells u.cells t)) ∧ Ext ι ι' ∧ VR ι' (.pointer (some ⟨S.next, 0, none⟩)) (.pointer (some ⟨w.heap.size, 0, none⟩)) ∧ Inv ι' (Am.newRow S (cellsL v)) w0 (w.alloc (.cells u.cells t)) base := by
  obtain ⟨hE, hI⟩ := newRow_sound h (VR.cellsL hv) [] t (0, 0) (free0 _ _)
  refine ⟨_, run_newRow t u.cells, hE, ⟨_, bindE_self _ _, rfl, rfl⟩, ?_⟩
  simpa using hI

theorem plain_cells {z : Value} (hz : plain z = true) : plainL (cellsL z) = true := by
  cases z <;> simp_all [cellsL, plainL, plain] <;> (try (rename_i a; cases a; simpa [cellsL, plainL, plain, plainA] using hz))

/-- The zeros that a new row is made of. -/
theorem zeros_row {z : Value} (hz : plain z = true) {s n : Nat} (hs : (cellsL z).length = s) (z0 : Array Value) (h0 : n * s ≠ 0 → z0 = z.cells) :
    ((Array.range (n * s)).map (fun k => z0[k % z0.size]!)).toList = zerosA (cellsL z) n := by
  rw [cellsL_plain hz] at hs ⊢
  by_cases h : n * s = 0
  · have : zerosA z.cells.toList n = [] := List.eq_nil_of_length_eq_zero (by rw [zerosA_get, hs, h])
    rw [this, h]; simp
  · rw [h0 h]
    have hs' : s = z.cells.size := by simpa using hs.symm
    rw [hs']
    exact rangeMap z.cells n (fun q => by
      rcases Nat.eq_zero_or_pos z.cells.size with k | k
      · rw [k] at q; simp at q
      · exact k)

theorem run_stringToBytes {P : Program} (elem : TypeId) (b : List UInt8) : ∃ nc, b.length ≤ nc ∧ (Conv.stringToBytes elem ⟨⟨b⟩⟩).run P w = .ok (.slice (some ⟨w.heap.size, 0, none⟩) b.length nc)
    (w.drew.alloc (.cells (byteCells b ++ List.replicate (nc - b.length) (Value.int .u8 0)).toArray elem ((byteCells b ++ List.replicate (nc - b.length) (Value.int .u8 0)).length, (byteCells b ++ List.replicate (nc - b.length) (Value.int .u8 0)).length + 1))) := by
  let nc := (Question.appendCap b.length 0 elem).cut (w.tape w.drawn (.appendCap b.length 0 elem))
  have hnc : b.length ≤ nc := by simp only [nc, Question.cut]; omega
  refine ⟨nc, hnc, ?_⟩
  unfold Conv.stringToBytes
  have hsz : (⟨⟨b⟩⟩ : ByteArray).size = b.length := rfl
  rw [hsz, andThen_bind (run_choose rfl)]
  have harr : ((⟨⟨b⟩⟩ : ByteArray).data.map fun b => Value.int .u8 b.toNat) ++ Array.replicate (nc - b.length) (Value.int .u8 0) = (byteCells b ++ List.replicate (nc - b.length) (Value.int .u8 0)).toArray := by
    apply Array.ext'; simp [byteCells_eq]
  show (do
    let a ← Go.newRow elem (((⟨⟨b⟩⟩ : ByteArray).data.map fun b => Value.int .u8 b.toNat) ++ Array.replicate (nc - b.length) (Value.int .u8 0))
    markStringish a
    pure (.slice (some a) b.length nc) : Sem Value).run P w.drew = _
  rw [harr]
  generalize (byteCells b ++ List.replicate (nc - b.length) (Value.int .u8 0)) = l
  rw [andThen_bind (run_newRow elem l.toArray)]
  have hm : (markStringish ⟨w.drew.heap.size, 0, none⟩).run P (w.drew.alloc (.cells l.toArray elem)) = .ok () (w.drew.alloc (.cells l.toArray elem (l.length, l.length + 1))) := by
    unfold markStringish
    have hsh : (shape w.drew.heap.size).run P (w.drew.alloc (.cells l.toArray elem)) = .ok (some (elem, l.length)) (w.drew.alloc (.cells l.toArray elem)) := by
      simp only [shape, Sem.run, World.shape?]
      have : (w.drew.alloc (.cells l.toArray elem)).heap[w.drew.heap.size]? = some (.cells l.toArray elem) := by rw [heap_alloc, if_pos rfl]
      rw [this]; simp
    refine Eq.trans (andThen_bind hsh) ?_
    simp only [freeze, Sem.run, World.freeze]
    rw [if_neg (by omega)]
    congr 1
    unfold World.alloc
    congr 1
    apply Array.ext_getElem?
    intro j
    simp only [Array.getElem?_modify, Array.getElem?_push]
    by_cases hj : w.drew.heap.size = j
    · subst hj; simp
    · rw [if_neg hj]
      by_cases hj2 : j = w.drew.heap.size
      · exact absurd hj2.symm hj
      · rw [if_neg hj2, if_neg hj2]
  rw [andThen_bind hm]; rfl

theorem heavy_sound (ok : E.Tab) (h : Inv ι S w0 w base) {pk : Option (Nat × Nat)} (hpk : ∀ n j, pk = some (n, j) → j = w.tape w.drawn (.mapNext n) % n) {a : Tm} {ρ : Operand → Value} {o : Oper} (hρ : EvR E ι a ρ (· ∈ o.op.operands)) {f : Eff} (e : heavy E pk S a o = some f) : HeavyR E ι w0 w base (execOp ρ o) S f := by
  obtain ⟨dst, op, ty, pos, after, guard⟩ := o
  cases op <;> simp only [heavy, hAlloc, hBox, hBuildSlice, hMakeMap, hRange, hEntry, hNext, hMakeSlice, hStore, hUpdate, hConvert, hCall, hDefer] at e <;> try (cases e; done)
  case alloc t =>
    split at e
    · rename_i z hz
      cases e
      obtain ⟨ι', hr, hE, hv, hI⟩ := newVar_sound (E := E) h (VR.of_plain z (ok.zer _ _ hz).2) t
      refine heavy_val ?_ hE hv hI
      unfold Instr.alloc
      rw [andThen_bind (runZer ok hz)]
      refine Eq.trans (andThen_bind hr) ?_; rfl
    · cases e
  case box t x =>
    split at e
    · rename_i v hx
      cases e
      obtain ⟨ι', hr, hE, hv, hI⟩ := newVar_sound (E := E) h (hρ x _ (by simp [Op.operands, Call.operands]) hx) t
      refine heavy_val ?_ hE hv hI
      unfold Instr.box
      rw [andThen_bind hr]; rfl
    · cases e
  case buildSlice t len parts =>
    split at e
    · rename_i elem ps hu hps
      split at e
      · rename_i s z hs hz
        split at e
        · rename_i hle0
          split at e
          · rename_i l hl
            cases e
            have hzp := (ok.zer _ _ hz).2
            have hp := hρ.parts _ (by intro x hx; simp at hx; simp [Op.operands]; exact ⟨_, hx⟩) hps
            rw [← PR.of_array] at hp
            simp only [Bool.and_eq_true] at hle0
            have hle := Nat.le_of_ble_eq_true hle0.1
            have hsz := Nat.eq_of_beq_eq_true hle0.2
            have hzl : VRL ι (zerosA (cellsL z) len) (zerosA (cellsL z) len) := VRL.zeros (VRL.of_plain _ (plain_cells hzp)) len
            have main : ∀ (z0 : Array Value), (len * s ≠ 0 → z0 = z.cells) → ∃ m' : Array Value, Instr.fill (fun i => some (i * s, s)) ((Array.range (len * s)).map (fun k => z0[k % z0.size]!)) (parts.map fun (i, x) => (i, ρ x)).toList = some m' ∧ VRL ι l m'.toList := by
              intro z0 h0
              refine fillA_sound (ι := ι) (fun i x hx => hx) ps _ _ _ _ hp ?_ hl
              rw [zeros_row hzp hsz z0 h0]; exact hzl
            have fin : ∀ (m' : Array Value), VRL ι l m'.toList → (Instr.buildSlice t len (parts.map fun (i, x) => (i, ρ x))).run E.P w = .ok (.slice (some ⟨w.heap.size, 0, none⟩) len len) (w.alloc (.cells m' elem)) → HeavyR E ι w0 w base (execOp ρ ⟨dst, .buildSlice t len parts, ty, pos, after, guard⟩) S (.val (.slice (some ⟨S.next, 0, none⟩) len len) (Am.newRow S l)) := by
              intro m' hm' hrun
              obtain ⟨hE, hI⟩ := newRow_sound h hm' [] elem (0, 0) (free0 _ _)
              refine heavy_val hrun hE ⟨_, bindE_self _ _, rfl⟩ ?_
              simpa using hI
            by_cases h0 : len * s = 0
            · obtain ⟨m', hf, hv⟩ := main #[] (fun q => absurd h0 q)
              refine fin m' hv ?_
              unfold Instr.buildSlice
              refine Eq.trans (andThen_bind (runUnd ok hu)) ?_
              refine Eq.trans (andThen_bind (runSiz ok hs)) ?_
              simp only
              rw [if_neg (by omega)]
              simp only [h0, if_true, pure_bind]
              rw [h0] at hf
              rw [hf]
              refine Eq.trans (andThen_bind (run_newRow elem m')) ?_
              rfl
            · obtain ⟨m', hf, hv⟩ := main z.cells (fun _ => rfl)
              refine fin m' hv ?_
              unfold Instr.buildSlice
              refine Eq.trans (andThen_bind (runUnd ok hu)) ?_
              refine Eq.trans (andThen_bind (runSiz ok hs)) ?_
              simp only
              rw [if_neg (by omega), if_neg h0]
              simp only [bind_assoc, pure_bind]
              rw [andThen_bind (runZer ok hz), hf]
              refine Eq.trans (andThen_bind (run_newRow elem m')) ?_
              rfl
          · cases e
        · cases e
      · cases e
    · cases e
  case convert s d x =>
    split at e
    · rename_i ds elem s0 hsu hu hx
      split at e
      · rename_i he
        split at e
        · rename_i hle
          have hle := Nat.le_of_ble_eq_true hle
          cases e
          have hs : ρ x = .string ⟨⟨s0⟩⟩ := hρ x _ (by simp [Op.operands, Call.operands]) hx
          obtain ⟨nc, hnc, hrun⟩ := run_stringToBytes (P := E.P) (w := w) elem s0
          obtain ⟨hE, hI⟩ := newRow_sound (h.drew (w.drawn + 1)) (VRL.of_plain (ι := ι) _ (byteCells_plain s0)) (List.replicate (nc - s0.length) (Value.int .u8 0)) elem ((byteCells s0 ++ List.replicate (nc - s0.length) (Value.int .u8 0)).length, (byteCells s0 ++ List.replicate (nc - s0.length) (Value.int .u8 0)).length + 1) (fun k _ h2 h3 => Nat.lt_irrefl _ (Nat.lt_of_lt_of_le h2 h3.1))
          refine heavy_val (u := .slice (some ⟨w.heap.size, 0, none⟩) s0.length nc) ?_ hE ⟨_, bindE_self _ _, nc, by simp, hnc, ?_⟩ hI
          · rw [hs]
            unfold convert
            rw [andThen_bind (runUnd ok hsu), andThen_bind (runUnd ok hu)]
            simp only
            rw [andThen_bind (runUnd ok he)]
            exact hrun
          · simp only [List.length_append, List.length_replicate, byteCells_eq, List.length_map]; omega
        · cases e
      · cases e
    · cases e
  case makeMap t r =>
    have hI : Inv (bindE ι S.next ⟨w.heap.size, 0, 0⟩) (S.new (.map [] [] 0)) w0 (w.alloc (.map #[] 0)) base := h.new ⟨#[], rfl, rfl, rfl, rfl⟩
    have hE : Ext ι (bindE ι S.next ⟨w.heap.size, 0, 0⟩) := bindE_ext _ (h.dom _ (Nat.le_refl _))
    have hv : VR (bindE ι S.next ⟨w.heap.size, 0, 0⟩) (.map (some S.next)) (.map (some w.heap.size)) := ⟨_, bindE_self _ _, rfl, rfl⟩
    split at e
    · cases e
      refine heavy_val ?_ hE hv hI
      rfl
    · split at e
      · rename_i x _ _ k1 e1 k n hu hx
        cases e
        have hr : ρ x = .int k n := hρ x _ (by simp [Op.operands, Call.operands]) hx
        refine heavy_val ?_ hE hv hI
        rw [Option.map_some, hr]
        unfold Instr.makeMap
        refine Eq.trans (andThen_bind (runUnd ok hu)) ?_
        refine Eq.trans (andThen_bind (a := n) (w' := w) rfl) ?_
        rfl
      · cases e
  case range t x =>
    split at e
    · rename_i v hv
      split at e
      · rename_i S1 hr
        cases e
        obtain ⟨ι', r, w', h1, h2, h3, h4⟩ := rangeOf_sound ok h hr (hρ x _ (by simp [Op.operands, Call.operands]) hv)
        exact heavy_val h1 h2 h3 h4
      · cases e
    · cases e
  case entry x =>
    split at e
    · rename_i v hv
      split at e
      · rename_i v1 hr
        cases e
        obtain ⟨r, h1, h2⟩ := entryA_sound (E := E) h hr (hρ x _ (by simp [Op.operands, Call.operands]) hv)
        exact heavy_val h1 (Ext.refl _) h2 h
      · cases e
    · cases e
  case next x isString =>
    split at e
    · rename_i v hv
      split at e
      · rename_i v1 S1 hr
        cases e
        obtain ⟨r, w', h1, h2, h3⟩ := nextA_sound h hpk hr (hρ x _ (by simp [Op.operands, Call.operands]) hv) ty
        exact heavy_val h1 (Ext.refl _) h2 h3
      · cases e
    · cases e
  case makeSlice t l c =>
    split at e
    · rename_i elem n m hu hl hc
      split at e
      · rename_i s z bts hs hz hb
        split at e
        · rename_i hle0
          simp only [Bool.and_eq_true] at hle0
          obtain ⟨⟨⟨h1, h2⟩, h3⟩, h4⟩ := hle0
          have h1 := Nat.le_of_ble_eq_true h1
          have h2 : m < 100000000 := Nat.le_of_ble_eq_true h2
          have h3 : bts < 1000 := Nat.le_of_ble_eq_true h3
          have h4 := Nat.eq_of_beq_eq_true h4
          cases e
          have hrl : ρ l = .int .i64 (.ofNat n) := hρ l _ (by simp [Op.operands, Call.operands]) hl
          have hrc : ρ c = .int .i64 (.ofNat m) := hρ c _ (by simp [Op.operands, Call.operands]) hc
          have hzp := (ok.zer _ _ hz).2
          obtain ⟨ti, hti, hbt⟩ := runByt (w := w) ok hb
          have hz0 : ((Array.range (m * s)).map (fun k => (if m * s = 0 then #[] else z.cells)[k % (if m * s = 0 then #[] else z.cells).size]!)).toList = zerosA (cellsL z) m := zeros_row hzp h4 _ (fun q => by rw [if_neg q])
          have hzl : VRL ι (zerosA (cellsL z) m) (zerosA (cellsL z) m) := VRL.zeros (VRL.of_plain _ (plain_cells hzp)) m
          obtain ⟨hE, hI⟩ := newRow_sound h hzl [] elem (0, 0) (free0 _ _)
          refine heavy_val (u := .slice (some ⟨w.heap.size, 0, none⟩) n m) (w' := w.alloc (.cells (zerosA (cellsL z) m ++ []).toArray elem (0, 0))) ?_ hE ⟨_, bindE_self _ _, rfl⟩ hI
          rw [hrl, hrc]
          have hw1 : IntKind.i64.wrap (Int.ofNat n) = n := by simp [IntKind.wrap, IntKind.bits, IntKind.signed]; omega
          have hw2 : IntKind.i64.wrap (Int.ofNat m) = m := by simp [IntKind.wrap, IntKind.bits, IntKind.signed]; omega
          have hb2 : (bts : Int) * m ≤ 1000 * 100000000 := Int.mul_le_mul (by omega) (by omega) (by omega) (by omega)
          unfold Instr.makeSlice
          refine Eq.trans (andThen_bind (runUnd ok hu)) ?_
          refine Eq.trans (andThen_bind (a := Int.ofNat n) (w' := w) rfl) ?_
          refine Eq.trans (andThen_bind (a := Int.ofNat m) (w' := w) rfl) ?_
          refine Eq.trans (andThen_bind hti) ?_
          simp only [hw1, hw2, hbt]
          rw [if_neg (by
            simp only [Bool.or_eq_true, decide_eq_true_eq, not_or, Int.not_lt]
            refine ⟨⟨⟨by omega, ?_⟩, by omega⟩, by omega⟩
            show (bts : Int) * m ≤ 2 ^ 48
            omega)]
          rw [andThen_bind (run_askRoom _), andThen_bind (runSiz ok hs)]
          simp only [Int.toNat_natCast]
          by_cases h0 : m * s = 0
          · simp only [h0, if_true] at hz0
            simp only [h0, if_true, pure_bind]
            refine Eq.trans (andThen_bind (run_newRow elem _)) ?_
            have : (zerosA (cellsL z) m ++ []).toArray = Array.map (fun x => (#[] : Array Value)[x % (#[] : Array Value).size]!) (Array.range 0) := by
              apply Array.ext'; rw [hz0]; simp
            rw [this]; rfl
          · simp only [h0, if_false] at hz0
            simp only [h0, if_false, bind_assoc, pure_bind]
            rw [andThen_bind (runZer ok hz)]
            refine Eq.trans (andThen_bind (run_newRow elem _)) ?_
            have : (zerosA (cellsL z) m ++ []).toArray = Array.map (fun x => z.cells[x % z.cells.size]!) (Array.range (m * s)) := by
              apply Array.ext'; rw [hz0]; simp
            rw [this]; rfl
        · cases e
      · cases e
    · cases e
  case store t x v =>
    split at e
    · rename_i p u hx hv
      split at e
      · split at e
        · rename_i S1 hs
          cases e
          obtain ⟨i, hi, _, hr⟩ := hρ x _ (by simp [Op.operands, Call.operands]) hx
          obtain ⟨w', hrun, hI⟩ := storeV_sound ok h hs hi (hρ v _ (by simp [Op.operands, Call.operands]) hv)
          refine heavy_unit ?_ hI
          rw [hr]
          exact hrun
        · cases e
      · cases e
    · cases e
  case mapUpdate t m k v =>
    split at e
    · rename_i m1 k1 v1 hm hk hv
      split at e
      · rename_i S1 hs
        cases e
        obtain ⟨w', hrun, hI⟩ := updateA_sound ok h hs (hρ m _ (by simp [Op.operands, Call.operands]) hm) (hρ k _ (by simp [Op.operands, Call.operands]) hk) (hρ v _ (by simp [Op.operands, Call.operands]) hv)
        exact heavy_unit hrun hI
      · cases e
    · cases e
  case insert t m k v =>
    split at e
    · rename_i m1 k1 v1 hm hk hv
      split at e
      · rename_i S1 hs
        cases e
        obtain ⟨w', hrun, hI⟩ := updateA_sound ok h hs (hρ m _ (by simp [Op.operands, Call.operands]) hm) (hρ k _ (by simp [Op.operands, Call.operands]) hk) (hρ v _ (by simp [Op.operands, Call.operands]) hv)
        exact heavy_unit hrun hI
      · cases e
    · cases e
  case call c =>
    obtain ⟨callee, args, argTypes⟩ := c
    simp only at e
    have hargs : ∀ {l}, evs E a args.toList = some l → VRL ι l (args.map ρ).toList := fun hl => by simpa using hρ.list _ (by intro x hx; simp at hx; simp [Op.operands, Call.operands, hx]) hl
    have two : ∀ {x y : Value}, evs E a args.toList = some [x, y] → ∃ u v, args.map ρ = #[u, v] ∧ VR ι x u ∧ VR ι y v := by
      intro x y hl
      obtain ⟨u, us, h1, h2, v, vs, h3, h4, h5⟩ := hargs hl
      obtain rfl : vs = [] := h5
      refine ⟨u, v, ?_, h2, h4⟩
      apply Array.ext'; rw [h1, h3]
    split at e
    · rename_i s x hl
      split at e
      · rename_i st xt ht
        split at e
        · rename_i v1 S1 hap
          cases e
          obtain ⟨s', u, harr, hs, hu⟩ := two hl
          obtain ⟨ι', v', w', hr, hE, hv, hI⟩ := appendA_sound ok h hap hs hu ty
          have hta : argTypes = #[st, xt] := by apply Array.ext'; exact ht
          refine ⟨ι', _, w', ?_, hE, .value v' hv, hI⟩
          simp only [execOp, resolve, harr, hta]
          exact (andThen_bind (k := fun v => pure (Next.value v)) hr).trans rfl
        · cases e
      · cases e
    · rename_i d s hl
      split at e
      · rename_i dt r ht
        split at e
        · rename_i v1 S1 hc
          cases e
          obtain ⟨d', s', harr, hd, hs⟩ := two hl
          have h0 : argTypes[0]? = some dt := by rw [← Array.getElem?_toList, ht]; rfl
          obtain ⟨w', hr, hv, hI⟩ := copyA_sound ok h hc hd hs argTypes h0 ty
          refine ⟨ι, _, w', ?_, Ext.refl _, .value _ hv, hI⟩
          simp only [execOp, resolve, harr]
          exact (andThen_bind (k := fun v => pure (Next.value v)) hr).trans rfl
        · cases e
      · cases e
    · rename_i m k hl
      split at e
      · rename_i t r ht
        split at e
        · rename_i S1 hc
          cases e
          obtain ⟨d', s', harr, hd, hs⟩ := two hl
          have h0 : argTypes[0]? = some t := by rw [← Array.getElem?_toList, ht]; rfl
          obtain ⟨w', hr, hI⟩ := deleteA_sound ok h hc hd hs argTypes h0 ty
          refine ⟨ι, _, w', ?_, Ext.refl _, .value (.tuple #[]) (VR.of_plain _ rfl), hI⟩
          simp only [execOp, resolve, harr]
          exact (andThen_bind (k := fun v => pure (Next.value v)) hr).trans rfl
        · cases e
      · cases e
    · rename_i g l hl
      split at e
      · rename_i f' first captured hg
        cases e
        obtain ⟨fn, x', y', hr, hf, h1, h2⟩ := hρ g _ (by simp [Op.operands, Call.operands]) hg
        obtain rfl : fn = .func f' := hf
        refine ⟨x'.toList ++ ((args.map ρ).toList ++ y'.toList), (VRA.iff.1 h1).append ((hargs hl).append (VRA.iff.1 h2)), ?_⟩
        simp only [execOp, resolve, hr]
        have : (x'.toList ++ ((args.map ρ).toList ++ y'.toList)).toArray = x' ++ args.map ρ ++ y' := by
          apply Array.ext'; simp
        rw [this]; rfl
      · rename_i l' hg
        cases e
        obtain ⟨fn, x', y', hr, ⟨i, hi, h0, rfl⟩, h1, h2⟩ := hρ g _ (by simp [Op.operands, Call.operands]) hg
        have hx : x' = #[] := by apply Array.ext'; exact h1
        have hy : y' = #[] := by apply Array.ext'; exact h2
        subst hx; subst hy
        refine ⟨i, (args.map ρ).toList, hi, h0, hargs hl, ?_⟩
        simp only [execOp, resolve, hr]
        have : (args.map ρ).toList.toArray = #[] ++ args.map ρ := by apply Array.ext'; simp
        rw [this]; rfl
      · cases e
    · cases e
  case defer c =>
    obtain ⟨callee, args, argTypes⟩ := c
    simp only at e
    have hargs : ∀ {l}, evs E a args.toList = some l → VRL ι l (args.map ρ).toList := fun hl => by simpa using hρ.list _ (by intro x hx; simp at hx; simp [Op.operands, Call.operands, hx]) hl
    split at e
    · rename_i g l hl
      split at e
      · rename_i f' first captured hg
        cases e
        obtain ⟨fn, x', y', hr, hf, h1, h2⟩ := hρ g _ (by simp [Op.operands, Call.operands]) hg
        obtain rfl : fn = .func f' := hf
        refine ⟨{ target := .fn (.func f') y', args := x' ++ args.map ρ }, ?_, y', x' ++ args.map ρ, [], rfl, h2, ?_, rfl⟩
        · simp only [execOp, resolve, hr]; rfl
        · exact h1.append (by rw [VRA.iff]; exact hargs hl)
      · cases e
    · cases e
end
end Go.Am
