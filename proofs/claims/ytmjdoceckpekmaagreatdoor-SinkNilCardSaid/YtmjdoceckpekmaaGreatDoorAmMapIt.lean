import Derived.Test.YtmjdoceckpekmaaGreatDoorAmHeavy
set_option linter.unusedSimpArgs false
set_option linter.unusedVariables false
namespace Go.Am
section
variable {E : Env} {ι : Emb} {S : Hp} {w0 w : World} {base : Nat}

theorem isIn_eq (b : Nat) : ∀ (l : List Nat), isIn b l = l.contains b
  | [] => rfl
  | c :: l => by
    simp only [isIn, List.contains_cons]
    rw [isIn_eq b l]
    cases h : Nat.beq b c with
    | true => have := Nat.eq_of_beq_eq_true h; subst this; simp
    | false =>
      have : (b == c) = false := by
        cases q : (b == c)
        · rfl
        · have : b = c := by simpa using q
          subst this; simp at h
      rw [this]; simp

/-- The entries that have not come, and those they stand for. -/
def LR (ι : Emb) : List (Value × Value × Nat) → List MapEntry → Prop
  | [], l => l = []
  | (k, v, b) :: es, l => ∃ e r, l = e :: r ∧ e.key = k ∧ plain k = true ∧ VR ι v e.val ∧ e.born = b ∧ LR ι es r

theorem leftOf_sound (seen : List Nat) : ∀ {es : List (Value × Value)} {l : List MapEntry} {bs : List Nat}, MR ι es l → l.map (·.born) = bs → LR ι (leftOf seen es bs) (l.filter fun e => !seen.contains e.born)
  | [], l, bs, h, hb => by rw [show l = [] from h]; simp [leftOf, LR]
  | (k, v) :: es, l, bs, h, hb => by
    obtain ⟨e, r, rfl, h1, h2, h3, h4⟩ := h
    subst hb
    simp only [List.map_cons, leftOf, isIn_eq]
    have ih := leftOf_sound seen h4 rfl
    cases hc : seen.contains e.born with
    | true => simp only [List.filter_cons, hc]; exact ih
    | false => simp only [List.filter_cons, hc]; exact ⟨e, _, rfl, h1, h2, h3, rfl, ih⟩

theorem LR.length : ∀ {l : List (Value × Value × Nat)} {m : List MapEntry}, LR ι l m → m.length = l.length
  | [], _, e => by rw [show _ = [] from e]; rfl
  | _ :: _, _, ⟨_, _, e, _, _, _, _, h⟩ => by rw [e]; simp [h.length]

theorem LR.get : ∀ {l : List (Value × Value × Nat)} {m : List MapEntry} {n : Nat} {k v : Value} {b : Nat}, LR ι l m → l[n]? = some (k, v, b) → ∃ e, m[n]? = some e ∧ e.key = k ∧ plain k = true ∧ VR ι v e.val ∧ e.born = b
  | [], _, _, _, _, _, _, h => by simp at h
  | _ :: _, _, n, _, _, _, ⟨e, r, he, h1, h2, h3, h4, hr⟩, h => by
    cases n with
    | zero => simp at h; obtain ⟨rfl, rfl, rfl⟩ := h; exact ⟨e, by simp [he], h1, h2, h3, h4⟩
    | succ n => simp at h; obtain ⟨e', a, b⟩ := hr.get h; exact ⟨e', by simp [he, a], b⟩

theorem allBelow_sound {n : Nat} : ∀ {l : List (Value × Value × Nat)} {m : List MapEntry}, LR ι l m → allBelow n l = true → ∀ e ∈ m, e.born < n
  | [], _, e, _ => by rw [show _ = [] from e]; simp
  | (_, _, b) :: l, _, ⟨e, r, he, h1, h2, h3, h4, hr⟩, h => by
    simp only [allBelow] at h
    split at h
    · rename_i hb
      have hb : b < n := Nat.le_of_ble_eq_true hb
      rw [he]
      intro x hx
      rcases List.mem_cons.1 hx with rfl | hx
      · omega
      · exact allBelow_sound hr h x hx
    · cases h

theorem anyBelow_sound {n : Nat} : ∀ {l : List Nat}, anyBelow n l = true → ∃ b ∈ l, b < n
  | [], h => by simp [anyBelow] at h
  | b :: l, h => by
    simp only [anyBelow] at h
    split at h
    · rename_i hb; exact ⟨b, by simp, Nat.le_of_ble_eq_true hb⟩
    · obtain ⟨x, hx, hl⟩ := anyBelow_sound h; exact ⟨x, by simp [hx], hl⟩

theorem run_setObj_iter {P : Program} {r : Nat} {m : Option Nat} {s : Nat} {seen : Array Nat} {c : Nat} (h : w.heap[r]? = some (.mapIter m s seen c)) (o : Obj) : (setObj r o).run P w = .ok () (w.putObj r o) := by
  simp [setObj, Sem.run, h, World.putObj]
theorem run_getObj_iter {P : Program} {r : Nat} {m : Option Nat} {s : Nat} {seen : Array Nat} {c : Nat} (h : w.heap[r]? = some (.mapIter m s seen c)) : (getObj r).run P w = .ok (.mapIter m s seen c) w := by
  simp [getObj, Sem.run, h]

theorem rangeOf_sound (ok : E.Tab) (h : Inv ι S w0 w base) {t : TypeId} {x u : Value} {S' : Hp} (e : rangeOf E S t x = some S') (hx : VR ι x u) :
    ∃ ι' r w', (Instr.range t u).run E.P w = .ok r w' ∧ Ext ι ι' ∧ VR ι' (.pointer (some ⟨S.next, 0, none⟩)) r ∧ Inv ι' S' w0 w' base := by
  have hE : Ext ι (bindE ι S.next ⟨w.heap.size, 0, 0⟩) := bindE_ext _ (h.dom _ (Nat.le_refl _))
  unfold rangeOf at e
  split at e
  · rename_i k1 e1 hu
    cases e
    obtain rfl := hx
    refine ⟨bindE ι S.next ⟨w.heap.size, 0, 0⟩, _, w.alloc (.mapIter none 0 #[] 0), ?_, hE, ⟨_, bindE_self _ _, rfl, rfl⟩, h.new ⟨none, rfl, rfl, rfl⟩⟩
    unfold Instr.range
    refine Eq.trans (andThen_bind (runUnd ok hu)) ?_
    show (do pure (Value.pointer (some ⟨← newObj (.mapIter none 0 #[] 0), 0, none⟩)) : Sem Value).run E.P w = _
    refine Eq.trans (andThen_bind (run_newObj_alloc _ _ _)) ?_
    rfl
  · rename_i k1 e1 m hu
    split at e
    · rename_i es bs clock hg
      cases e
      obtain ⟨i, hi, h0, rfl⟩ := hx
      obtain ⟨i', hi', en, hw, _, hm, hs⟩ := h.obj _ _ hg
      rw [hi] at hi'; cases hi'
      refine ⟨bindE ι S.next ⟨w.heap.size, 0, 0⟩, _, w.alloc (.mapIter (some i.blk) clock #[] clock), ?_, hE, ⟨_, bindE_self _ _, rfl, rfl⟩, h.new ⟨some i.blk, rfl, rfl, i, hE _ _ hi, h0, rfl⟩⟩
      unfold Instr.range
      refine Eq.trans (andThen_bind (runUnd ok hu)) ?_
      refine Eq.trans (andThen_bind (run_getObj_map hw)) ?_
      show (do pure (Value.pointer (some ⟨← newObj (.mapIter (some i.blk) clock #[] clock), 0, none⟩)) : Sem Value).run E.P w = _
      refine Eq.trans (andThen_bind (run_newObj_alloc _ _ _)) ?_
      rfl
    · cases e
  · cases e

/-- The last part of a step of an iterator over a map. -/
def nextTail (m r since : Nat) (seen : Array Nat) (clock : Nat) (es : Array MapEntry) : Sem Value := do
    let left := es.filter fun e => !seen.contains e.born
    let old := left.filter (·.born < since)
    let new := left.filter (·.born ≥ since)
    let candidates := (if old.isEmpty then #[none] else #[]) ++ (old ++ new).map some
    match candidates[← choose (.mapNext candidates.size)]? with
    | some (some e) =>
      setObj r (.mapIter (some m) since (seen.push e.born) clock)
      pure (.tuple #[.bool true, e.key, e.val])
    | some none => pure (.tuple #[.bool false])
    | none => stuck "Next: no such candidate"

theorem nextTail_nil {P : Program} {m r since : Nat} {seen : Array Nat} {clock : Nat} {es : Array MapEntry} (h : es.filter (fun e => !seen.contains e.born) = #[]) : (nextTail m r since seen clock es).run P w = .ok (.tuple #[.bool false]) w := by
  unfold nextTail
  simp only [h]
  simp [choose, Sem.run, Question.forced]

theorem nextTail_pick {P : Program} {m r since : Nat} {seen : Array Nat} {clock : Nat} {es : Array MapEntry} {left : Array MapEntry} (h : es.filter (fun e => !seen.contains e.born) = left) (hall : ∀ e ∈ left.toList, e.born < since) (hne : left.size ≠ 0)
    {mm : Option Nat} {s : Nat} {sn : Array Nat} {c0 : Nat} (hr : w.heap[r]? = some (.mapIter mm s sn c0)) {j : Nat} (hj : j = if left.size ≤ 1 then 0 else w.tape w.drawn (.mapNext left.size) % left.size) {e : MapEntry} (he : left[j]? = some e) :
    ∃ d, (nextTail m r since seen clock es).run P w = .ok (.tuple #[.bool true, e.key, e.val]) { w.putObj r (.mapIter (some m) since (seen.push e.born) clock) with drawn := d } := by
  have hold : left.filter (fun e => decide (e.born < since)) = left := by
    apply Array.filter_eq_self.2
    intro a ha
    simpa using hall a (by simpa using ha)
  have hnew : left.filter (fun e => decide (e.born ≥ since)) = #[] := by
    apply Array.filter_eq_empty_iff.2
    intro a ha
    have := hall a (by simpa using ha)
    simp; omega
  have hemp : left.isEmpty = false := by
    cases q : left.isEmpty
    · rfl
    · simp at q; subst q; simp at hne
  have hc : (if left.isEmpty = true then #[none] else #[]) ++ (left ++ #[]).map some = left.map some := by rw [hemp]; simp
  have hget : (left.map some)[j]? = some (some e) := by simp [he]
  by_cases h1 : left.size ≤ 1
  · rw [if_pos h1] at hj
    refine ⟨w.drawn, ?_⟩
    unfold nextTail
    simp only [h, hold, hnew, hc]
    have hch : (choose (.mapNext (left.map some).size)).run P w = .ok 0 w := by simp [choose, Sem.run, Question.forced, h1]
    refine Eq.trans (andThen_bind hch) ?_
    rw [← hj, hget]
    refine Eq.trans (andThen_bind (run_setObj_iter hr _)) ?_
    rfl
  · rw [if_neg h1] at hj
    refine ⟨w.drawn + 1, ?_⟩
    unfold nextTail
    simp only [h, hold, hnew, hc]
    have hch : (choose (.mapNext (left.map some).size)).run P w = .ok j { w with drawn := w.drawn + 1 } := by
      simp [choose, Sem.run, Question.forced, h1, Question.cut, hj]
    refine Eq.trans (andThen_bind hch) ?_
    rw [hget]
    refine Eq.trans (andThen_bind (run_setObj_iter (w := { w with drawn := w.drawn + 1 }) hr _)) ?_
    rfl

theorem nextA_sound (h : Inv ι S w0 w base) {c : Option (Nat × Nat)} (hc : ∀ n j, c = some (n, j) → j = w.tape w.drawn (.mapNext n) % n) {x u v : Value} {S' : Hp} (e : nextA S c x = some (v, S')) (hx : VR ι x u) (ty : TypeId) :
    ∃ r w', (Instr.next u false ty).run E.P w = .ok r w' ∧ VR ι v r ∧ Inv ι S' w0 w' base := by
  have hover : VR ι (.tuple ⟨[.bool false]⟩) (.tuple #[.bool false]) := VR.of_plain _ rfl
  unfold nextA at e
  split at e
  · rename_i r
    obtain ⟨i, hi, _, rfl⟩ := hx
    split at e
    · rename_i a1 a2 a3 hg
      cases e
      obtain ⟨i', hi', m', hw, h0, rfl⟩ := h.obj _ _ hg
      rw [hi] at hi'; cases hi'
      refine ⟨_, w, ?_, hover, h⟩
      simp only [h0, Nat.zero_add, Instr.next]
      refine Eq.trans (andThen_bind (run_getObj_iter hw)) ?_
      rfl
    · rename_i m since seen last hg
      obtain ⟨i', hi', m', hw, h0, j, hj, hj0, rfl⟩ := h.obj _ _ hg
      rw [hi] at hi'; cases hi'
      split at e
      · rename_i es bs clock hgm
        obtain ⟨j', hj', en, hwm, _, hmr, hbs⟩ := h.obj _ _ hgm
        rw [hj] at hj'; cases hj'
        split at e
        · rename_i hguard
          have hlr := leftOf_sound seen hmr hbs
          have hleft : (en.filter fun e => !seen.toArray.contains e.born).toList = en.toList.filter fun e => !seen.contains e.born := by simp
          have hgd : (!seen.toArray.isEmpty && !en.isEmpty && en.all (fun e => decide (e.born ≥ last))) = false := by
            split at hguard
            · simp
            · have : en = #[] := by apply Array.ext'; exact hmr
              simp [this]
            · obtain ⟨b, hb, hlt⟩ := anyBelow_sound hguard
              subst hbs
              rw [List.mem_map] at hb
              obtain ⟨x, hx, rfl⟩ := hb
              rw [Bool.and_eq_false_iff]; right
              rw [← Bool.not_eq_true, Array.all_eq_true_iff_forall_mem]
              intro hall
              have := hall x (by simpa using hx)
              simp at this; omega
          have hrun : (Instr.next (.pointer (some ⟨i.blk, 0, none⟩)) false ty).run E.P w = (nextTail j.blk i.blk since seen.toArray clock en).run E.P w := by
            simp only [Instr.next]
            refine Eq.trans (andThen_bind (run_getObj_iter hw)) ?_
            simp only
            refine Eq.trans (andThen_bind (run_getObj_map hwm)) ?_
            simp only [hgd, Bool.false_eq_true, if_false]
            rfl
          simp only [h0, Nat.zero_add]
          rw [hrun]
          split at e
          · rename_i hl
            cases e
            rw [hl] at hlr
            refine ⟨_, w, nextTail_nil ?_, hover, h⟩
            apply Array.ext'; rw [hleft]; exact hlr
          · rename_i hne
            split at e
            · rename_i hall
              split at e
              · rename_i k v1 b hp
                cases e
                have hlen := hlr.length
                rw [← hleft] at hlr hlen
                have hall' := allBelow_sound hlr hall
                have hsz : (en.filter fun e => !seen.toArray.contains e.born).size = (leftOf seen es bs).length := by rw [← hlen]; exact Array.length_toList.symm
                have hpick : ∃ jj, jj = (if (en.filter fun e => !seen.toArray.contains e.born).size ≤ 1 then 0 else w.tape w.drawn (.mapNext (en.filter fun e => !seen.toArray.contains e.born).size) % (en.filter fun e => !seen.toArray.contains e.born).size) ∧ (leftOf seen es bs)[jj]? = some (k, v1, b) := by
                  refine ⟨_, rfl, ?_⟩
                  rw [hsz]
                  unfold pickA at hp
                  split at hp
                  · rename_i y hy; cases hp; rw [hy]; simp
                  · rename_i hny
                    split at hp
                    · rename_i n jx
                      split at hp
                      · rename_i hn
                        have hn := Nat.eq_of_beq_eq_true hn
                        have := hc n jx rfl
                        rw [nth_eq] at hp
                        rw [if_neg]
                        · rw [hn, ← this]; exact hp
                        · intro hle
                          match hq : leftOf seen es bs, hle with
                          | [], _ => exact hne hq
                          | [y], _ => exact hny y hq
                      · cases hp
                    · cases hp
                obtain ⟨jj, hjj, hget⟩ := hpick
                obtain ⟨en1, h1, rfl, h3, h4, rfl⟩ := hlr.get hget
                obtain ⟨d, hd⟩ := nextTail_pick (P := E.P) (m := j.blk) (since := since) (clock := clock) rfl hall' (by rw [hsz]; intro q; exact hne (List.length_eq_zero_iff.1 q)) hw hjj (by rw [← Array.getElem?_toList]; exact h1)
                refine ⟨_, _, hd, ⟨_, rfl, VRL.cons rfl (VRL.cons (VR.of_plain _ h3) (VRL.cons h4 VRL.nil))⟩, ?_⟩
                refine Inv.drew ?_ _
                refine h.put hg rfl rfl hi ⟨some j.blk, ?_, h0, j, hj, hj0, rfl⟩
                simp
              · cases e
            · cases e
        · cases e
      · cases e
    · cases e
  · cases e
theorem lastOf_eq : ∀ (l : List Nat), lastOf l = l.getLast?
  | [] => rfl
  | [_] => rfl
  | _ :: c :: l => by rw [lastOf, lastOf_eq (c :: l)]; simp [List.getLast?_cons_cons]; simp

theorem findStamp_sound {b : Nat} : ∀ {es : List (Value × Value)} {l : List MapEntry} {bs : List Nat} {k v : Value}, MR ι es l → l.map (·.born) = bs → findStamp b es bs = some (k, v) → ∃ e, l.find? (fun e => e.born == b) = some e ∧ e.key = k ∧ plain k = true ∧ VR ι v e.val
  | [], l, bs, k, v, h, hb, e => by simp [findStamp] at e
  | (k0, v0) :: es, l, bs, k, v, h, hb, e => by
    obtain ⟨x, r, rfl, h1, h2, h3, h4⟩ := h
    subst hb
    simp only [List.map_cons, findStamp] at e
    split at e
    · rename_i hq
      cases e
      have := Nat.eq_of_beq_eq_true hq
      exact ⟨x, by simp [List.find?_cons, this], h1, h2, h3⟩
    · rename_i hq
      have hne : (x.born == b) = false := by
        cases q : (x.born == b)
        · rfl
        · have : x.born = b := by simpa using q
          subst this; simp at hq
      obtain ⟨y, hy, rest⟩ := findStamp_sound h4 rfl e
      exact ⟨y, by rw [List.find?_cons, hne]; exact hy, rest⟩

theorem entryA_sound (h : Inv ι S w0 w base) {x u v : Value} (e : entryA S x = some v) (hx : VR ι x u) : ∃ r, (Instr.entry u).run E.P w = .ok r w ∧ VR ι v r := by
  unfold entryA at e
  split at e
  · rename_i r
    obtain ⟨i, hi, _, rfl⟩ := hx
    split at e
    · rename_i m since seen last hg
      obtain ⟨i', hi', m', hw, h0, j, hj, hj0, rfl⟩ := h.obj _ _ hg
      rw [hi] at hi'; cases hi'
      split at e
      · rename_i b es bs clock hb hgm
        obtain ⟨j', hj', en, hwm, _, hmr, hbs⟩ := h.obj _ _ hgm
        rw [hj] at hj'; cases hj'
        split at e
        · rename_i hcl
          have hcl := Nat.eq_of_beq_eq_true hcl
          split at e
          · rename_i k v1 hf
            cases e
            obtain ⟨y, hy, rfl, h2, h3⟩ := findStamp_sound hmr hbs hf
            refine ⟨.tuple #[y.key, y.val], ?_, ⟨_, rfl, VRL.cons (VR.of_plain _ h2) (VRL.cons h3 VRL.nil)⟩⟩
            have hback : seen.toArray.back? = some b := by rw [← hb, lastOf_eq]; simp
            simp only [h0, Nat.zero_add, Instr.entry]
            refine Eq.trans (andThen_bind (run_getObj_iter hw)) ?_
            simp only [hback]
            refine Eq.trans (andThen_bind (run_getObj_map hwm)) ?_
            have hne : (clock != last) = false := by simp [hcl]
            have hfind : en.find? (fun e => e.born == b) = some y := by rw [← Array.find?_toList]; exact hy
            simp only [hne, Bool.false_eq_true, if_false, hfind]
            rfl
          · cases e
        · cases e
      · cases e
    · cases e
  · cases e
end
end Go.Am
