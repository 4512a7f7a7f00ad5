import Derived.Test.YtmjdoceckpekmaaGreatDoorAmFrame
set_option linter.unusedSimpArgs false
set_option linter.unusedVariables false
namespace Go.Am

theorem filter_set : ∀ (l : List Bool) (i : Nat), l[i]? = some false → ((l.set i true).filter (!·)).length + 1 = (l.filter (!·)).length
  | [], i, h => by simp at h
  | x :: l, 0, h => by
    simp at h; subst h; simp
  | x :: l, i + 1, h => by
    have := filter_set l i (by simpa using h)
    cases x <;> simp at this ⊢ <;> omega

theorem unlisted_set {L : Array Bool} {i : Nat} (hi : i < L.size) (h : L.getD i true = false) : unlisted (L.setIfInBounds i true) + 1 = unlisted L := by
  unfold unlisted
  rw [Array.toList_setIfInBounds]
  refine filter_set _ _ ?_
  simp [hi] at h
  simp [hi, h]

theorem getD_set {L : Array Bool} {i j : Nat} (hi : i < L.size) : (L.setIfInBounds i true).getD j false = if j = i then true else L.getD j false := by
  by_cases h : j = i
  · subst h; simp [hi]
  · rw [if_neg h]; simp [Array.getElem?_setIfInBounds_ne (fun q => h q.symm)]

theorem hvs_nodup (E : Env) (ops : List Oper) : (hvs E ops).Nodup := List.Nodup.sublist List.filter_sublist List.nodup_range

theorem hvs_lt {E : Env} {ops : List Oper} {j i : Nat} (h : (hvs E ops)[j]? = some i) : i < ops.length ∧ isLit E ops i = false := by
  have := List.mem_of_getElem? h
  unfold hvs at this
  simp only [List.mem_filter, List.mem_range, Bool.not_eq_true'] at this
  exact this

theorem hvs_inj {E : Env} {ops : List Oper} {j k i : Nat} (h : (hvs E ops)[j]? = some i) (h' : (hvs E ops)[k]? = some i) : j = k := by
  have hj := (List.getElem?_eq_some_iff.1 h).1
  have hk := (List.getElem?_eq_some_iff.1 h').1
  exact (List.getElem?_inj hj (hvs_nodup E ops)).1 (h.trans h'.symm)

theorem drop_cons {α : Type} {l r : List α} {x : α} {j : Nat} (h : x :: r = l.drop j) : l[j]? = some x ∧ r = l.drop (j + 1) := by
  have h1 : (l.drop j)[0]? = some x := by rw [← h]; rfl
  have h2 : (l.drop j).drop 1 = r := by rw [← h]; rfl
  rw [List.getElem?_drop] at h1
  rw [List.drop_drop] at h2
  exact ⟨by simpa using h1, h2.symm⟩

section
variable {E : Env} {ι : Emb}

theorem finish_sound {f f' : AFrame} {g : Frame} {v u : Value} (h : FR E ι f g) (e : f.finish v = some f') (hv : VR ι v u) : FR E ι f' (g.finish u) ∧ f'.ret = f.ret ∧ f'.roundOf = f.roundOf ∧ f'.defers = f.defers ∧ f'.kind = f.kind := by
  obtain ⟨ts, td, ds, ro, rfl, hs, hd, hr, hb, hk⟩ := h
  unfold AFrame.finish at e
  split at e
  · rename_i fn n a ops o rest k defs ret kind rd
    split at e
    · rename_i a' ha
      cases e
      cases hb with
      | plain ht hk' =>
        obtain ⟨y, ys, rfl, ⟨arr, j, rfl, harr, hdrop⟩, hys⟩ := hk'
        obtain ⟨hj, hr'⟩ := drop_cons hdrop
        obtain ⟨h1, h2⟩ := putDst_sound ha hs ht hv
        refine ⟨⟨setD ts o.dst u, .inRegion arr (List.range' (j + 1) rest.length) :: ys, ds, ro, ?_, h2, hd, hr, .plain h1 ⟨_, _, rfl, ⟨arr, j + 1, rfl, harr, hr'⟩, hys⟩, hk⟩, rfl, rfl, rfl, rfl⟩
        simp only [Frame.finish, List.length_cons, List.range'_succ]
        have : (arr[j]?).bind (·.dst) = o.dst := by rw [nth_arr harr, hj]; rfl
        rw [this]
        unfold setD
        cases o.dst <;> rfl
    · cases e
  · rename_i fn n a ops i rest k defs ret kind rd
    split at e
    · rename_i a' ha
      cases e
      cases hb with
      | plain ht hk' =>
        obtain ⟨y, ys, _, hf, _⟩ := hk'; exact hf.elim
      | wait hw hrest =>
        rename_i arr idx td pl k fuel t L
        have hi := hvs_lt hw.here
        have hiL : i < L.size := by rw [hw.size]; exact hi.1
        have hLi : L.getD i false = false := by
          cases q : L.getD i false
          · rfl
          · exact absurd ((hw.first _ _ hw.here).1 q) (Nat.lt_irrefl _)
        have hLt : L.getD i true = false := by
          simp [hiL] at hLi ⊢; exact hLi
        have hdst := dstOf_eq hw.harr i
        refine ⟨⟨setD ts (dstOf ops i) u, .inRegion arr idx :: td, ds, ro, ?_, ?_, hd, hr, .drawn (pl := pl) (k := k + 1) (fuel := fuel) (t := t) (L := L.setIfInBounds i true) ?_ hrest, hk⟩, rfl, rfl, rfl, rfl⟩
        · simp only [Frame.finish, ← hdst]
          unfold setD
          cases dstOf ops i <;> rfl
        · unfold setD; cases dstOf ops i <;> simp [hs]
        · refine { plan := hw.plan, stages := hw.stages, harr := hw.harr, idx := hw.idx, size := by simp [hw.size], fuel := ?_, closed := ?_, first := ?_, kle := ?_, lights := ?_, tr := ?_ }
          · have := unlisted_set hiL hLt; have := hw.fuel; omega
          · intro j o hj ho ed hed hb
            rw [getD_set hiL] at hj ⊢
            by_cases hji : j = i
            · subst hji
              have := hw.ready o ho ed hed hb
              split
              · rfl
              · exact this
            · rw [if_neg hji] at hj
              have := hw.closed j o hj ho ed hed hb
              split
              · rfl
              · exact this
          · intro j h hj
            rw [getD_set hiL]
            by_cases hh : h = i
            · subst hh
              have := hvs_inj hj hw.here
              rw [if_pos rfl]; simp; omega
            · rw [if_neg hh, hw.first j h hj]
              have : j ≠ k := by rintro rfl; rw [hw.here] at hj; cases hj; exact hh rfl
              omega
          · have := (List.getElem?_eq_some_iff.1 hw.here).1; omega
          · intro j hj hl
            rw [getD_set hiL] at hj
            by_cases hji : j = i
            · subst hji; rw [hi.2] at hl; cases hl
            · rw [if_neg hji] at hj
              have := hw.lights j hj hl; omega
          · intro s x hx
            unfold putDst at ha
            cases hdd : dstOf ops i with
            | none =>
              rw [hdd] at ha
              cases ha
              obtain ⟨hsz, hor⟩ := hw.tr s x hx
              refine ⟨by unfold setD; exact hsz, ?_⟩
              rcases hor with ⟨j, h1, h2⟩ | h
              · left
                refine ⟨j, h1, ?_⟩
                rw [getD_set hiL, if_neg (by rintro rfl; rw [hdd] at h1; cases h1)]; exact h2
              · right; unfold setD; exact h
            | some d =>
              rw [hdd] at ha
              simp only at ha
              split at ha
              · rename_i hdn
                have hdn : d < n := Nat.le_of_ble_eq_true hdn
                cases ha
                rw [T.get_put] at hx
                unfold setD
                simp only
                by_cases hsd : s = d
                · subst hsd; rw [if_pos rfl] at hx; cases hx
                  refine ⟨by simp [hs]; exact hdn, ?_⟩
                  right
                  exact ⟨u, by rw [Array.getElem?_setIfInBounds, if_pos rfl, if_pos (by rw [hs]; exact hdn)], hv⟩
                · rw [if_neg hsd] at hx
                  obtain ⟨hsz, hor⟩ := hw.tr s x hx
                  refine ⟨by simpa using hsz, ?_⟩
                  rcases hor with ⟨j, h1, h2⟩ | ⟨z, hz, hzr⟩
                  · left
                    refine ⟨j, h1, ?_⟩
                    rw [getD_set hiL, if_neg (by rintro rfl; rw [hdd] at h1; cases h1; exact hsd rfl)]; exact h2
                  · right
                    exact ⟨z, by rw [Array.getElem?_setIfInBounds, if_neg (fun q => hsd q.symm)]; exact hz, hzr⟩
              · cases ha
    · cases e
  · rename_i fn n a l k defs ret kind rd
    cases e
    cases hb with
    | plain ht hk' =>
      obtain ⟨y, ys, rfl, ⟨i, hi, h0, rfl⟩, hys⟩ := hk'
      exact ⟨⟨ts, .endRangeFunc i.blk :: ys, ds, ro, rfl, hs, hd, hr, .plain ht ⟨_, _, rfl, ⟨i, hi, h0, rfl⟩, hys⟩, hk⟩, rfl, rfl, rfl, rfl⟩
  · cases e

theorem exit_sound (id : Nat) : ∀ {k k' : List AItem} {td : List Item}, TdR ι k td → exitA id k = some k' → ∃ td', exitTo id td = some td' ∧ TdR ι k' td'
  | [], _, _, _, e => by simp [exitA] at e
  | x :: k, k', td, ⟨y, ys, hy, hx, hk⟩, e => by
    subst hy
    cases x with
    | inBlock id' =>
      obtain rfl := hx
      simp only [exitA] at e
      simp only [exitTo]
      split at e
      · rename_i hb
        cases e
        have := Nat.eq_of_beq_eq_true hb
        subst this
        exact ⟨ys, by simp, hk⟩
      · rename_i hb
        have hne : (id' == id) = false := by
          cases hq : (id' == id)
          · rfl
          · have : id' = id := by simpa using hq
            subst this; simp at hb
        rw [hne]
        exact exit_sound id hk e
    | code c => obtain rfl := hx; simp only [exitA] at e; simp only [exitTo]; exact exit_sound id hk e
    | inLoop c => obtain rfl := hx; simp only [exitA] at e; simp only [exitTo]; exact exit_sound id hk e
    | inScope c => obtain rfl := hx; simp only [exitA] at e; simp only [exitTo]; exact exit_sound id hk e
    | inRegion _ _ => obtain ⟨_, _, rfl, _⟩ := hx; simp only [exitA] at e; simp only [exitTo]; exact exit_sound id hk e
    | drawn _ _ => exact hx.elim
    | wait _ _ _ => exact hx.elim
    | inRangeFunc _ => obtain ⟨_, _, _, rfl⟩ := hx; simp only [exitA] at e; simp only [exitTo]; exact exit_sound id hk e
    | endRangeFunc _ => obtain ⟨_, _, _, rfl⟩ := hx; simp only [exitA] at e; simp only [exitTo]; exact exit_sound id hk e
    | beginRound => obtain rfl := hx; simp only [exitA] at e; simp only [exitTo]; exact exit_sound id hk e

theorem exit_none (id : Nat) : ∀ {k : List AItem} {td : List Item}, TdR ι k td → exitA id k = none → exitTo id td = none
  | [], _, h, _ => by rw [show _ = [] from h]; rfl
  | x :: k, td, ⟨y, ys, hy, hx, hk⟩, e => by
    subst hy
    cases x with
    | inBlock id' =>
      obtain rfl := hx
      simp only [exitA] at e
      simp only [exitTo]
      split at e
      · cases e
      · rename_i hb
        have hne : (id' == id) = false := by
          cases hq : (id' == id)
          · rfl
          · have : id' = id := by simpa using hq
            subst this; simp at hb
        rw [hne]
        exact exit_none id hk e
    | code c => obtain rfl := hx; simp only [exitA] at e; simp only [exitTo]; exact exit_none id hk e
    | inLoop c => obtain rfl := hx; simp only [exitA] at e; simp only [exitTo]; exact exit_none id hk e
    | inScope c => obtain rfl := hx; simp only [exitA] at e; simp only [exitTo]; exact exit_none id hk e
    | inRegion _ _ => obtain ⟨_, _, rfl, _⟩ := hx; simp only [exitA] at e; simp only [exitTo]; exact exit_none id hk e
    | drawn _ _ => exact hx.elim
    | wait _ _ _ => exact hx.elim
    | inRangeFunc _ => obtain ⟨_, _, _, rfl⟩ := hx; simp only [exitA] at e; simp only [exitTo]; exact exit_none id hk e
    | endRangeFunc _ => obtain ⟨_, _, _, rfl⟩ := hx; simp only [exitA] at e; simp only [exitTo]; exact exit_none id hk e
    | beginRound => obtain rfl := hx; simp only [exitA] at e; simp only [exitTo]; exact exit_none id hk e

theorem goto_sound (l : Nat) : ∀ {k k' : List AItem} {td : List Item}, TdR ι k td → gotoA l k = some k' → ∃ td', gotoIn l td = some td' ∧ TdR ι k' td'
  | [], _, _, _, e => by simp [gotoA] at e
  | x :: k, k', td, ⟨y, ys, hy, hx, hk⟩, e => by
    subst hy
    cases x with
    | inScope body =>
      obtain rfl := hx
      simp only [gotoA] at e
      simp only [gotoIn]
      split at e
      · rename_i rest hf
        cases e
        rw [hf]
        exact ⟨_, rfl, _, _, rfl, rfl, _, _, rfl, rfl, hk⟩
      · rename_i hf
        rw [hf]
        exact goto_sound l hk e
    | inBlock id' => obtain rfl := hx; simp only [gotoA] at e; simp only [gotoIn]; exact goto_sound l hk e
    | code c => obtain rfl := hx; simp only [gotoA] at e; simp only [gotoIn]; exact goto_sound l hk e
    | inLoop c => obtain rfl := hx; simp only [gotoA] at e; simp only [gotoIn]; exact goto_sound l hk e
    | inRegion _ _ => obtain ⟨_, _, rfl, _⟩ := hx; simp only [gotoA] at e; simp only [gotoIn]; exact goto_sound l hk e
    | drawn _ _ => exact hx.elim
    | wait _ _ _ => exact hx.elim
    | inRangeFunc _ => obtain ⟨_, _, _, rfl⟩ := hx; simp only [gotoA] at e; simp only [gotoIn]; exact goto_sound l hk e
    | endRangeFunc _ => obtain ⟨_, _, _, rfl⟩ := hx; simp only [gotoA] at e; simp only [gotoIn]; exact goto_sound l hk e
    | beginRound => obtain rfl := hx; simp only [gotoA] at e; simp only [gotoIn]; exact goto_sound l hk e

theorem goto_none (l : Nat) : ∀ {k : List AItem} {td : List Item}, TdR ι k td → gotoA l k = none → gotoIn l td = none
  | [], _, h, _ => by rw [show _ = [] from h]; rfl
  | x :: k, td, ⟨y, ys, hy, hx, hk⟩, e => by
    subst hy
    cases x with
    | inScope body =>
      obtain rfl := hx
      simp only [gotoA] at e
      simp only [gotoIn]
      split at e
      · cases e
      · rename_i hf
        rw [hf]
        exact goto_none l hk e
    | inBlock id' => obtain rfl := hx; simp only [gotoA] at e; simp only [gotoIn]; exact goto_none l hk e
    | code c => obtain rfl := hx; simp only [gotoA] at e; simp only [gotoIn]; exact goto_none l hk e
    | inLoop c => obtain rfl := hx; simp only [gotoA] at e; simp only [gotoIn]; exact goto_none l hk e
    | inRegion _ _ => obtain ⟨_, _, rfl, _⟩ := hx; simp only [gotoA] at e; simp only [gotoIn]; exact goto_none l hk e
    | drawn _ _ => exact hx.elim
    | wait _ _ _ => exact hx.elim
    | inRangeFunc _ => obtain ⟨_, _, _, rfl⟩ := hx; simp only [gotoA] at e; simp only [gotoIn]; exact goto_none l hk e
    | endRangeFunc _ => obtain ⟨_, _, _, rfl⟩ := hx; simp only [gotoA] at e; simp only [gotoIn]; exact goto_none l hk e
    | beginRound => obtain rfl := hx; simp only [gotoA] at e; simp only [gotoIn]; exact goto_none l hk e
end
end Go.Am
