import Derived.Test.YtmjdoceckpekmaaGreatDoorAmNatX
set_option linter.unusedSimpArgs false
set_option linter.unusedVariables false
namespace Go.Am

def teq : T Value → T Value → Bool
  | .e, .e => true
  | .n u l r, .n v m s => (match u, v with
    | none, none => true
    | some a, some b => veq a b
    | _, _ => false) && (teq l m && teq r s)
  | _, _ => false

def esEq : List (Value × Value) → List (Value × Value) → Bool
  | [], [] => true
  | (a, b) :: l, (c, d) :: m => veq a c && (veq b d && esEq l m)
  | _, _ => false

def natsEq : List Nat → List Nat → Bool
  | [], [] => true
  | a :: l, b :: m => Nat.beq a b && natsEq l m
  | _, _ => false

def optEq : Option Nat → Option Nat → Bool
  | none, none => true
  | some a, some b => Nat.beq a b
  | _, _ => false

def sameObj : AObj → AObj → Bool
  | .cells n c, .cells m d => Nat.beq n m && teq c d
  | .con n c, .con m d => Nat.beq n m && teq c d
  | .map es bs c, .map fs ds d => Nat.beq c d && (natsEq bs ds && esEq es fs)
  | .iter m s l c, .iter n t k d => optEq m n && (Nat.beq s t && (natsEq l k && Nat.beq c d))
  | .deferred none, .deferred none => true
  | .dead, .dead => true
  | _, _ => false

theorem teq_sound : ∀ (a b : T Value), teq a b = true → a = b
  | .e, .e, _ => rfl
  | .n u l r, .n v m s, h => by
    simp only [teq, Bool.and_eq_true] at h
    obtain ⟨h1, h2, h3⟩ := h
    rw [teq_sound l m h2, teq_sound r s h3]
    cases u <;> cases v <;> simp at h1
    · rfl
    · rw [veq_sound _ _ h1]

theorem esEq_sound : ∀ (a b : List (Value × Value)), esEq a b = true → a = b
  | [], [], _ => rfl
  | (a, b) :: l, (c, d) :: m, h => by
    simp only [esEq, Bool.and_eq_true] at h
    rw [veq_sound a c h.1, veq_sound b d h.2.1, esEq_sound l m h.2.2]

theorem natsEq_sound : ∀ (a b : List Nat), natsEq a b = true → a = b
  | [], [], _ => rfl
  | a :: l, b :: m, h => by
    simp only [natsEq, Bool.and_eq_true] at h
    rw [Nat.eq_of_beq_eq_true h.1, natsEq_sound l m h.2]

theorem optEq_sound {a b : Option Nat} (h : optEq a b = true) : a = b := by
  cases a <;> cases b <;> simp only [optEq] at h
  · rfl
  · cases h
  · cases h
  · rw [Nat.eq_of_beq_eq_true h]

theorem sameObj_sound {a b : AObj} (h : sameObj a b = true) : a = b := by
  unfold sameObj at h
  split at h
  · simp only [Bool.and_eq_true] at h; rw [Nat.eq_of_beq_eq_true h.1, teq_sound _ _ h.2]
  · simp only [Bool.and_eq_true] at h; rw [Nat.eq_of_beq_eq_true h.1, teq_sound _ _ h.2]
  · simp only [Bool.and_eq_true] at h; rw [Nat.eq_of_beq_eq_true h.1, natsEq_sound _ _ h.2.1, esEq_sound _ _ h.2.2]
  · simp only [Bool.and_eq_true] at h; rw [optEq_sound h.1, Nat.eq_of_beq_eq_true h.2.1, natsEq_sound _ _ h.2.2.1, Nat.eq_of_beq_eq_true h.2.2.2]
  · rfl
  · rfl
  · cases h

/-- The first n objects of two heaps are the same. -/
def sameTo (S S' : Hp) : Nat → Bool
  | 0 => true
  | n + 1 => match (match S.get n, S'.get n with
      | some a, some b => sameObj a b
      | none, none => true
      | _, _ => false) with
    | true => sameTo S S' n
    | false => false

def keepTo (S : Hp) : Nat → T AObj
  | 0 => .e
  | n + 1 => match S.get n with
    | some o => (keepTo S n).put n o
    | none => keepTo S n

theorem sameTo_sound {S S' : Hp} : ∀ {n : Nat}, sameTo S S' n = true → ∀ b, b < n → S.get b = S'.get b
  | 0, _, b, hb => by omega
  | n + 1, h, b, hb => by
    simp only [sameTo] at h
    split at h
    · rename_i hq
      by_cases hbn : b = n
      · subst hbn
        split at hq
        · rename_i x y hx hy; rw [hx, hy, sameObj_sound hq]
        · rename_i hx hy; rw [hx, hy]
        · cases hq
      · exact sameTo_sound h b (by omega)
    · cases h

theorem keepTo_get (S : Hp) : ∀ (n b : Nat), (keepTo S n).get b = if b < n then S.get b else none
  | 0, b => by simp [keepTo, T.get]
  | n + 1, b => by
    simp only [keepTo]
    split
    · rename_i o ho
      rw [T.get_put]
      by_cases hb : b = n
      · subst hb; rw [if_pos rfl, if_pos (by omega), ho]
      · rw [if_neg hb, keepTo_get S n b]
        by_cases h : b < n
        · rw [if_pos h, if_pos (by omega)]
        · rw [if_neg h, if_neg (by omega)]
    · rename_i ho
      rw [keepTo_get S n b]
      by_cases hb : b = n
      · subst hb; rw [if_neg (by omega), if_pos (by omega), ho]
      · by_cases h : b < n
        · rw [if_pos h, if_pos (by omega)]
        · rw [if_neg h, if_neg (by omega)]

def agree (n : Nat) (v : Value) (S : Hp) : List (Value × Hp) → Bool
  | [] => true
  | (u, R) :: l => match veq u v && (Nat.beq R.next S.next && sameTo R S n) with
    | true => agree n v S l
    | false => false

/-- What all the orders come to, if it is the same: what is made on the way is known no more. -/
def mergeA (n : Nat) : List (Value × Hp) → Option (Value × Hp)
  | [] => none
  | (v, S) :: l => match plain v && agree n v S l with
    | true => some (v, ⟨keepTo S n, S.next⟩)
    | false => none

/-- A function is run for every order in which the entries of maps come; all come to the same. -/
def nExp (E : Env) (f : FuncId) (n : Nat) : Native := fun args S => match begun E f args S with
  | some s => match explore E f n s with
    | some l => mergeA S.next l
    | none => none
  | none => none

theorem agree_sound {n : Nat} {v : Value} {S : Hp} : ∀ {l : List (Value × Hp)}, agree n v S l = true → ∀ x ∈ l, x.1 = v ∧ x.2.next = S.next ∧ ∀ b, b < n → x.2.get b = S.get b
  | [], _, x, hx => by simp at hx
  | (u, R) :: l, h, x, hx => by
    simp only [agree] at h
    split at h
    · rename_i hq
      simp only [Bool.and_eq_true] at hq
      rcases List.mem_cons.1 hx with rfl | hx
      · exact ⟨veq_sound _ _ hq.1, Nat.eq_of_beq_eq_true hq.2.1, sameTo_sound hq.2.2⟩
      · exact agree_sound h x hx
    · cases h

theorem branch_spec {g : Nat → Option (List (Value × Hp))} : ∀ {N : Nat} {l : List (Value × Hp)}, branch g N = some l → ∀ j, j < N → ∃ m, g j = some m ∧ ∀ x ∈ m, x ∈ l
  | 0, _, _, j, hj => by omega
  | N + 1, l, h, j, hj => by
    simp only [branch] at h
    split at h
    · rename_i a b ha hb
      cases h
      by_cases hjn : j = N
      · subst hjn; exact ⟨a, ha, fun x hx => by simp [hx]⟩
      · obtain ⟨m, h1, h2⟩ := branch_spec hb j (by omega)
        exact ⟨m, h1, fun x hx => by simp [h2 x hx]⟩
    · cases h

theorem findN_mem {E : Env} {s : ASt} {N : Nat} : ∀ {l : List Nat}, findN E s l = some N → N ∈ l
  | [], h => by simp [findN] at h
  | n :: l, h => by
    simp only [findN] at h
    split at h
    · cases h; simp
    · simp [findN_mem h]

section
variable {E : Env} {ι0 ι : Emb} {S : Hp} {w0 w : World} {base : Nat} {cs0 : List Frame}

theorem explore_sound (ok : E.Ok) {f : FuncId} : ∀ (n : Nat) {s : ASt} {m : Machine} {l : List (Value × Hp)}, StR E ι0 w0 base cs0 s m → explore E f n s = some l →
    ∃ x ∈ l, ∃ ι g w u, Steps E.P m (lone g cs0 w) ∧ g.fn = f ∧ g.leaving E.P w (.returned u) ∧ VR ι x.1 u ∧ Ext ι0 ι ∧ Inv ι x.2 w0 w base := by
  intro n
  induction n with
  | zero => intro s m l _ e; simp [explore] at e
  | succ n ih =>
    intro s m l h e
    simp only [explore] at e
    split at e
    · rename_i s1 hs
      obtain ⟨m1, h1, h2⟩ := step_sound ok h (fun _ _ q => by cases q) hs
      obtain ⟨x, hx, ι, g, w, u, h3, h4⟩ := ih h2 e
      exact ⟨x, hx, ι, g, w, u, h1.trans h3, h4⟩
    · split at e
      · rename_i v hv
        cases e
        split at hv
        · rename_i hfn
          obtain ⟨ι, g, w, u, rfl, h1, h2, h3, h5, h4⟩ := ended_sound ok.tab h hv
          exact ⟨(v, s.S), by simp, ι, g, w, u, Steps.refl _ _, by rw [h1]; exact Nat.eq_of_beq_eq_true hfn, h2, h3, h5, h4⟩
        · cases hv
      · split at e
        · rename_i N hN
          have hpos : 0 < N := by
            have := findN_mem hN
            simp at this; omega
          obtain ⟨m', h1, h2⟩ := branch_spec e (m.world.tape m.world.drawn (.mapNext N) % N) (Nat.mod_lt _ hpos)
          split at h1
          · rename_i s1 hs
            obtain ⟨m1, h3, h4⟩ := step_sound ok h (fun a b q => by cases q; rfl) hs
            obtain ⟨x, hx, ι, g, w, u, h5, h6⟩ := ih h4 h1
            exact ⟨x, h2 x hx, ι, g, w, u, h3.trans h5, h6⟩
          · cases h1
        · cases e

theorem Inv.keepTo (h : Inv ι S w0 w base) (n : Nat) {R : Hp} (hn : R.next = S.next) (hR : ∀ b, b < n → S.get b = R.get b) : Inv ι ⟨Am.keepTo R n, R.next⟩ w0 w base := by
  have hg : ∀ b, (⟨Am.keepTo R n, R.next⟩ : Hp).get b = if b < n then S.get b else none := by
    intro b
    show (Am.keepTo R n).get b = _
    rw [keepTo_get]
    split
    · rename_i hb; rw [hR b hb]
    · rfl
  have hsub : ∀ b o, (⟨Am.keepTo R n, R.next⟩ : Hp).get b = some o → S.get b = some o := by
    intro b o e; rw [hg] at e; split at e
    · exact e
    · cases e
  refine ⟨fun b hb => h.dom b (by rw [← hn]; exact hb), fun b hb => ?_, h.rng, fun b o e => h.obj b o (hsub b o e), fun b c o p i j hb hc => h.inj b c o p i j (hsub b o hb) (hsub c p hc), fun b o i hb => h.own b o i (hsub b o hb), h.keep, h.size, h.os, h.output, h.tape⟩
  have hb' : S.next ≤ b := by rw [← hn]; exact hb
  rw [hg]
  split
  · exact h.fresh b hb'
  · rfl

theorem nExp_ok (ok : E.Ok) {f : FuncId} (hb : HasBody E.P f) (n : Nat) : NatOk E f (nExp E f n) := by
  refine ⟨hb, ?_⟩
  intro ι S w0 w base args args' v S' hI hg hm e cs
  unfold nExp at e
  split at e
  · rename_i s hs
    split at e
    · rename_i l hl
      unfold begun at hs
      split at hs
      · rename_i fr hfr
        cases hs
        obtain ⟨h1, _⟩ := enterA_sound ok.tab ⟨fun q => CallKind.noConfusion q, fun q => CallKind.noConfusion q⟩ hfr hm
        obtain ⟨x, hx, ι', g, w', u, h2, h3, h4, h5, h7, h6⟩ := explore_sound (ι0 := ι) (cs0 := cs) (s := ⟨fr, [], S⟩) ok n ⟨ι, _, [], w, rfl, h1, rfl, hI, hg⟩ hl
        unfold mergeA at e
        split at e
        · cases e
        · rename_i v1 S1 l1
          split at e
          · rename_i hq
            cases e
            rw [Bool.and_eq_true] at hq
            have hag : x.1 = v ∧ x.2.next = S1.next ∧ ∀ b, b < S.next → x.2.get b = S1.get b := by
              rcases List.mem_cons.1 hx with rfl | hx
              · exact ⟨rfl, rfl, fun _ _ => rfl⟩
              · exact agree_sound hq.2 x hx
            rw [hag.1] at h5
            exact ⟨.returned u, w', g, ⟨ι', u, rfl, h5, h7, h6.keepTo S.next hag.2.1.symm hag.2.2⟩, h2, h3, h4⟩
          · cases e
      · cases hs
    · cases e
  · cases e
end
end Go.Am
