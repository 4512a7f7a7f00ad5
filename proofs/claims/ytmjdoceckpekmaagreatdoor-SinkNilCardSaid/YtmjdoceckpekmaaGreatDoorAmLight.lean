import Derived.Test.YtmjdoceckpekmaaGreatDoorAmTab
import Derived.Laws.Strings
set_option linter.unusedSimpArgs false
set_option linter.unusedVariables false
namespace Go.Am

theorem intEq_eq (a b : Int) : intEq a b = (a == b) := by
  cases a <;> cases b <;> simp only [intEq]
  · rename_i m n; rw [Bool.eq_iff_iff]; simp only [Nat.beq_eq, beq_iff_eq, Int.ofNat_eq_natCast]; omega
  · simp
  · simp
  · rename_i m n; rw [Bool.eq_iff_iff]; simp [Nat.beq_eq]

theorem intLt_eq (a b : Int) : intLt a b = decide (a < b) := by
  cases a <;> cases b <;> simp only [intLt]
  · rename_i m n
    rw [Bool.eq_iff_iff]; simp only [decide_eq_true_eq, Nat.blt_eq, Int.ofNat_eq_natCast]; omega
  · rename_i m n; symm; simp only [decide_eq_false_iff_not, Int.ofNat_eq_natCast]; omega
  · rename_i m n; symm; simp only [decide_eq_true_eq, Int.ofNat_eq_natCast]; omega
  · rename_i m n
    rw [Bool.eq_iff_iff]; simp only [decide_eq_true_eq, Nat.blt_eq]; omega

theorem wrapA_eq (k : IntKind) (n : Int) : wrapA k n = k.wrap n := by
  unfold wrapA
  split
  · rename_i m; split
    · rename_i h; have h := Nat.le_of_ble_eq_true h; simp [IntKind.wrap, IntKind.bits, IntKind.signed]; omega
    · rfl
  · rename_i m; split
    · rename_i h; have h := Nat.le_of_ble_eq_true h; simp [IntKind.wrap, IntKind.bits, IntKind.signed]; omega
    · rfl
  · rename_i m; split
    · rename_i h; have h := Nat.le_of_ble_eq_true h; simp [IntKind.wrap, IntKind.bits, IntKind.signed]; omega
    · rfl
  · rename_i m; split
    · rename_i h; have h := Nat.le_of_ble_eq_true h; simp [IntKind.wrap, IntKind.bits, IntKind.signed]; omega
    · rfl
  · rfl

theorem kindEq_eq {k l : IntKind} (h : kindEq k l = true) : k = l := by cases k <;> cases l <;> simp [kindEq] at h <;> rfl

theorem bytesEq_eq : ∀ (a b : List UInt8), bytesEq a b = (a == b) := by
  intro a; induction a with
  | nil => intro b; cases b <;> simp [bytesEq]
  | cons x l ih =>
    intro b; cases b with
    | nil => simp [bytesEq]
    | cons y m =>
      simp only [bytesEq]
      split
      · rename_i h
        have : x = y := UInt8.toNat_inj.1 (Nat.eq_of_beq_eq_true h)
        subst this; rw [ih]; simp
      · rename_i h
        have : x ≠ y := by rintro rfl; simp at h
        simp [this]

theorem append_mk (a b : List UInt8) : ((⟨⟨a⟩⟩ : ByteArray) ++ ⟨⟨b⟩⟩) = ⟨⟨a ++ b⟩⟩ := by
  apply ByteArray.ext
  simp

theorem pureV_run {P : Program} {s : Sem Value} {v : Value} (h : pureV P s = some v) : plain v = true ∧ ∀ w, s.run P w = .ok v w := by
  unfold pureV at h
  split at h
  · rename_i u hu
    split at h
    · rename_i hp; cases h; exact ⟨hp, pureRun_run s hu⟩
    · cases h
  · cases h

/-- What is said of each. -/
abbrev Gives (E : Env) (ι : Emb) (v : Value) (s : Sem Next) (w : World) : Prop := ∃ u, s.run E.P w = .ok (.value u) w ∧ VR ι v u

theorem gives_of {E : Env} {ι : Emb} {w : World} {v u : Value} {s : Sem Value} (h : s.run E.P w = .ok u w) (r : VR ι v u) : Gives E ι v (do pure (.value (← s))) w :=
  ⟨u, by rw [andThen_bind h]; rfl, r⟩

section
variable {E : Env} {ι : Emb} {w : World}

theorem intBin_sound {op : BinOp} {k : IntKind} {x y : Int} (t : TypeId) {v : Value} (e : intBin E.P op k x y = some v) (h1 : op ≠ .shl) (h2 : op ≠ .shr) : VR ι v v ∧ (binOp op t (.int k x) (.int k y)).run E.P w = .ok v w := by
  unfold intBin at e
  split at e
  all_goals first
    | (cases e
       refine ⟨rfl, ?_⟩
       simp only [binOp, ne_eq, not_true_eq_false, if_false, Op.intCmp, Op.intArith, intEq_eq, intLt_eq, wrapA_eq]
       first
         | rfl
         | (simp only [← Int.not_lt, decide_not]; rfl)
         | (have : (!decide (x < y)) = decide (x ≥ y) := by rw [← decide_not]; congr 1; apply propext; omega
            rw [this]; rfl)
         | (have : (!decide (y < x)) = decide (x ≤ y) := by rw [← decide_not]; congr 1; apply propext; omega
            rw [this]; rfl))
    | skip
  rename_i op' _ _ _ _ _ _ _ _ _
  obtain ⟨p, r⟩ := pureV_run e
  refine ⟨VR.of_plain v p, ?_⟩
  rw [← r w]
  cases op <;> first | rfl | (exact absurd rfl h1) | (exact absurd rfl h2)

theorem eqGuard_skip {op : BinOp} {t : TypeId} {x y : Operand} {u v : Value} (h1 : u ≠ .nilIface ∨ v ≠ .nilIface) (h2 : (∀ c, u ≠ .agg c) ∨ (∀ c, v ≠ .agg c)) : (eqGuard op t x y u v).run E.P w = .ok () w := by
  cases op <;> first
    | rfl
    | (cases u <;> cases v <;> first
        | rfl
        | (rcases h1 with h | h <;> exact absurd rfl h)
        | (rcases h2 with h | h <;> exact absurd rfl (h _)))

theorem VR.slice_some {a : Addr} {n c : Nat} {u : Value} (h : VR ι (.slice (some a) n c) u) : ∃ a' c', u = .slice (some a') n c' := by
  obtain ⟨i, _, r⟩ := h
  unfold SR at r
  split at r
  · exact ⟨_, _, r⟩
  · obtain ⟨c', h, _⟩ := r; exact ⟨_, _, h⟩
  · obtain ⟨rfl, o, c', h⟩ := r; exact ⟨_, _, h⟩

theorem nilEq_sound (ok : E.Tab) {op : BinOp} {t : TypeId} {x y u v r : Value} {ox oy : Operand} (e : nilEq E op t x y = some r) (hx : VR ι x u) (hy : VR ι y v) :
    VR ι r r ∧ (do eqGuard op t ox oy u v; binOp op t u v : Sem Value).run E.P w = .ok r w := by
  unfold nilEq at e
  split at e
  · rename_i hm
    have key : (Op.equal t u v).run E.P w = .ok false w ∧ ((u ≠ .nilIface ∨ v ≠ .nilIface) ∧ ((∀ c, u ≠ .agg c) ∨ (∀ c, v ≠ .agg c))) ∧
        (∀ z, (do pure (.bool (← Op.equal t u v)) : Sem Value).run E.P w = .ok z w → (binOp .eql t u v).run E.P w = .ok z w) ∧
        (∀ z, (do pure (.bool (!(← Op.equal t u v))) : Sem Value).run E.P w = .ok z w → (binOp .neq t u v).run E.P w = .ok z w) := by
      split at hm
      all_goals first
        | (rename_i hu
           first
             | (obtain ⟨_, _, _, rfl⟩ := hx; obtain rfl := hy
                refine ⟨?_, ⟨.inl (by simp), .inl (by simp)⟩, fun z h => h, fun z h => h⟩
                show (Op.equalIn (9999 + 1) _ _ _).run _ _ = _
                unfold Op.equalIn; rw [andThen_bind (runUnd ok hu)]; rfl)
             | (obtain ⟨_, _, _, rfl⟩ := hy; obtain rfl := hx
                refine ⟨?_, ⟨.inl (by simp), .inl (by simp)⟩, fun z h => h, fun z h => h⟩
                show (Op.equalIn (9999 + 1) _ _ _).run _ _ = _
                unfold Op.equalIn; rw [andThen_bind (runUnd ok hu)]; rfl)
             | (obtain ⟨_, _, rfl⟩ := VR.slice_some hx; obtain rfl := hy
                refine ⟨?_, ⟨.inl (by simp), .inl (by simp)⟩, fun z h => h, fun z h => h⟩
                show (Op.equalIn (9999 + 1) _ _ _).run _ _ = _
                unfold Op.equalIn; rw [andThen_bind (runUnd ok hu)]; rfl)
             | (obtain ⟨_, _, _, rfl, _⟩ := hx; obtain rfl := hy
                refine ⟨?_, ⟨.inl (by simp), .inl (by simp)⟩, fun z h => h, fun z h => h⟩
                show (Op.equalIn (9999 + 1) _ _ _).run _ _ = _
                unfold Op.equalIn; rw [andThen_bind (runUnd ok hu)]; rfl)
             | (obtain ⟨_, rfl, _⟩ := hx; obtain rfl := hy
                refine ⟨?_, ⟨.inl (by simp), .inl (by simp)⟩, fun z h => h, fun z h => h⟩
                show (Op.equalIn (9999 + 1) _ _ _).run _ _ = _
                unfold Op.equalIn; rw [andThen_bind (runUnd ok hu)]; rfl)
             | (obtain ⟨_, rfl, _⟩ := hy; obtain rfl := hx
                refine ⟨?_, ⟨.inr (by simp), .inl (by simp)⟩, fun z h => h, fun z h => h⟩
                show (Op.equalIn (9999 + 1) _ _ _).run _ _ = _
                unfold Op.equalIn; rw [andThen_bind (runUnd ok hu)]; rfl))
        | (cases hm)
    obtain ⟨k1, ⟨k2, k3⟩, k4, k5⟩ := key
    split at e
    · cases e
      refine ⟨rfl, ?_⟩
      rw [andThen_bind (eqGuard_skip k2 k3)]
      exact k4 _ (by rw [andThen_bind k1]; rfl)
    · cases e
      refine ⟨rfl, ?_⟩
      rw [andThen_bind (eqGuard_skip k2 k3)]
      exact k5 _ (by rw [andThen_bind k1]; rfl)
    · cases e
  · cases e

theorem binA_sound (ok : E.Tab) {op : BinOp} {t : TypeId} {x y u v r : Value} {ox oy : Operand} (e : binA E op t ox oy x y = some r) (hx : VR ι x u) (hy : VR ι y v) :
    VR ι r r ∧ (do eqGuard op t ox oy u v; binOp op t u v : Sem Value).run E.P w = .ok r w := by
  unfold binA at e
  split at e
  · obtain rfl := hx; obtain rfl := hy
    rw [andThen_bind (eqGuard_skip (.inl (by simp)) (.inl (by simp)))]
    split at e
    · obtain ⟨p, q⟩ := pureV_run e; exact ⟨VR.of_plain _ p, q w⟩
    · obtain ⟨p, q⟩ := pureV_run e; exact ⟨VR.of_plain _ p, q w⟩
    · rename_i h1 h2
      split at e
      · rename_i hk; obtain rfl := kindEq_eq hk
        exact intBin_sound t e (fun h => h1 h) (fun h => h2 h)
      · cases e
  · obtain rfl := hx; obtain rfl := hy
    rw [andThen_bind (eqGuard_skip (.inl (by simp)) (.inl (by simp)))]
    split at e
    · cases e; refine ⟨rfl, ?_⟩; simp only [binOp, Op.stringOp, ByteArray.toList_mk, bytesEq_eq]; rfl
    · cases e; refine ⟨rfl, ?_⟩; simp only [binOp, Op.stringOp, ByteArray.toList_mk, bytesEq_eq]; rfl
    · split at e
      · rename_i hle
        cases e; refine ⟨rfl, ?_⟩
        have hle := Nat.le_of_ble_eq_true hle
        simp only [binOp, Op.stringOp]
        rw [if_neg (by simp [IntKind.max, IntKind.bits, IntKind.signed, ByteArray.size]; omega)]
        rw [append_mk]; rfl
      · cases e
    · cases e; refine ⟨rfl, ?_⟩; simp only [binOp, Op.stringOp, ByteArray.toList_mk]; rfl
    · cases e; refine ⟨rfl, ?_⟩; simp only [binOp, Op.stringOp, ByteArray.toList_mk]; rfl
    · cases e
  · obtain rfl := hx; obtain rfl := hy
    rw [andThen_bind (eqGuard_skip (.inl (by simp)) (.inl (by simp)))]
    split at e
    · rename_i hu
      cases e; refine ⟨rfl, ?_⟩
      show (do pure (.bool (← Op.equalIn (9999 + 1) t _ _)) : Sem Value).run _ _ = _
      unfold Op.equalIn; simp only [bind_assoc]; rw [andThen_bind (runUnd ok hu)]; rfl
    · rename_i hu
      cases e; refine ⟨rfl, ?_⟩
      show (do pure (.bool (!(← Op.equalIn (9999 + 1) t _ _))) : Sem Value).run _ _ = _
      unfold Op.equalIn; simp only [bind_assoc]; rw [andThen_bind (runUnd ok hu)]; rfl
    · cases e
  · split at e
    · rename_i h; cases e; exact nilEq_sound ok h hx hy
    · split at e
      · rename_i hp
        simp only [Bool.and_eq_true] at hp
        obtain rfl := VR.plain _ _ hx hp.1; obtain rfl := VR.plain _ _ hy hp.2
        obtain ⟨p, q⟩ := pureV_run e; exact ⟨VR.of_plain _ p, q w⟩
      · cases e
end
end Go.Am
