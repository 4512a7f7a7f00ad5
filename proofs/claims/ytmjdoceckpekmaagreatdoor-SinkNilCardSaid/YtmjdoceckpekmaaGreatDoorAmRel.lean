import Derived.Test.YtmjdoceckpekmaaGreatDoorAmStep
import Derived.Laws.World
import Derived.Below
set_option linter.unusedSimpArgs false
set_option linter.unusedVariables false
namespace Go.Am

/-! ### trees -/
theorem T.get_one {α : Type} (v : α) : ∀ (d k k' : Nat), k + 1 < 2 ^ d → (T.one v d k).get k' = if k' = k then some v else none := by
  intro d
  induction d with
  | zero => intro k k' h; simp at h
  | succ d ih =>
    intro k k' h
    cases k with
    | zero =>
      cases k' with
      | zero => simp [T.one, T.get]
      | succ k' => simp only [T.one, T.get]; split <;> simp
    | succ k =>
      have h2 : k / 2 + 1 < 2 ^ d := by have : 2 ^ (d + 1) = 2 * 2 ^ d := by rw [Nat.pow_succ]; omega
                                        omega
      rcases Nat.mod_two_eq_zero_or_one k with e | e <;> simp only [T.one, e]
      · cases k' with
        | zero => simp [T.get]
        | succ k' =>
          rcases Nat.mod_two_eq_zero_or_one k' with e' | e' <;> simp only [T.get, e']
          · rw [ih _ _ h2]; congr 1; apply propext; constructor <;> intro h <;> omega
          · rw [if_neg (by omega)]
      · cases k' with
        | zero => simp [T.get]
        | succ k' =>
          rcases Nat.mod_two_eq_zero_or_one k' with e' | e' <;> simp only [T.get, e']
          · rw [if_neg (by omega)]
          · rw [ih _ _ h2]; congr 1; apply propext; constructor <;> intro h <;> omega

theorem T.get_set {α : Type} (v : α) : ∀ (d : Nat) (t : T α) (k k' : Nat), k + 1 < 2 ^ d → (T.set v d t k).get k' = if k' = k then some v else t.get k' := by
  intro d
  induction d with
  | zero => intro t k k' h; simp at h
  | succ d ih =>
    intro t k k' h
    cases t with
    | e => rw [T.set, T.get_one v _ _ _ h]; simp [T.get]
    | n u l r =>
      cases k with
      | zero =>
        cases k' with
        | zero => simp [T.set, T.get]
        | succ k' => simp [T.set, T.get]
      | succ k =>
        have h2 : k / 2 + 1 < 2 ^ d := by have : 2 ^ (d + 1) = 2 * 2 ^ d := by rw [Nat.pow_succ]; omega
                                          omega
        rcases Nat.mod_two_eq_zero_or_one k with e | e <;> simp only [T.set, e]
        · cases k' with
          | zero => simp [T.get]
          | succ k' =>
            rcases Nat.mod_two_eq_zero_or_one k' with e' | e' <;> simp only [T.get, e']
            · rw [ih _ _ _ h2]; congr 1; apply propext; constructor <;> intro h <;> omega
            · rw [if_neg (by omega)]
        · cases k' with
          | zero => simp [T.get]
          | succ k' =>
            rcases Nat.mod_two_eq_zero_or_one k' with e' | e' <;> simp only [T.get, e']
            · rw [if_neg (by omega)]
            · rw [ih _ _ _ h2]; congr 1; apply propext; constructor <;> intro h <;> omega

theorem T.get_put {α : Type} (t : T α) (k k' : Nat) (v : α) : (t.put k v).get k' = if k' = k then some v else t.get k' :=
  T.get_set v _ t k k' (Nat.lt_two_pow_self)

theorem T.get_ofList {α : Type} : ∀ (l : List α) (k : Nat) (t : T α) (j : Nat), (T.ofList l k t).get j = if k ≤ j ∧ j < k + l.length then l[j - k]? else t.get j := by
  intro l
  induction l with
  | nil => intro k t j; simp only [T.ofList, List.length_nil]; rw [if_neg (by omega)]
  | cons v l ih =>
    intro k t j
    simp only [T.ofList, List.length_cons]
    rw [ih, T.get_put]
    by_cases h1 : j = k
    · subst h1; rw [if_neg (by omega), if_pos rfl, if_pos (by omega)]; simp
    · by_cases h2 : k + 1 ≤ j ∧ j < k + 1 + l.length
      · rw [if_pos h2, if_pos (by omega)]
        obtain ⟨m, rfl⟩ : ∃ m, j = k + 1 + m := ⟨j - (k + 1), by omega⟩
        have : k + 1 + m - k = m + 1 := by omega
        rw [this]; simp
      · rw [if_neg h2, if_neg h1, if_neg (by omega)]

theorem nth_eq {α : Type} : ∀ (l : List α) (n : Nat), nth l n = l[n]? := by
  intro l
  induction l with
  | nil => intro n; simp [nth]
  | cons x l ih => intro n; cases n <;> simp [nth, ih]

/-! ### values -/
/-- Where an abstract block lies: its block, its first cell, and for how many cells there is room. -/
structure Info where
  blk : Nat
  off : Nat
  room : Nat

abbrev Emb := Nat → Option Info

def FnR (ι : Emb) : Fn → Fn → Prop
  | .func f, g => g = .func f
  | .yield l, g => ∃ i, ι l = some i ∧ i.off = 0 ∧ g = .yield i.blk
  | _, _ => False

def SR (i : Info) (a : Addr) (n c : Nat) (v : Value) : Prop :=
  match a.spot with
  | none => v = .slice (some ⟨i.blk, i.off + a.off, none⟩) n c
  | some 0 => ∃ c', v = .slice (some ⟨i.blk, i.off + a.off, none⟩) n c' ∧ n ≤ c' ∧ a.off + c' * c ≤ i.room
  | some _ => n = 0 ∧ ∃ o c', v = .slice (some ⟨i.blk, o, none⟩) 0 c'

mutual
/-- An abstract value, and the value that it stands for. -/
def VR (ι : Emb) : Value → Value → Prop
  | .bool b, v => v = .bool b
  | .int k n, v => v = .int k n
  | .float k b, v => v = .float k b
  | .complex k a b, v => v = .complex k a b
  | .string s, v => v = .string s
  | .pointer none, v => v = .pointer none
  | .pointer (some a), v => ∃ i, ι a.block = some i ∧ a.spot = none ∧ v = .pointer (some ⟨i.blk, i.off + a.off, none⟩)
  | .slice none n c, v => v = .slice none n c
  | .slice (some a) n c, v => ∃ i, ι a.block = some i ∧ SR i a n c v
  | .map none, v => v = .map none
  | .map (some r), v => ∃ i, ι r = some i ∧ i.off = 0 ∧ v = .map (some i.blk)
  | .chan _, _ => False
  | .func f x y, v => ∃ f' x' y', v = .func f' x' y' ∧ FnR ι f f' ∧ VRA ι x x' ∧ VRA ι y y'
  | .nilFunc, v => v = .nilFunc
  | .iface t u, v => ∃ u', v = .iface t u' ∧ VR ι u u'
  | .nilIface, v => v = .nilIface
  | .agg cs, v => ∃ cs', v = .agg cs' ∧ VRA ι cs cs'
  | .tuple cs, v => ∃ cs', v = .tuple cs' ∧ VRA ι cs cs'
def VRA (ι : Emb) : Array Value → Array Value → Prop
  | ⟨l⟩, a => VRL ι l a.toList
def VRL (ι : Emb) : List Value → List Value → Prop
  | [], l => l = []
  | v :: vs, l => ∃ u us, l = u :: us ∧ VR ι v u ∧ VRL ι vs us
end

def Ext (ι ι' : Emb) : Prop := ∀ b i, ι b = some i → ι' b = some i
theorem Ext.refl (ι : Emb) : Ext ι ι := fun _ _ h => h
theorem Ext.trans {a b c : Emb} (h : Ext a b) (k : Ext b c) : Ext a c := fun x i e => k x i (h x i e)

theorem FnR.ext {ι ι' : Emb} (h : Ext ι ι') : ∀ {f g}, FnR ι f g → FnR ι' f g
  | .func _, _, e => e
  | .yield _, _, ⟨i, e, r⟩ => ⟨i, h _ _ e, r⟩

mutual
theorem VR.ext {ι ι' : Emb} (h : Ext ι ι') : ∀ (v u : Value), VR ι v u → VR ι' v u
  | .bool _, _, e => e
  | .int _ _, _, e => e
  | .float _ _, _, e => e
  | .complex _ _ _, _, e => e
  | .string _, _, e => e
  | .pointer none, _, e => e
  | .pointer (some _), _, ⟨i, e, r⟩ => ⟨i, h _ _ e, r⟩
  | .slice none _ _, _, e => e
  | .slice (some _) _ _, _, ⟨i, e, r⟩ => ⟨i, h _ _ e, r⟩
  | .map none, _, e => e
  | .map (some _), _, ⟨i, e, r⟩ => ⟨i, h _ _ e, r⟩
  | .chan _, _, e => e
  | .func _ x y, _, ⟨f', x', y', e, a, b, c⟩ => ⟨f', x', y', e, a.ext h, VRA.ext h x x' b, VRA.ext h y y' c⟩
  | .nilFunc, _, e => e
  | .iface _ v, _, ⟨u', e, r⟩ => ⟨u', e, VR.ext h v u' r⟩
  | .nilIface, _, e => e
  | .agg cs, _, ⟨cs', e, r⟩ => ⟨cs', e, VRA.ext h cs cs' r⟩
  | .tuple cs, _, ⟨cs', e, r⟩ => ⟨cs', e, VRA.ext h cs cs' r⟩
theorem VRA.ext {ι ι' : Emb} (h : Ext ι ι') : ∀ (v u : Array Value), VRA ι v u → VRA ι' v u
  | ⟨l⟩, a, e => VRL.ext h l a.toList e
theorem VRL.ext {ι ι' : Emb} (h : Ext ι ι') : ∀ (v u : List Value), VRL ι v u → VRL ι' v u
  | [], _, e => e
  | v :: vs, _, ⟨u, us, e, a, b⟩ => ⟨u, us, e, VR.ext h v u a, VRL.ext h vs us b⟩
end

mutual
theorem VR.plain {ι : Emb} : ∀ (v u : Value), VR ι v u → plain v = true → u = v
  | .bool _, _, e, _ => e
  | .int _ _, _, e, _ => e
  | .float _ _, _, e, _ => e
  | .complex _ _ _, _, e, _ => e
  | .string _, _, e, _ => e
  | .pointer none, _, e, _ => e
  | .pointer (some _), _, _, p => by simp [Am.plain] at p
  | .slice none _ _, _, e, _ => e
  | .slice (some _) _ _, _, _, p => by simp [Am.plain] at p
  | .map none, _, e, _ => e
  | .map (some _), _, _, p => by simp [Am.plain] at p
  | .chan _, _, _, p => by simp [Am.plain] at p
  | .func (.func f) x y, _, ⟨f', x', y', e, a, b, c⟩, p => by
    simp only [Am.plain, Bool.and_eq_true] at p
    rw [VRA.plain x x' b p.1, VRA.plain y y' c p.2, show f' = .func f from a] at e
    exact e
  | .func (.method _) _ _, _, _, p => by simp [Am.plain] at p
  | .func (.methodOf _ _) _ _, _, _, p => by simp [Am.plain] at p
  | .func (.via _ _ _ _) _ _, _, _, p => by simp [Am.plain] at p
  | .func (.yield _) _ _, _, _, p => by simp [Am.plain] at p
  | .nilFunc, _, e, _ => e
  | .iface _ v, _, ⟨u', e, r⟩, p => by rw [VR.plain v u' r (by simpa [Am.plain] using p)] at e; exact e
  | .nilIface, _, e, _ => e
  | .agg cs, _, ⟨cs', e, r⟩, p => by rw [VRA.plain cs cs' r (by simpa [Am.plain] using p)] at e; exact e
  | .tuple cs, _, ⟨cs', e, r⟩, p => by rw [VRA.plain cs cs' r (by simpa [Am.plain] using p)] at e; exact e
theorem VRA.plain {ι : Emb} : ∀ (v u : Array Value), VRA ι v u → plainA v = true → u = v
  | ⟨l⟩, ⟨m⟩, e, p => by
    have := VRL.plain l m e (by simpa [plainA] using p)
    rw [this]
theorem VRL.plain {ι : Emb} : ∀ (v u : List Value), VRL ι v u → plainL v = true → u = v
  | [], _, e, _ => e
  | v :: vs, _, ⟨u, us, e, a, b⟩, p => by
    simp only [plainL, Bool.and_eq_true] at p
    rw [VR.plain v u a p.1, VRL.plain vs us b p.2] at e
    exact e
end

mutual
theorem VR.of_plain {ι : Emb} : ∀ (v : Value), plain v = true → VR ι v v
  | .bool _, _ => rfl
  | .int _ _, _ => rfl
  | .float _ _, p => rfl
  | .complex _ _ _, _ => rfl
  | .string _, _ => rfl
  | .pointer none, _ => rfl
  | .pointer (some _), p => by simp [Am.plain] at p
  | .slice none _ _, _ => rfl
  | .slice (some _) _ _, p => by simp [Am.plain] at p
  | .map none, _ => rfl
  | .map (some _), p => by simp [Am.plain] at p
  | .chan _, p => by simp [Am.plain] at p
  | .func (.func f) x y, p => by
    simp only [Am.plain, Bool.and_eq_true] at p
    exact ⟨_, _, _, rfl, rfl, VRA.of_plain x p.1, VRA.of_plain y p.2⟩
  | .func (.method _) _ _, p => by simp [Am.plain] at p
  | .func (.methodOf _ _) _ _, p => by simp [Am.plain] at p
  | .func (.via _ _ _ _) _ _, p => by simp [Am.plain] at p
  | .func (.yield _) _ _, p => by simp [Am.plain] at p
  | .nilFunc, _ => rfl
  | .iface _ v, p => ⟨_, rfl, VR.of_plain v (by simpa [Am.plain] using p)⟩
  | .nilIface, _ => rfl
  | .agg cs, p => ⟨_, rfl, VRA.of_plain cs (by simpa [Am.plain] using p)⟩
  | .tuple cs, p => ⟨_, rfl, VRA.of_plain cs (by simpa [Am.plain] using p)⟩
theorem VRA.of_plain {ι : Emb} : ∀ (v : Array Value), plainA v = true → VRA ι v v
  | ⟨l⟩, p => VRL.of_plain l (by simpa [plainA] using p)
theorem VRL.of_plain {ι : Emb} : ∀ (v : List Value), plainL v = true → VRL ι v v
  | [], _ => rfl
  | v :: vs, p => by
    simp only [plainL, Bool.and_eq_true] at p
    exact ⟨v, vs, rfl, VR.of_plain v p.1, VRL.of_plain vs p.2⟩
end

/-! ### lists of values -/
theorem VRL.nil {ι : Emb} : VRL ι [] [] := by simp [VRL]
theorem VRL.cons {ι : Emb} {v u : Value} {l m : List Value} (h : VR ι v u) (k : VRL ι l m) : VRL ι (v :: l) (u :: m) := ⟨u, m, rfl, h, k⟩
theorem VRL.cons_inv {ι : Emb} {v : Value} {l m : List Value} (h : VRL ι (v :: l) m) : ∃ u us, m = u :: us ∧ VR ι v u ∧ VRL ι l us := h
theorem VRL.length {ι : Emb} : ∀ {l m : List Value}, VRL ι l m → m.length = l.length
  | [], _, e => by rw [show _ = [] from e]
  | _ :: _, _, ⟨_, _, e, _, b⟩ => by rw [e]; simp [b.length]
theorem VRL.append {ι : Emb} : ∀ {l m l' m' : List Value}, VRL ι l m → VRL ι l' m' → VRL ι (l ++ l') (m ++ m')
  | [], _, _, _, e, h => by rw [show _ = [] from e]; exact h
  | _ :: _, _, _, _, ⟨_, _, e, a, b⟩, h => by rw [e]; exact ⟨_, _, rfl, a, b.append h⟩
theorem VRL.get {ι : Emb} : ∀ {l m : List Value} {n : Nat} {v : Value}, VRL ι l m → l[n]? = some v → ∃ u, m[n]? = some u ∧ VR ι v u
  | [], _, _, _, _, h => by simp at h
  | x :: l, _, n, v, ⟨u, us, e, a, b⟩, h => by
    cases n with
    | zero => simp at h; subst h; exact ⟨u, by simp [e], a⟩
    | succ n => simp at h; obtain ⟨w, hw, r⟩ := b.get h; exact ⟨w, by simp [e, hw], r⟩
theorem VRL.take {ι : Emb} : ∀ {l m : List Value} (n : Nat), VRL ι l m → VRL ι (l.take n) (m.take n)
  | [], _, _, e => by rw [show _ = [] from e]; simp [VRL]
  | _ :: _, _, n, ⟨_, _, e, a, b⟩ => by
    cases n with
    | zero => simp [VRL]
    | succ n => rw [e]; exact ⟨_, _, rfl, a, b.take n⟩
theorem VRL.drop {ι : Emb} : ∀ {l m : List Value} (n : Nat), VRL ι l m → VRL ι (l.drop n) (m.drop n)
  | [], _, _, e => by rw [show _ = [] from e]; simp [VRL]
  | _ :: _, _, n, ⟨_, _, e, a, b⟩ => by
    cases n with
    | zero => rw [e]; exact ⟨_, _, rfl, a, b⟩
    | succ n => rw [e]; exact b.drop n
theorem VRL.set {ι : Emb} : ∀ {l m : List Value} (n : Nat) {v u : Value}, VRL ι l m → VR ι v u → VRL ι (l.set n v) (m.set n u)
  | [], _, _, _, _, e, _ => by rw [show _ = [] from e]; exact VRL.nil
  | _ :: _, _, n, _, _, ⟨_, _, e, a, b⟩, h => by
    cases n with
    | zero => rw [e]; exact ⟨_, _, rfl, h, b⟩
    | succ n => rw [e]; exact ⟨_, _, rfl, a, b.set n h⟩
theorem VRA.iff {ι : Emb} {a b : Array Value} : VRA ι a b ↔ VRL ι a.toList b.toList := by cases a; exact Iff.rfl
theorem VRA.append {ι : Emb} {a b c d : Array Value} (h : VRA ι a b) (k : VRA ι c d) : VRA ι (a ++ c) (b ++ d) := by
  rw [VRA.iff] at *; simpa using h.append k
theorem VR.bool {ι : Emb} {b : Bool} {u : Value} (h : VR ι (.bool b) u) : u = .bool b := h
theorem VR.int {ι : Emb} {k : IntKind} {n : Int} {u : Value} (h : VR ι (.int k n) u) : u = .int k n := h
theorem VR.string {ι : Emb} {s : ByteArray} {u : Value} (h : VR ι (.string s) u) : u = .string s := h

theorem VR.cellsL {ι : Emb} : ∀ {v u : Value}, VR ι v u → VRL ι (cellsL v) u.cells.toList
  | .bool _, _, e => by rw [show _ = _ from e]; exact ⟨_, _, rfl, rfl, rfl⟩
  | .int _ _, _, e => by rw [show _ = _ from e]; exact ⟨_, _, rfl, rfl, rfl⟩
  | .float _ _, _, e => by rw [show _ = _ from e]; exact ⟨_, _, rfl, rfl, rfl⟩
  | .complex _ _ _, _, e => by rw [show _ = _ from e]; exact ⟨_, _, rfl, rfl, rfl⟩
  | .string _, _, e => by rw [show _ = _ from e]; exact ⟨_, _, rfl, rfl, rfl⟩
  | .pointer none, _, e => by rw [show _ = _ from e]; exact ⟨_, _, rfl, rfl, rfl⟩
  | .pointer (some _), _, ⟨i, e, r, q⟩ => by rw [q]; exact ⟨_, _, rfl, ⟨i, e, r, rfl⟩, rfl⟩
  | .slice none _ _, _, e => by rw [show _ = _ from e]; exact ⟨_, _, rfl, rfl, rfl⟩
  | .slice (some a) n c, u, ⟨i, e, r⟩ => by
    have : ∃ x y z, u = .slice x y z := by
      unfold SR at r; split at r
      · exact ⟨_, _, _, r⟩
      · obtain ⟨c', h, _⟩ := r; exact ⟨_, _, _, h⟩
      · obtain ⟨_, o, c', h⟩ := r; exact ⟨_, _, _, h⟩
    obtain ⟨x, y, z, rfl⟩ := this
    exact ⟨_, _, rfl, ⟨i, e, r⟩, rfl⟩
  | .map none, _, e => by rw [show _ = _ from e]; exact ⟨_, _, rfl, rfl, rfl⟩
  | .map (some _), _, ⟨i, e, r, q⟩ => by rw [q]; exact ⟨_, _, rfl, ⟨i, e, r, rfl⟩, rfl⟩
  | .func _ x y, _, ⟨f', x', y', e, a, b, c⟩ => by rw [e]; exact ⟨_, _, rfl, ⟨_, _, _, rfl, a, b, c⟩, rfl⟩
  | .nilFunc, _, e => by rw [show _ = _ from e]; exact ⟨_, _, rfl, rfl, rfl⟩
  | .iface _ v, _, ⟨u', e, r⟩ => by rw [e]; exact ⟨_, _, rfl, ⟨_, rfl, r⟩, rfl⟩
  | .nilIface, _, e => by rw [show _ = _ from e]; exact ⟨_, _, rfl, rfl, rfl⟩
  | .agg ⟨l⟩, _, ⟨cs', e, r⟩ => by rw [e]; exact VRA.iff.1 r
  | .tuple cs, _, ⟨cs', e, r⟩ => by rw [e]; exact ⟨_, _, rfl, ⟨_, rfl, r⟩, rfl⟩

end Go.Am
