import Derived.Test.YtmjdoceckpekmaaGreatDoorAmEnd
set_option linter.unusedSimpArgs false
set_option linter.unusedVariables false
namespace Go.Am

def treeOf {α : Type} (l : List α) : T α := T.ofList l 0 .e

def mapT {α β : Type} (o : Option α) (f : α → Option β) : Option β := match o with
  | some x => f x
  | none => none

def plainZ (o : Option Value) : Option Value := match o with
  | some v => match plain v with
    | true => some v
    | false => none
  | none => none

def undL (P : Program) : List (Option TypeDesc) := (List.range P.types.size).map P.underlying

/-- A program's tables in trees. -/
def envOf (P : Program) (nat ext : Nat → Option Native) : Env :=
  { P := P, fn := (treeOf P.funcs.toList).get, und := fun t => mapT ((treeOf (undL P)).get t) id, siz := fun t => mapT ((treeOf P.types.toList).get t) fun i => some i.size,
    zer := fun t => mapT ((treeOf P.types.toList).get t) fun i => plainZ i.zero, byt := fun t => mapT ((treeOf P.types.toList).get t) fun i => some i.bytes, glob := 0, nat, ext }

def structsOk (n : Nat) : List (Option TypeDesc) → Bool
  | [] => true
  | some (.struct fs) :: l => fs.toList.all (fun f => Nat.blt f.type n) && structsOk n l
  | _ :: l => structsOk n l

def namesOk (l : List Func) : Bool := l.all fun f => !(f.name == "runtime.NumGoroutine")

theorem get_treeOf {α : Type} (l : List α) (k : Nat) : (treeOf l).get k = l[k]? := by
  unfold treeOf
  rw [T.get_ofList]
  split
  · rfl
  · rename_i h
    rw [List.getElem?_eq_none (by omega)]
    simp [T.get]

theorem structsOk_spec {n : Nat} : ∀ {l : List (Option TypeDesc)}, structsOk n l = true → ∀ fs, some (TypeDesc.struct fs) ∈ l → ∀ f ∈ fs.toList, f.type < n := by
  intro l
  induction l with
  | nil => intro _ fs h; simp at h
  | cons x l ih =>
    intro h fs hm f hf
    unfold structsOk at h
    split at h
    · rename_i hl; cases hl
    · rename_i gs l' hl
      cases hl
      rw [Bool.and_eq_true, List.all_eq_true] at h
      rcases List.mem_cons.1 hm with hm | hm
      · cases hm; exact Nat.le_of_ble_eq_true (h.1 f hf)
      · exact ih h.2 fs hm f hf
    · rename_i y l' hne hl
      cases hl
      rcases List.mem_cons.1 hm with hm | hm
      · exact absurd hm.symm (hne fs)
      · exact ih h fs hm f hf

theorem info_of {P : Program} {t : TypeId} {i : TypeInfo} (h : P.types.toList[t]? = some i) : P.info? t = some i := by
  have h' : P.types[t]? = some i := by simpa using h
  have hlt : t < P.types.size := (Array.getElem?_eq_some_iff.1 h').1
  show (if t < P.types.size then P.types[t]? else _) = some i
  rw [if_pos hlt, h']

theorem tab_of {P : Program} {nat ext : Nat → Option Native} (h1 : structsOk P.types.size (undL P) = true) (h2 : namesOk P.funcs.toList = true) (h3 : P.follows .mixedOrders = true) : (envOf P nat ext).Tab where
  und := by
    intro t d h
    simp only [envOf, get_treeOf, undL, mapT] at h
    split at h
    · rename_i x hx
      simp only [id] at h; subst h
      rw [List.getElem?_map, Option.map_eq_some_iff] at hx
      obtain ⟨k, hk, hd⟩ := hx
      rw [List.getElem?_range] at hk
      · cases hk; exact hd
      · rcases Nat.lt_or_ge t P.types.size with q | q
        · exact q
        · rw [List.getElem?_eq_none (by simpa using q)] at hk; cases hk
    · cases h
  siz := by
    intro t n h
    simp only [envOf, get_treeOf, mapT] at h
    split at h
    · rename_i i hi; cases h; exact ⟨i, info_of hi, rfl⟩
    · cases h
  zer := by
    intro t v h
    simp only [envOf, get_treeOf, mapT] at h
    split at h
    · rename_i i hi
      unfold plainZ at h
      split at h
      · rename_i z hz
        split at h
        · rename_i hp; cases h; exact ⟨⟨i, info_of hi, hz⟩, hp⟩
        · cases h
      · cases h
    · cases h
  byt := by
    intro t n h
    simp only [envOf, get_treeOf, mapT] at h
    split at h
    · rename_i i hi; cases h; exact ⟨i, info_of hi, rfl⟩
    · cases h
  flds := by
    intro t fs h f hf
    simp only [envOf, get_treeOf, mapT] at h ⊢
    split at h
    · rename_i x hx
      simp only [id] at h; subst h
      have := structsOk_spec h1 fs (List.mem_of_getElem? hx) f hf
      have hg : P.types.toList[f.type]? = some P.types[f.type] := by simp [this]
      rw [hg]
      exact ⟨_, rfl⟩
    · cases h
  fn := by
    intro f g h
    simp only [envOf, get_treeOf] at h
    refine ⟨(by simpa using h : P.funcs[f]? = some g), ?_⟩
    have := List.all_eq_true.1 h2 g (List.mem_of_getElem? h)
    simpa using this
  follows := h3
end Go.Am
