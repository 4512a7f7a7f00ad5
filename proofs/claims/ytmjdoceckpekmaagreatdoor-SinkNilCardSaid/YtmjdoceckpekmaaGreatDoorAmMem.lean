import Derived.Test.YtmjdoceckpekmaaGreatDoorAmRel
import Derived.RangeFuncRecord
set_option linter.unusedSimpArgs false
set_option linter.unusedVariables false
namespace Go.Am

/-! ### worlds -/
theorem setCell_putObj {w : World} {b k : Nat} {cs : Array Value} {e : TypeId} {f : Nat × Nat} (h : w.heap[b]? = some (.cells cs e f)) (v : Value) :
    w.setCell ⟨b, k, none⟩ v = w.putObj b (.cells (cs.setIfInBounds k v) e f) := by
  unfold World.setCell World.putObj
  congr 1
  apply Array.ext_getElem?
  intro j
  rw [Array.getElem?_modify, Array.getElem?_setIfInBounds]
  have hb : b < w.heap.size := (Array.getElem?_eq_some_iff.1 h).1
  by_cases hj : b = j
  · subst hj; rw [if_pos rfl, if_pos rfl, h, if_pos hb]; rfl
  · rw [if_neg hj, if_neg hj]

theorem putObj_putObj (w : World) (b : Nat) (o o' : Obj) : (w.putObj b o).putObj b o' = w.putObj b o' := by
  unfold World.putObj; simp

theorem putObj_self {w : World} {b : Nat} {o : Obj} (h : w.heap[b]? = some o) : w.putObj b o = w := by
  unfold World.putObj
  have hb := Array.getElem?_eq_some_iff.1 h
  obtain ⟨hlt, he⟩ := hb
  have : w.heap.setIfInBounds b o = w.heap := by
    apply Array.ext_getElem?; intro j
    rw [Array.getElem?_setIfInBounds]
    by_cases hj : b = j
    · subst hj; simp [hlt, he]
    · simp [hj]
  rw [this]

theorem putObj_size (w : World) (b : Nat) (o : Obj) : (w.putObj b o).heap.size = w.heap.size := by simp [World.putObj]

theorem heap_putObj (w : World) (b : Nat) (o : Obj) (h : b < w.heap.size) (k : Nat) : (w.putObj b o).heap[k]? = if k = b then some o else w.heap[k]? := by
  by_cases e : k = b
  · subst e; rw [if_pos rfl]; exact World.putObj_heap_same h
  · rw [if_neg e]; exact World.putObj_heap_other e

theorem heap_alloc (w : World) (o : Obj) (k : Nat) : (w.alloc o).heap[k]? = if k = w.heap.size then some o else w.heap[k]? := by
  unfold World.alloc
  simp only [Array.getElem?_push]

theorem size_alloc (w : World) (o : Obj) : (w.alloc o).heap.size = w.heap.size + 1 := by unfold World.alloc; exact Array.size_push _

def writeC (cs : Array Value) : Nat → List Value → Array Value
  | _, [] => cs
  | k, v :: l => writeC (cs.setIfInBounds k v) (k + 1) l

theorem writeC_size : ∀ (l : List Value) (cs : Array Value) (k : Nat), (writeC cs k l).size = cs.size := by
  intro l; induction l with
  | nil => intros; rfl
  | cons v l ih => intro cs k; simp [writeC, ih]

theorem writeC_get : ∀ (l : List Value) (cs : Array Value) (k j : Nat), k + l.length ≤ cs.size →
    (writeC cs k l)[j]? = if k ≤ j ∧ j < k + l.length then l[j - k]? else cs[j]? := by
  intro l; induction l with
  | nil => intro cs k j _; simp only [writeC, List.length_nil]; rw [if_neg (by omega)]
  | cons v l ih =>
    intro cs k j h
    simp only [List.length_cons] at h ⊢
    rw [writeC, ih _ _ _ (by simp; omega)]
    by_cases h1 : k + 1 ≤ j ∧ j < k + 1 + l.length
    · rw [if_pos h1, if_pos (by omega)]
      obtain ⟨m, rfl⟩ : ∃ m, j = k + 1 + m := ⟨j - (k + 1), by omega⟩
      rw [show k + 1 + m - k = m + 1 from by omega]; simp
    · rw [if_neg h1, Array.getElem?_setIfInBounds]
      by_cases h2 : k = j
      · subst h2; rw [if_pos rfl, if_pos (by omega), if_pos (by omega)]; simp
      · rw [if_neg h2, if_neg (by omega)]

def Free (f : Nat × Nat) (lo hi : Nat) : Prop := ∀ k, lo ≤ k → k < hi → ¬(f.1 ≤ k ∧ k < f.2)

theorem frozen_free {w : World} {b : Nat} {cs : Array Value} {e : TypeId} {f : Nat × Nat} (h : w.heap[b]? = some (.cells cs e f)) {lo hi k : Nat} (hf : Free f lo hi) (h1 : lo ≤ k) (h2 : k < hi) :
    w.frozen? ⟨b, k, none⟩ = false := by
  have := hf k h1 h2
  obtain ⟨x, y⟩ := f
  simp only [World.frozen?, h]
  simp only [Bool.and_eq_false_iff, decide_eq_false_iff_not]
  simp only at this
  omega

theorem cell_of {w : World} {b : Nat} {cs : Array Value} {e : TypeId} {f : Nat × Nat} (h : w.heap[b]? = some (.cells cs e f)) (k : Nat) : w.cell? ⟨b, k, none⟩ = cs[k]? := by
  simp [World.cell?, h]

theorem addr_add (b o n : Nat) : (⟨b, o, none⟩ : Addr).add n = ⟨b, o + n, none⟩ := by
  unfold Addr.add; split
  · rename_i h; simp [h]
  · rfl

theorem run_load {P : Program} {w : World} {a : Addr} {v : Value} (h : w.cell? a = some v) : (load a).run P w = .ok v w := by
  simp [load, Sem.run, h]

theorem run_store {P : Program} {w : World} {b k : Nat} {cs : Array Value} {e : TypeId} {f : Nat × Nat} {v : Value} (h : w.heap[b]? = some (.cells cs e f)) (hk : k < cs.size)
    (hf : ¬(f.1 ≤ k ∧ k < f.2)) (hv : oneCell v = true) : (store ⟨b, k, none⟩ v).run P w = .ok () (w.putObj b (.cells (cs.setIfInBounds k v) e f)) := by
  have hc : w.cell? ⟨b, k, none⟩ = some cs[k] := by rw [cell_of h]; simp [hk]
  have hz : w.frozen? ⟨b, k, none⟩ = false := frozen_free h (lo := k) (hi := k + 1) (fun j h1 h2 => by rw [show j = k from by omega]; exact hf) (Nat.le_refl _) (by omega)
  cases v <;> simp [oneCell] at hv <;> simp [store, Sem.run, hc, hz, setCell_putObj h]

theorem andThen_bind {α β : Type} {P : Program} {w w' : World} {s : Sem α} {k : α → Sem β} {a : α} (h : s.run P w = .ok a w') : (s >>= k).run P w = (k a).run P w' := by
  rw [Sem.run_bind, h]; rfl

theorem run_storeCells {P : Program} {b : Nat} {e : TypeId} {f : Nat × Nat} {o : Nat} : ∀ (l : List Value) (w : World) (cs : Array Value) (i : Nat), w.heap[b]? = some (.cells cs e f) → o + i + l.length ≤ cs.size → Free f (o + i) (o + i + l.length) → allOne l = true →
    (storeCells ⟨b, o, none⟩ l i).run P w = .ok () (w.putObj b (.cells (writeC cs (o + i) l) e f)) := by
  intro l
  induction l with
  | nil => intro w cs i h _ _ _; simp only [storeCells, writeC]; rw [putObj_self h]; rfl
  | cons v l ih =>
    intro w cs i h hl hf h1
    simp only [List.length_cons] at hl hf
    simp only [allOne] at h1
    split at h1
    · rename_i hv
      have hb : b < w.heap.size := (Array.getElem?_eq_some_iff.1 h).1
      simp only [storeCells, addr_add]
      rw [andThen_bind (run_store h (by omega) (hf _ (by omega) (by omega)) hv)]
      rw [ih _ (cs.setIfInBounds (o + i) v) (i + 1) (by rw [heap_putObj _ _ _ hb, if_pos rfl]) (by simp; omega) (fun k h2 h3 => hf k (by omega) (by omega)) h1]
      rw [putObj_putObj, writeC, Nat.add_assoc]
    · cases h1

theorem run_loadCellsFrom {P : Program} {w : World} {b o : Nat} {cs : Array Value} {e : TypeId} {f : Nat × Nat} (h : w.heap[b]? = some (.cells cs e f)) : ∀ (l : List Value) (i : Nat) (acc : Array Value), (∀ k, k < l.length → cs[o + i + k]? = l[k]?) →
    (loadCellsFrom ⟨b, o, none⟩ i l.length acc).run P w = .ok (acc ++ l.toArray) w := by
  intro l
  induction l with
  | nil => intro i acc _; simp [loadCellsFrom, Sem.run, pure]
  | cons v l ih =>
    intro i acc hk
    simp only [List.length_cons, loadCellsFrom, addr_add]
    have h0 := hk 0 (by simp)
    simp only [Nat.add_zero, List.getElem?_cons_zero] at h0
    rw [andThen_bind (run_load (v := v) (by rw [cell_of h]; exact h0))]
    rw [ih (i + 1) _ (fun k hl => by have := hk (k + 1) (by simp; omega); simp only [List.getElem?_cons_succ] at this; rw [← this]; congr 1; omega)]
    simp

theorem run_loadCells {P : Program} {w : World} {b o : Nat} {cs : Array Value} {e : TypeId} {f : Nat × Nat} (h : w.heap[b]? = some (.cells cs e f)) (l : List Value) (hk : ∀ k, k < l.length → cs[o + k]? = l[k]?) :
    (loadCells ⟨b, o, none⟩ l.length).run P w = .ok l.toArray w := by
  unfold loadCells
  rw [run_loadCellsFrom h l 0 #[] (by simpa using hk)]
  simp

/-! ### what is pure -/
theorem pureRun_run {α : Type} {P : Program} : ∀ (s : Sem α) {a : α}, Sem.pureRun P s = some a → ∀ w, s.run P w = .ok a w := by
  intro s
  induction s with
  | pure x => intro a h w; simp only [Sem.pureRun, Option.some.injEq] at h; subst h; rfl
  | program k ih => intro a h w; simp only [Sem.pureRun] at h; simp only [Sem.run]; exact ih _ h w
  | _ => intro a h w; simp [Sem.pureRun] at h

/-! ### the heap -/
def MR (ι : Emb) : List (Value × Value) → List MapEntry → Prop
  | [], l => l = []
  | (k, v) :: es, l => ∃ e r, l = e :: r ∧ e.key = k ∧ plain k = true ∧ VR ι v e.val ∧ MR ι es r

def TR (ι : Emb) (a : Tm) (ts : Array Value) : Prop := ∀ t v, a.get t = some v → ∃ u, ts[t]? = some u ∧ VR ι v u

def DfR (ι : Emb) : List Deferred → List Deferred → Prop
  | [], l => l = []
  | ⟨.collected b, _⟩ :: ds, l => ∃ i r x, l = ⟨.collected i.blk, x⟩ :: r ∧ ι b = some i ∧ i.off = 0 ∧ DfR ι ds r
  | ⟨.fn (.func f) c, a⟩ :: ds, l => ∃ c' a' r, l = ⟨.fn (.func f) c', a'⟩ :: r ∧ VRA ι c c' ∧ VRA ι a a' ∧ DfR ι ds r
  | _, _ => False

structure LpR (ι : Emb) (l : ALoop) (m : Loop) : Prop where
  state : m.state = l.state
  pending : m.pending = l.pending
  fn : m.fn = l.fn
  n : m.tmps.size = l.n
  tmps : TR ι l.tmps m.tmps
  params : m.params = l.params
  assign : m.assign = l.assign
  body : m.body = l.body
  defers : ∃ i, ι l.defers = some i ∧ i.off = 0 ∧ m.defers = i.blk

def mapTo (ι : Emb) : Option Nat → Option Nat → Prop
  | none, x => x = none
  | some r, x => ∃ i, ι r = some i ∧ i.off = 0 ∧ x = some i.blk

/-- A row: what is read, cell by cell. -/
def Row (ι : Emb) (size : Nat) (c : T Value) (off : Nat) (cs : Array Value) : Prop :=
  ∀ k, k < size → ∃ v u, c.get k = some v ∧ cs[off + k]? = some u ∧ VR ι v u

def ObjR (ι : Emb) (o : AObj) (i : Info) (h : Option Obj) : Prop :=
  match o with
  | .cells size c => ∃ cs e f, h = some (.cells cs e f) ∧ size ≤ i.room ∧ i.off + i.room ≤ cs.size ∧ Free f i.off (i.off + i.room) ∧ Row ι size c i.off cs
  | .con size c => ∃ cs e f, h = some (.cells cs e f) ∧ Row ι size c i.off cs
  | .map es bs clock => ∃ en, h = some (.map en clock) ∧ i.off = 0 ∧ MR ι es en.toList ∧ en.toList.map (·.born) = bs
  | .iter m since seen last => ∃ m', h = some (.mapIter m' since seen.toArray last) ∧ i.off = 0 ∧ mapTo ι m m'
  | .loop l => ∃ m, h = some (.loop m) ∧ i.off = 0 ∧ LpR ι l m
  | .deferred none => h = some (.deferred none) ∧ i.off = 0
  | .deferred (some ds) => ∃ ds', h = some (.deferred (some ds')) ∧ i.off = 0 ∧ DfR ι ds ds'
  | .dead => True

def AObj.live : AObj → Bool
  | .dead => false
  | _ => true
def AObj.mine : AObj → Bool
  | .dead | .con _ _ => false
  | _ => true

/-- An abstract heap, and the world that it stands for: of w0's blocks below 'base' nothing has turned. -/
structure Inv (ι : Emb) (S : Hp) (w0 w : World) (base : Nat) : Prop where
  dom : ∀ b, S.next ≤ b → ι b = none
  fresh : ∀ b, S.next ≤ b → S.get b = none
  rng : ∀ b i, ι b = some i → i.blk < w.heap.size
  obj : ∀ b o, S.get b = some o → ∃ i, ι b = some i ∧ ObjR ι o i w.heap[i.blk]?
  inj : ∀ b c o p i j, S.get b = some o → S.get c = some p → o.live = true → p.live = true → ι b = some i → ι c = some j → i.blk = j.blk → b = c
  own : ∀ b o i, S.get b = some o → o.mine = true → ι b = some i → base ≤ i.blk
  keep : ∀ k, k < base → w.heap[k]? = w0.heap[k]?
  size : base ≤ w.heap.size
  os : w.os = w0.os
  output : w.output = w0.output
  tape : w.tape = w0.tape

/-! ### what grows -/
theorem MR.ext {ι ι' : Emb} (h : Ext ι ι') : ∀ {es l}, MR ι es l → MR ι' es l
  | [], _, e => e
  | (_, _) :: _, _, ⟨e, r, a, b, c, d, f⟩ => ⟨e, r, a, b, c, VR.ext h _ _ d, MR.ext h f⟩
theorem TR.ext {ι ι' : Emb} (h : Ext ι ι') {a : Tm} {ts : Array Value} (k : TR ι a ts) : TR ι' a ts := fun t v e =>
  let ⟨u, x, y⟩ := k t v e; ⟨u, x, VR.ext h _ _ y⟩
theorem DfR.ext {ι ι' : Emb} (h : Ext ι ι') : ∀ {ds l}, DfR ι ds l → DfR ι' ds l
  | [], _, e => e
  | ⟨.collected _, _⟩ :: _, _, ⟨i, r, x, a, b, c, d⟩ => ⟨i, r, x, a, h _ _ b, c, DfR.ext h d⟩
  | ⟨.fn (.func _) _, _⟩ :: _, _, ⟨c', a', r, a, b, c, d⟩ => ⟨c', a', r, a, VRA.ext h _ _ b, VRA.ext h _ _ c, DfR.ext h d⟩
  | ⟨.nil, _⟩ :: _, _, e => e.elim
  | ⟨.builtin _ _ _ _, _⟩ :: _, _, e => e.elim
  | ⟨.coroexit _, _⟩ :: _, _, e => e.elim
  | ⟨.fn (.method _) _, _⟩ :: _, _, e => e.elim
  | ⟨.fn (.methodOf _ _) _, _⟩ :: _, _, e => e.elim
  | ⟨.fn (.via _ _ _ _) _, _⟩ :: _, _, e => e.elim
  | ⟨.fn (.yield _) _, _⟩ :: _, _, e => e.elim
theorem LpR.ext {ι ι' : Emb} (h : Ext ι ι') {l : ALoop} {m : Loop} (k : LpR ι l m) : LpR ι' l m :=
  ⟨k.state, k.pending, k.fn, k.n, k.tmps.ext h, k.params, k.assign, k.body, let ⟨i, a, b, c⟩ := k.defers; ⟨i, h _ _ a, b, c⟩⟩
theorem Row.ext {ι ι' : Emb} (h : Ext ι ι') {s : Nat} {c : T Value} {o : Nat} {cs : Array Value} (k : Row ι s c o cs) : Row ι' s c o cs := fun n hn =>
  let ⟨v, u, a, b, d⟩ := k n hn; ⟨v, u, a, b, VR.ext h _ _ d⟩
theorem ObjR.ext {ι ι' : Emb} (h : Ext ι ι') {o : AObj} {i : Info} {x : Option Obj} (k : ObjR ι o i x) : ObjR ι' o i x := by
  match o, k with
  | .cells _ _, ⟨cs, e, f, a, b, c, d, r⟩ => exact ⟨cs, e, f, a, b, c, d, r.ext h⟩
  | .con _ _, ⟨cs, e, f, a, r⟩ => exact ⟨cs, e, f, a, r.ext h⟩
  | .map _ _ _, ⟨en, a, b, c, d⟩ => exact ⟨en, a, b, c.ext h, d⟩
  | .iter m _ _ _, ⟨m', a, b, c⟩ =>
    cases m with
    | none => exact ⟨m', a, b, c⟩
    | some r => obtain ⟨i, x, y, z⟩ := c; exact ⟨m', a, b, i, h _ _ x, y, z⟩
  | .loop _, ⟨m, a, b, c⟩ => exact ⟨m, a, b, c.ext h⟩
  | .deferred none, e => exact e
  | .deferred (some _), ⟨ds', a, b, c⟩ => exact ⟨ds', a, b, c.ext h⟩
  | .dead, _ => trivial

theorem Hp.get_put (S : Hp) (b c : Nat) (o : AObj) : (S.put b o).get c = if c = b then some o else S.get c := by
  cases S; exact T.get_put _ _ _ _
theorem Hp.next_put (S : Hp) (b : Nat) (o : AObj) : (S.put b o).next = S.next := rfl
theorem Hp.get_new (S : Hp) (c : Nat) (o : AObj) : (S.new o).get c = if c = S.next then some o else S.get c := by
  cases S; exact T.get_put _ _ _ _
theorem Hp.next_new (S : Hp) (o : AObj) : (S.new o).next = S.next + 1 := rfl

theorem Inv.lt {ι : Emb} {S : Hp} {w0 w : World} {base : Nat} (h : Inv ι S w0 w base) {b : Nat} {o : AObj} (e : S.get b = some o) : b < S.next := by
  rcases Nat.lt_or_ge b S.next with k | k
  · exact k
  · rw [h.fresh b k] at e; cases e

theorem Inv.drew {ι : Emb} {S : Hp} {w0 w : World} {base : Nat} (h : Inv ι S w0 w base) (n : Nat) : Inv ι S w0 { w with drawn := n } base :=
  ⟨h.dom, h.fresh, h.rng, h.obj, h.inj, h.own, h.keep, h.size, h.os, h.output, h.tape⟩

theorem Inv.congr {ι : Emb} {S S' : Hp} {w0 w : World} {base : Nat} (h : Inv ι S w0 w base) (hg : ∀ b, S'.get b = S.get b) (hn : S'.next = S.next) : Inv ι S' w0 w base :=
  ⟨fun b hb => h.dom b (by omega), fun b hb => by rw [hg]; exact h.fresh b (by omega), h.rng, fun b o e => h.obj b o (by rw [← hg]; exact e),
    fun b c o p i j hb hc => h.inj b c o p i j (by rw [← hg]; exact hb) (by rw [← hg]; exact hc), fun b o i hb => h.own b o i (by rw [← hg]; exact hb), h.keep, h.size, h.os, h.output, h.tape⟩

/-- What an object of one's own holds anew. -/
theorem Inv.put {ι : Emb} {S : Hp} {w0 w : World} {base : Nat} (h : Inv ι S w0 w base) {b : Nat} {o o' : AObj} {i : Info} {x : Obj} (ho : S.get b = some o) (hm : o.mine = true) (hm' : o'.mine = true) (hi : ι b = some i)
    (hx : ObjR ι o' i (some x)) : Inv ι (S.put b o') w0 (w.putObj i.blk x) base := by
  have hlt := h.rng b i hi
  have hlive : ∀ q : AObj, q.mine = true → q.live = true := by intro q hq; cases q <;> simp_all [AObj.mine, AObj.live]
  refine ⟨h.dom, ?_, ?_, ?_, ?_, ?_, ?_, ?_, h.os, h.output, h.tape⟩
  · intro c hc
    rw [Hp.get_put, if_neg]
    · exact h.fresh c hc
    · rintro rfl; have := h.lt ho; simp [Hp.next_put] at hc; omega
  · intro c j hj; rw [putObj_size]; exact h.rng c j hj
  · intro c p hp
    rw [Hp.get_put] at hp
    by_cases hc : c = b
    · subst hc
      rw [if_pos rfl] at hp
      cases hp
      refine ⟨i, hi, ?_⟩
      rw [heap_putObj _ _ _ hlt, if_pos rfl]; exact hx
    · rw [if_neg hc] at hp
      obtain ⟨j, hj, r⟩ := h.obj c p hp
      refine ⟨j, hj, ?_⟩
      cases hd : p.live with
      | false => cases p <;> simp [AObj.live] at hd; trivial
      | true =>
        rw [heap_putObj _ _ _ hlt, if_neg]
        · exact r
        · intro e; exact hc (h.inj c b p o j i hp ho hd (hlive o hm) hj hi e)
  · intro c d p q j k hp hq lp lq hj hk e
    rw [Hp.get_put] at hp hq
    have key : ∀ (c : Nat) (p : AObj), (if c = b then some o' else S.get c) = some p → p.live = true → ∃ p', S.get c = some p' ∧ p'.live = true := by
      intro c p hp lp
      by_cases hc : c = b
      · subst hc; exact ⟨o, ho, hlive o hm⟩
      · rw [if_neg hc] at hp; exact ⟨p, hp, lp⟩
    obtain ⟨p', hp', lp'⟩ := key c p hp lp
    obtain ⟨q', hq', lq'⟩ := key d q hq lq
    exact h.inj c d p' q' j k hp' hq' lp' lq' hj hk e
  · intro c p j hp mp hj
    rw [Hp.get_put] at hp
    by_cases hc : c = b
    · subst hc; exact h.own c o j ho hm hj
    · rw [if_neg hc] at hp; exact h.own c p j hp mp hj
  · intro k hk
    rw [heap_putObj _ _ _ hlt, if_neg]
    · exact h.keep k hk
    · rintro rfl; have := h.own b o i ho hm hi; omega
  · rw [putObj_size]; exact h.size

/-- An object goes. -/
theorem Inv.kill {ι : Emb} {S : Hp} {w0 w : World} {base : Nat} (h : Inv ι S w0 w base) {b : Nat} {o : AObj} (ho : S.get b = some o) : Inv ι (S.put b .dead) w0 w base := by
  refine ⟨h.dom, ?_, h.rng, ?_, ?_, ?_, h.keep, h.size, h.os, h.output, h.tape⟩
  · intro c hc
    rw [Hp.get_put, if_neg]
    · exact h.fresh c hc
    · rintro rfl; have := h.lt ho; simp [Hp.next_put] at hc; omega
  · intro c p hp
    rw [Hp.get_put] at hp
    by_cases hc : c = b
    · subst hc; rw [if_pos rfl] at hp; cases hp
      obtain ⟨i, hi, _⟩ := h.obj c o ho
      exact ⟨i, hi, trivial⟩
    · rw [if_neg hc] at hp; exact h.obj c p hp
  · intro c d p q j k hp hq lp lq hj hk e
    rw [Hp.get_put] at hp hq
    by_cases hc : c = b
    · rw [if_pos hc] at hp; cases hp; simp [AObj.live] at lp
    · by_cases hd : d = b
      · rw [if_pos hd] at hq; cases hq; simp [AObj.live] at lq
      · rw [if_neg hc] at hp; rw [if_neg hd] at hq
        exact h.inj c d p q j k hp hq lp lq hj hk e
  · intro c p j hp mp hj
    rw [Hp.get_put] at hp
    by_cases hc : c = b
    · rw [if_pos hc] at hp; cases hp; simp [AObj.mine] at mp
    · rw [if_neg hc] at hp; exact h.own c p j hp mp hj

def bindE (ι : Emb) (b : Nat) (i : Info) : Emb := fun c => if c = b then some i else ι c

theorem bindE_ext {ι : Emb} {b : Nat} (i : Info) (h : ι b = none) : Ext ι (bindE ι b i) := by
  intro c j e
  unfold bindE
  rw [if_neg]; · exact e
  rintro rfl; rw [h] at e; cases e

/-- A new object in a new block. -/
theorem Inv.new {ι : Emb} {S : Hp} {w0 w : World} {base : Nat} (h : Inv ι S w0 w base) {o : AObj} {x : Obj} {room : Nat}
    (hx : ObjR (bindE ι S.next ⟨w.heap.size, 0, room⟩) o ⟨w.heap.size, 0, room⟩ (some x)) :
    Inv (bindE ι S.next ⟨w.heap.size, 0, room⟩) (S.new o) w0 (w.alloc x) base := by
  have hE : Ext ι (bindE ι S.next ⟨w.heap.size, 0, room⟩) := bindE_ext _ (h.dom _ (Nat.le_refl _))
  have hb : ∀ c j, c ≠ S.next → bindE ι S.next ⟨w.heap.size, 0, room⟩ c = some j → ι c = some j := by
    intro c j hc hj; unfold bindE at hj; rwa [if_neg hc] at hj
  have hs : ∀ j, bindE ι S.next ⟨w.heap.size, 0, room⟩ S.next = some j → j = ⟨w.heap.size, 0, room⟩ := by
    intro j hj; unfold bindE at hj; rw [if_pos rfl] at hj; cases hj; rfl
  refine ⟨?_, ?_, ?_, ?_, ?_, ?_, ?_, ?_, h.os, h.output, h.tape⟩
  · intro c hc; rw [Hp.next_new] at hc; unfold bindE; rw [if_neg (by omega)]; exact h.dom c (by omega)
  · intro c hc; rw [Hp.next_new] at hc; rw [Hp.get_new, if_neg (by omega)]; exact h.fresh c (by omega)
  · intro c j hj
    rw [size_alloc]
    by_cases hc : c = S.next
    · subst hc; rw [hs j hj]; show w.heap.size < _; omega
    · have := h.rng c j (hb c j hc hj); omega
  · intro c p hp
    rw [Hp.get_new] at hp
    by_cases hc : c = S.next
    · subst hc; rw [if_pos rfl] at hp; cases hp
      refine ⟨⟨w.heap.size, 0, room⟩, by unfold bindE; rw [if_pos rfl], ?_⟩
      rw [heap_alloc, if_pos rfl]; exact hx
    · rw [if_neg hc] at hp
      obtain ⟨j, hj, r⟩ := h.obj c p hp
      refine ⟨j, hE c j hj, ?_⟩
      rw [heap_alloc, if_neg (by have := h.rng c j hj; omega)]
      exact r.ext hE
  · intro c d p q j k hp hq lp lq hj hk e
    rw [Hp.get_new] at hp hq
    by_cases hc : c = S.next
    · by_cases hd : d = S.next
      · rw [hc, hd]
      · subst hc; rw [hs j hj] at e
        have := h.rng d k (hb d k hd hk); simp at e; omega
    · by_cases hd : d = S.next
      · subst hd; rw [hs k hk] at e
        have := h.rng c j (hb c j hc hj); simp at e; omega
      · rw [if_neg hc] at hp; rw [if_neg hd] at hq
        exact h.inj c d p q j k hp hq lp lq (hb c j hc hj) (hb d k hd hk) e
  · intro c p j hp mp hj
    rw [Hp.get_new] at hp
    by_cases hc : c = S.next
    · subst hc; rw [hs j hj]; exact h.size
    · rw [if_neg hc] at hp; exact h.own c p j hp mp (hb c j hc hj)
  · intro k hk; rw [heap_alloc, if_neg (by have := h.size; omega)]; exact h.keep k hk
  · rw [size_alloc]; have := h.size; omega

/-- An object is known anew, under another number: the old one goes; its block holds what it will. -/
theorem Inv.move {ι : Emb} {S : Hp} {w0 w : World} {base : Nat} (h : Inv ι S w0 w base) {b : Nat} {o o' : AObj} {i j : Info} {x : Obj} (ho : S.get b = some o) (hm : o.mine = true) (hi : ι b = some i) (hm' : o'.mine = true) (hj : j.blk = i.blk)
    (hx : ObjR (bindE ι S.next j) o' j (some x)) : Inv (bindE ι S.next j) ((S.new o').put b .dead) w0 (w.putObj i.blk x) base := by
  have hlt := h.rng b i hi
  have hE : Ext ι (bindE ι S.next j) := bindE_ext _ (h.dom _ (Nat.le_refl _))
  have hlive : ∀ q : AObj, q.mine = true → q.live = true := by intro q hq; cases q <;> simp_all [AObj.mine, AObj.live]
  have hbS : b < S.next := h.lt ho
  have hb : ∀ c k, c ≠ S.next → bindE ι S.next j c = some k → ι c = some k := by
    intro c k hc hk; unfold bindE at hk; rwa [if_neg hc] at hk
  have hs : ∀ k, bindE ι S.next j S.next = some k → k = j := by
    intro k hk; unfold bindE at hk; rw [if_pos rfl] at hk; cases hk; rfl
  have hg : ∀ c p, ((S.new o').put b .dead).get c = some p → p.live = true → (c = S.next ∧ p = o') ∨ (c ≠ S.next ∧ c ≠ b ∧ S.get c = some p) := by
    intro c p hp lp
    rw [Hp.get_put, Hp.get_new] at hp
    by_cases hc : c = b
    · rw [if_pos hc] at hp; cases hp; simp [AObj.live] at lp
    · rw [if_neg hc] at hp
      by_cases hd : c = S.next
      · rw [if_pos hd] at hp; cases hp; exact .inl ⟨hd, rfl⟩
      · rw [if_neg hd] at hp; exact .inr ⟨hd, hc, hp⟩
  refine ⟨?_, ?_, ?_, ?_, ?_, ?_, ?_, ?_, h.os, h.output, h.tape⟩
  · intro c hc; rw [Hp.next_put, Hp.next_new] at hc; unfold bindE; rw [if_neg (by omega)]; exact h.dom c (by omega)
  · intro c hc; rw [Hp.next_put, Hp.next_new] at hc; rw [Hp.get_put, if_neg (by omega), Hp.get_new, if_neg (by omega)]; exact h.fresh c (by omega)
  · intro c k hk
    rw [putObj_size]
    by_cases hc : c = S.next
    · subst hc; rw [hs k hk, hj]; exact hlt
    · exact h.rng c k (hb c k hc hk)
  · intro c p hp
    cases hd : p.live with
    | false =>
      have hc : c ≠ S.next := by
        rintro rfl
        rw [Hp.get_put, if_neg (by omega), Hp.get_new, if_pos rfl] at hp
        cases hp; rw [hlive o' hm'] at hd; cases hd
      have : ∃ k, ι c = some k := by
        rw [Hp.get_put, Hp.get_new] at hp
        by_cases hcb : c = b
        · exact ⟨i, hcb ▸ hi⟩
        · rw [if_neg hcb, if_neg hc] at hp
          obtain ⟨k, hk, _⟩ := h.obj c p hp; exact ⟨k, hk⟩
      obtain ⟨k, hk⟩ := this
      refine ⟨k, hE c k hk, ?_⟩
      cases p <;> simp [AObj.live] at hd; trivial
    | true =>
      rcases hg c p hp hd with ⟨rfl, rfl⟩ | ⟨hc, hcb, hp'⟩
      · refine ⟨j, by unfold bindE; rw [if_pos rfl], ?_⟩
        rw [hj, heap_putObj _ _ _ hlt, if_pos rfl]; exact hx
      · obtain ⟨k, hk, r⟩ := h.obj c p hp'
        refine ⟨k, hE c k hk, ?_⟩
        rw [heap_putObj _ _ _ hlt, if_neg]
        · exact r.ext hE
        · intro e; exact hcb (h.inj c b p o k i hp' ho hd (hlive o hm) hk hi e)
  · intro c d p q k l hp hq lp lq hk hl e
    rcases hg c p hp lp with ⟨rfl, rfl⟩ | ⟨hc, hcb, hp'⟩
    · rcases hg d q hq lq with ⟨rfl, rfl⟩ | ⟨hd, hdb, hq'⟩
      · rfl
      · rw [hs k hk, hj] at e
        exact absurd (h.inj d b q o l i hq' ho lq (hlive o hm) (hb d l hd hl) hi e.symm) hdb
    · rcases hg d q hq lq with ⟨rfl, rfl⟩ | ⟨hd, hdb, hq'⟩
      · rw [hs l hl, hj] at e
        exact absurd (h.inj c b p o k i hp' ho lp (hlive o hm) (hb c k hc hk) hi e) hcb
      · exact h.inj c d p q k l hp' hq' lp lq (hb c k hc hk) (hb d l hd hl) e
  · intro c p k hp mp hk
    rcases hg c p hp (hlive p mp) with ⟨rfl, rfl⟩ | ⟨hc, _, hp'⟩
    · rw [hs k hk, hj]; exact h.own b o i ho hm hi
    · exact h.own c p k hp' mp (hb c k hc hk)
  · intro k hk
    rw [heap_putObj _ _ _ hlt, if_neg]
    · exact h.keep k hk
    · rintro rfl; have := h.own b o i ho hm hi; omega
  · rw [putObj_size]; exact h.size

/-- An object of one's own is written, and known no more. -/
theorem Inv.lose {ι : Emb} {S : Hp} {w0 w : World} {base : Nat} (h : Inv ι S w0 w base) {b : Nat} {o o' : AObj} {i : Info} {x : Obj} (ho : S.get b = some o) (hm : o.mine = true) (hm' : o'.mine = true) (hi : ι b = some i)
    (hx : ObjR ι o' i (some x)) : Inv ι (S.put b .dead) w0 (w.putObj i.blk x) base := by
  refine ((h.put ho hm hm' hi hx).kill (b := b) (o := o') (by rw [Hp.get_put, if_pos rfl])).congr ?_ rfl
  intro c
  rw [Hp.get_put, Hp.get_put, Hp.get_put]
  split <;> rfl

end Go.Am
