import Derived.Test.YtmjdoceckpekmaaGreatDoorAmLight5
import Derived.Laws.Append
set_option linter.unusedSimpArgs false
set_option linter.unusedVariables false
namespace Go.Am

theorem writeN_get : ∀ (l : List Value) (c : T Value) (off k : Nat), (writeN c off l).get k = if off ≤ k ∧ k < off + l.length then l[k - off]? else c.get k := by
  intro l
  induction l with
  | nil => intro c off k; simp only [writeN, List.length_nil]; rw [if_neg (by omega)]
  | cons v l ih =>
    intro c off k
    simp only [writeN, List.length_cons]
    rw [ih, T.get_put]
    by_cases h1 : off + 1 ≤ k ∧ k < off + 1 + l.length
    · rw [if_pos h1, if_pos (by omega)]
      obtain ⟨m, rfl⟩ : ∃ m, k = off + 1 + m := ⟨k - (off + 1), by omega⟩
      rw [show off + 1 + m - off = m + 1 from by omega]; simp
    · rw [if_neg h1]
      by_cases h2 : k = off
      · subst h2; rw [if_pos rfl, if_pos (by omega)]; simp
      · rw [if_neg h2, if_neg (by omega)]

theorem VR.one {ι : Emb} : ∀ {v u : Value}, VR ι v u → oneCell v = true → oneCell u = true := by
  intro v u h o
  cases v <;> simp [oneCell] at o
  case bool => rw [show u = _ from h]; rfl
  case int => rw [show u = _ from h]; rfl
  case float => rw [show u = _ from h]; rfl
  case complex => rw [show u = _ from h]; rfl
  case string => rw [show u = _ from h]; rfl
  case pointer a =>
    cases a with
    | none => rw [show u = _ from h]; rfl
    | some a => obtain ⟨_, _, _, rfl⟩ := h; rfl
  case slice a n c =>
    cases a with
    | none => rw [show u = _ from h]; rfl
    | some a => obtain ⟨_, _, rfl⟩ := VR.slice_some h; rfl
  case map a =>
    cases a with
    | none => rw [show u = _ from h]; rfl
    | some a => obtain ⟨_, _, _, rfl⟩ := h; rfl
  case chan => exact h.elim
  case func => obtain ⟨_, _, _, rfl, _⟩ := h; rfl
  case nilFunc => rw [show u = _ from h]; rfl
  case iface => obtain ⟨_, rfl, _⟩ := h; rfl
  case nilIface => rw [show u = _ from h]; rfl

theorem VRL.allOne {ι : Emb} : ∀ {l m : List Value}, VRL ι l m → allOne l = true → allOne m = true
  | [], _, h, _ => by rw [show _ = [] from h]; rfl
  | v :: l, _, ⟨u, us, e, a, b⟩, o => by
    rw [e]
    simp only [Am.allOne] at o ⊢
    split at o
    · rename_i h; rw [VR.one a h]; exact b.allOne o
    · cases o

section
variable {E : Env} {ι : Emb} {S : Hp} {w0 w : World} {base : Nat}

theorem storeN_inv {b off : Nat} {l : List Value} {S' : Hp} (e : storeN S b off l = some S') : ∃ size c, S.get b = some (.cells size c) ∧ off + l.length ≤ size ∧ allOne l = true ∧ S' = S.put b (.cells size (writeN c off l)) := by
  unfold storeN at e
  split at e
  · rename_i size c hg
    split at e
    · rename_i h
      simp only [Bool.and_eq_true] at h
      cases e
      exact ⟨size, c, hg, Nat.le_of_ble_eq_true h.1, h.2, rfl⟩
    · cases e
  · cases e

theorem Row.write {c : T Value} {size off o : Nat} {cs : Array Value} (r : Row ι size c o cs) {l m : List Value} (hl : VRL ι l m) (h1 : off + l.length ≤ size) (h2 : o + size ≤ cs.size) : Row ι size (writeN c off l) o (writeC cs (o + off) m) := by
  intro k hk
  have hlen := hl.length
  rw [writeN_get, writeC_get _ _ _ _ (by omega)]
  by_cases h : off ≤ k ∧ k < off + l.length
  · rw [if_pos h, if_pos (by omega)]
    obtain ⟨v, hv⟩ : ∃ v, l[k - off]? = some v := ⟨l[k - off]'(by omega), List.getElem?_eq_getElem _⟩
    obtain ⟨u, hu, hr⟩ := hl.get hv
    exact ⟨v, u, hv, by rw [← hu]; congr 1; omega, hr⟩
  · rw [if_neg h, if_neg (by omega)]; exact r k hk

theorem storeN_sound (h : Inv ι S w0 w base) {b off : Nat} {l m : List Value} {S' : Hp} (e : storeN S b off l = some S') {i : Info} (hi : ι b = some i) (hl : VRL ι l m) (P : Program) :
    ∃ w', (storeCells ⟨i.blk, i.off + off, none⟩ m).run P w = .ok () w' ∧ Inv ι S' w0 w' base := by
  obtain ⟨size, c, hg, h1, h2, rfl⟩ := storeN_inv e
  obtain ⟨i', hi', cs, t, f, hw, hs, hroom, hf, row⟩ := h.obj _ _ hg
  rw [hi] at hi'; cases hi'
  have hlen := hl.length
  refine ⟨_, run_storeCells m w cs 0 hw (by omega) (fun k a b => hf k (by omega) (by omega)) (hl.allOne h2), ?_⟩
  refine h.put hg rfl rfl hi ⟨_, _, _, rfl, hs, by rw [writeC_size]; exact hroom, hf, ?_⟩
  rw [Nat.add_zero]
  exact row.write hl h1 (by omega)

theorem storeV_sound (ok : E.Tab) (h : Inv ι S w0 w base) {t : TypeId} {b off : Nat} {v u : Value} {S' : Hp} (e : storeV E S t b off v = some S') {i : Info} (hi : ι b = some i) (hv : VR ι v u) :
    ∃ w', (storeVar t ⟨i.blk, i.off + off, none⟩ u).run E.P w = .ok () w' ∧ Inv ι S' w0 w' base := by
  unfold storeV at e
  split at e
  · rename_i n hs
    split at e
    · rename_i hn
      have hn := Nat.eq_of_beq_eq_true hn
      have hc := VR.cellsL hv
      obtain ⟨w', hr, hI⟩ := storeN_sound h e hi hc E.P
      refine ⟨w', ?_, hI⟩
      unfold storeVar
      rw [andThen_bind (runSiz ok hs)]
      have : u.cells.size = n := by have := hc.length; simp at this; omega
      rw [if_neg (by simp [this])]
      exact hr
    · cases e
  · cases e

theorem objR_row {ι : Emb} {l m : List Value} {arr : Array Value} {t : TypeId} {f : Nat × Nat} {blk room : Nat} (hl : VRL ι l m) (hm : ∀ k, k < m.length → arr[k]? = m[k]?) (h1 : l.length ≤ room) (h2 : room ≤ arr.size) (hf : Free f 0 room) :
    ObjR ι (.cells l.length (T.ofList l 0 .e)) ⟨blk, 0, room⟩ (some (.cells arr t f)) := by
  refine ⟨arr, t, f, rfl, h1, by simpa using h2, by simpa using hf, ?_⟩
  intro k hk
  have hlen := hl.length
  obtain ⟨v, hv⟩ : ∃ v, l[k]? = some v := ⟨l[k]'hk, List.getElem?_eq_getElem _⟩
  obtain ⟨u, hu, hr⟩ := hl.get hv
  refine ⟨v, u, ?_, ?_, hr⟩
  · rw [T.get_ofList, if_pos (by omega)]; simpa using hv
  · rw [Nat.zero_add, hm k (by omega)]; exact hu

theorem free0 (a b : Nat) : Free (0, 0) a b := fun k _ _ h => by simp only at h; omega

/-- A new row, cells as they come. -/
theorem newRow_sound (h : Inv ι S w0 w base) {l m : List Value} (hl : VRL ι l m) (rest : List Value) (t : TypeId) (f : Nat × Nat) (hf : Free f 0 (m ++ rest).length) :
    let i : Info := ⟨w.heap.size, 0, (m ++ rest).length⟩
    Ext ι (bindE ι S.next i) ∧ Inv (bindE ι S.next i) (Am.newRow S l) w0 (w.alloc (.cells (m ++ rest).toArray t f)) base := by
  intro i
  have hE : Ext ι (bindE ι S.next i) := bindE_ext _ (h.dom _ (Nat.le_refl _))
  refine ⟨hE, ?_⟩
  have hlen := hl.length
  refine h.new (objR_row (VRL.ext hE _ _ hl) ?_ (by simp; omega) (by simp) hf)
  intro k hk
  rw [List.getElem?_toArray, List.getElem?_append_left hk]

theorem bindE_self (b : Nat) (i : Info) : bindE ι b i b = some i := by unfold bindE; rw [if_pos rfl]

theorem run_newRow {P : Program} (t : TypeId) (cells : Array Value) : (Go.newRow t cells).run P w = .ok ⟨w.heap.size, 0, none⟩ (w.alloc (.cells cells t)) := by
  rfl

theorem zerosA_get : ∀ (z : List Value) (n : Nat), (zerosA z n).length = n * z.length := by
  intro z n; induction n with
  | zero => simp [zerosA]
  | succ n ih => simp [zerosA, ih, Nat.succ_mul]; omega

theorem zerosA_getElem (z : List Value) : ∀ (n k : Nat), k < n * z.length → (zerosA z n)[k]? = z[k % z.length]? := by
  intro n; induction n with
  | zero => intro k h; simp at h
  | succ n ih =>
    intro k h
    simp only [zerosA]
    rw [Nat.succ_mul] at h
    by_cases hk : k < z.length
    · rw [List.getElem?_append_left hk, Nat.mod_eq_of_lt hk]
    · rw [List.getElem?_append_right (by omega), ih _ (by omega)]
      congr 1
      exact (Nat.mod_eq_sub_mod (by omega)).symm

theorem rangeMap (z : Array Value) (n : Nat) (hz : 0 < n * z.size → 0 < z.size) : ((Array.range (n * z.size)).map (fun k => z[k % z.size]!)).toList = zerosA z.toList n := by
  apply List.ext_getElem?
  intro k
  rw [Array.getElem?_toList]
  by_cases hk : k < n * z.size
  · have h0 := hz (by omega)
    rw [zerosA_getElem _ _ _ (by simpa using hk)]
    have hm : k % z.size < z.size := Nat.mod_lt _ h0
    simp [hk, hm]
  · rw [Array.getElem?_eq_none (by simp; omega), List.getElem?_eq_none]
    rw [zerosA_get]; simpa using hk

theorem VRL.zeros {z : List Value} (hz : VRL ι z z) : ∀ n, VRL ι (zerosA z n) (zerosA z n)
  | 0 => VRL.nil
  | n + 1 => hz.append (VRL.zeros hz n)

theorem cellsL_plain {z : Value} (h : plain z = true) : cellsL z = z.cells.toList := by
  cases z <;> first | rfl | (rename_i a; cases a <;> rfl)

theorem readN_len (c : T Value) : ∀ (n off : Nat) {l : List Value}, readN c off n = some l → l.length = n := by
  intro n; induction n with
  | zero => intro off l e; simp only [readN, Option.some.injEq] at e; subst e; rfl
  | succ n ih =>
    intro off l e
    simp only [readN] at e
    split at e
    · split at e
      · rename_i r hr; cases e; simp [ih _ hr]
      · cases e
    · cases e

theorem loadN_len {b off n : Nat} {l : List Value} (e : loadN S b off n = some l) : l.length = n := by
  obtain ⟨_, _, _, _, h⟩ := loadN_inv e; exact readN_len _ _ _ h

theorem byteCells_eq : ∀ (b : List UInt8), byteCells b = b.map fun c => .int .u8 (c.toNat : Int)
  | [] => rfl
  | c :: b => by simp [byteCells, byteCells_eq b]

theorem byteCells_plain : ∀ (b : List UInt8), plainL (byteCells b) = true
  | [] => rfl
  | c :: b => by simp [byteCells, plainL, plain, byteCells_plain b]

theorem srcA_sound {x u : Value} {size n : Nat} {new : List Value} (h : Inv ι S w0 w base) (e : srcA S size x = some (new, n)) (hx : VR ι x u) (P : Program) :
    ∃ m, VRL ι new m ∧ new.length = n * size ∧ ∀ d, (Builtin.lenOf u).run P { w with drawn := d } = .ok n { w with drawn := d } ∧ (Builtin.firstCells size n u).run P { w with drawn := d } = .ok m.toArray { w with drawn := d } := by
  unfold srcA at e
  split at e
  · cases e
    obtain rfl := hx
    exact ⟨[], VRL.nil, by simp, fun d => ⟨rfl, rfl⟩⟩
  · rename_i b n' c
    split at e
    · cases e
      obtain ⟨a', c', rfl⟩ := VR.slice_some hx
      refine ⟨[], VRL.nil, by simp, fun d => ⟨rfl, ?_⟩⟩
      unfold Builtin.firstCells; simp only [Nat.zero_mul]; rfl
    · rename_i hn
      split at e
      · rename_i l hl
        cases e
        obtain ⟨i, hi, hsr⟩ := hx
        have key : ∃ c', u = .slice (some ⟨i.blk, i.off + b.off, none⟩) n c' := by
          unfold SR at hsr
          split at hsr
          · exact ⟨_, hsr⟩
          · obtain ⟨c', h, _⟩ := hsr; exact ⟨_, h⟩
          · obtain ⟨h, _⟩ := hsr; exact absurd h hn
        obtain ⟨c', rfl⟩ := key
        obtain ⟨size', cc, hg, hle, hr⟩ := loadN_inv hl
        obtain ⟨i', cs, t, f, hi', hw, row⟩ := row_of h hg
        rw [hi] at hi'; cases hi'
        obtain ⟨m, hm, hlen, hj⟩ := readN_sound row (n * size) b.off hle hr
        refine ⟨m, hm, loadN_len hl, fun d => ⟨rfl, ?_⟩⟩
        unfold Builtin.firstCells
        simp only
        rw [← hlen]
        exact run_loadCells (w := { w with drawn := d }) hw m (fun k hk => hj k (by omega))
      · cases e
  · rename_i b
    split at e
    · rename_i hs
      have hs := Nat.eq_of_beq_eq_true hs
      cases e
      obtain rfl := hx
      refine ⟨byteCells b, VRL.of_plain _ (byteCells_plain b), by rw [byteCells_eq]; simp [hs], fun d => ⟨rfl, ?_⟩⟩
      unfold Builtin.firstCells
      have : ((⟨⟨b⟩⟩ : ByteArray).extract 0 b.length).data = ⟨b⟩ := by simp
      simp only [this, byteCells_eq]
      simp
    · cases e
  · cases e

theorem next_cap {need cap : Nat} (h : cap < need) : Builtin.nextslicecap need cap ≤ 4 * need + 4000 := by
  unfold Builtin.nextslicecap
  split
  · omega
  · split
    · omega
    · have g : ∀ (r c : Nat), c ≤ need → Builtin.growBy need r c ≤ c + r * ((need + 768) / 4) + 0 ∨ Builtin.growBy need r c ≤ 2 * need + 768 := by
        intro r; induction r with
        | zero => intro c _; left; simp [Builtin.growBy]
        | succ r ih =>
          intro c hc
          simp only [Builtin.growBy]
          split
          · right; omega
          · by_cases h2 : c + (c + 768) / 4 ≤ need
            · rcases ih _ h2 with k | k
              · left; rw [Nat.succ_mul]; omega
              · right; exact k
            · right
              have : ∀ r, Builtin.growBy need r (c + (c + 768) / 4) = c + (c + 768) / 4 := by
                intro r; cases r with
                | zero => rfl
                | succ r => simp only [Builtin.growBy]; rw [if_pos (by omega)]
              rw [this]; omega
      rcases g 4 cap (by omega) with k | k <;> omega

theorem growsA_inv {elem size need : Nat} (e : growsA E elem size need = true) : ∃ b z, E.byt elem = some b ∧ E.zer elem = some z ∧ need ≤ 100000000 ∧ b ≤ 1000 ∧ (cellsL z).length = size := by
  unfold growsA at e
  split at e
  · rename_i b z hb hz
    simp only [Bool.and_eq_true] at e
    exact ⟨b, z, hb, hz, Nat.le_of_ble_eq_true e.1.1, Nat.le_of_ble_eq_true e.1.2, Nat.eq_of_beq_eq_true e.2⟩
  · cases e

theorem run_choose {P : Program} {q : Question} (h : q.forced = false) : (choose q).run P w = .ok (q.cut (w.tape w.drawn q)) { w with drawn := w.drawn + 1 } := by
  simp [choose, Sem.run, h]

theorem run_askRoom {P : Program} (n : Nat) : (askRoom n).run P w = .ok () w := by
  unfold askRoom; split <;> rfl

/-- What an append comes to that makes a new row. -/
theorem append_grows (ok : E.Tab) {st xt elem size need n len cap : Nat} {a : Option Addr} {u : Value} {d : TypeDesc} {old new : List Value} (hst : E.und st = some (.slice elem)) (hxt : E.und xt = some d) (hd : ∀ k, d ≠ .int k) (hsz : E.siz elem = some size)
    (hg : growsA E elem size (len + n) = true) (hcap : cap < len + n) (hlen : (Builtin.lenOf u).run E.P w = .ok n w)
    (hold : (Builtin.firstCells size len (.slice a len cap)).run E.P w.drew = .ok old.toArray w.drew) (hnew : (Builtin.firstCells size n u).run E.P w.drew = .ok new.toArray w.drew) (ty : TypeId) :
    ∃ nc rest, len + n ≤ nc ∧ rest.length = (nc - (len + n)) * size ∧ (Builtin.append_ #[st, xt] ty #[.slice a len cap, u]).run E.P w = .ok (.slice (some ⟨w.heap.size, 0, none⟩) (len + n) nc) (w.drew.alloc (.cells ((old ++ new) ++ rest).toArray elem)) := by
  obtain ⟨b, z, hb, hz, hn1, hb1, hzl⟩ := growsA_inv hg
  obtain ⟨ti, hti, hbt⟩ := runByt (w := w) ok hb
  obtain ⟨ti2, hti2, hbt2⟩ := runByt (w := w.drew) ok hb
  let nc := (Question.appendCap (len + n) cap elem).cut (w.tape w.drawn (.appendCap (len + n) cap elem))
  have hnc : len + n ≤ nc := by simp only [nc, Question.cut]; omega
  refine ⟨nc, (Builtin.zeroCells z.cells (nc - (len + n))).toList, hnc, ?_, ?_⟩
  · have hzp := (ok.zer _ _ hz).2
    rw [cellsL_plain hzp] at hzl
    simp [Builtin.zeroCells] at hzl ⊢
    rw [hzl]
  obtain ⟨ti', hti'⟩ := ok.byt _ _ hb
  obtain ⟨⟨zi, hzi, hz0⟩, _⟩ := ok.zer _ _ hz
  obtain ⟨si, hsi, hs0⟩ := ok.siz _ _ hsz
  obtain rfl : zi = ti' := by rw [hti'.1] at hzi; cases hzi; rfl
  obtain rfl : si = zi := by rw [hti'.1] at hsi; cases hsi; rfl
  have hn : ¬ (len + n ≤ cap) := by omega
  have h63' : ¬ (9223372036854775807 < ((len : Int) + (n : Int))) := by omega
  have h48' : ¬ (281474976710656 < Builtin.nextslicecap (len + n) cap * si.bytes) := by
    have h1 := nextslicecap_le hcap
    have h2 : Builtin.nextslicecap (len + n) cap * si.bytes ≤ 200000000 * 1000 := Nat.mul_le_mul (by omega) (by have := hti'.2; omega)
    omega
  have hu1 := ok.und _ _ hst
  have hu2 := ok.und _ _ hxt
  have hz1 : (match d with | .int _ => true | _ => false) = false := by cases d <;> first | rfl | exact absurd rfl (hd _)
  simp [Builtin.append_, Go.run_underlying hu1, Go.run_underlying hu2, sizeOf, typeInfo, zeroValue, hsi, hz0, hs0, hlen, hn, h63', h48', Question.forced, hold, hnew, Go.newRow, hz1, nc]
  congr 2
  apply Array.ext'
  simp [List.append_assoc]
/-- What an append comes to for which there is room. -/
theorem append_room (ok : E.Tab) {st xt elem size n len cap : Nat} {a : Option Addr} {u : Value} {d : TypeDesc} {new : List Value} {w' : World} (hst : E.und st = some (.slice elem)) (hxt : E.und xt = some d) (hd : ∀ k, d ≠ .int k) (hsz : E.siz elem = some size)
    (hcap : len + n ≤ cap) (hlen : (Builtin.lenOf u).run E.P w = .ok n w) (hnew : (Builtin.firstCells size n u).run E.P w = .ok new.toArray w)
    (hstore : match a with | some a => (storeCells (a.add (len * size)) new).run E.P w = .ok () w' | none => w' = w) (ty : TypeId) :
    (Builtin.append_ #[st, xt] ty #[.slice a len cap, u]).run E.P w = .ok (.slice a (len + n) cap) w' := by
  obtain ⟨si, hsi, hs0⟩ := ok.siz _ _ hsz
  have hu1 := ok.und _ _ hst
  have hu2 := ok.und _ _ hxt
  have hz1 : (match d with | .int _ => true | _ => false) = false := by cases d <;> first | rfl | exact absurd rfl (hd _)
  cases a with
  | none =>
    simp only at hstore; subst hstore
    simp [Builtin.append_, Go.run_underlying hu1, Go.run_underlying hu2, sizeOf, typeInfo, hsi, hs0, hlen, hcap, hnew, hz1]
  | some a =>
    simp only at hstore
    simp [Builtin.append_, Go.run_underlying hu1, Go.run_underlying hu2, sizeOf, typeInfo, hsi, hs0, hlen, hcap, hnew, hz1, hstore]

theorem appendA_sound (ok : E.Tab) (h : Inv ι S w0 w base) {st xt : TypeId} {s x v s' u : Value} {S' : Hp} (e : appendA E S st xt s x = some (v, S')) (hs : VR ι s s') (hx : VR ι x u) (ty : TypeId) :
    ∃ ι' v' w', (Builtin.append_ #[st, xt] ty #[s', u]).run E.P w = .ok v' w' ∧ Ext ι ι' ∧ VR ι' v v' ∧ Inv ι' S' w0 w' base := by
  unfold appendA at e
  split at e
  · rename_i elem d hst hxt
    split at e
    · cases e
    · rename_i hd
      split at e
      · rename_i size b len cap hsz
        split at e
        · cases e
        · rename_i new n hsrc
          obtain ⟨m, hm, hnl, hfc⟩ := srcA_sound h hsrc hx E.P
          have hlen := (hfc w.drawn).1
          have hnew0 := (hfc w.drawn).2
          have hnew1 := (hfc (w.drawn + 1)).2
          have hml := hm.length
          cases b with
          | none =>
            simp only at e
            obtain rfl := hs
            split at e
            · rename_i hz
              simp only [Bool.and_eq_true] at hz
              obtain rfl := Nat.eq_of_beq_eq_true hz.1
              obtain rfl := Nat.eq_of_beq_eq_true hz.2
              split at e
              · cases e
                exact ⟨ι, _, w, append_room ok hst hxt hd hsz (by omega) hlen hnew0 (by rfl) ty, Ext.refl _, rfl, h⟩
              · rename_i hn
                have hn0 : n ≠ 0 := fun q => hn q
                split at e
                · rename_i hg
                  cases e
                  obtain ⟨nc, rest, hnc, hrl, hrun⟩ := append_grows (need := 0) ok hst hxt hd hsz (len := 0) (cap := 0) (a := none) (old := []) (new := m) (by simpa using hg) (by omega) hlen rfl hnew1 ty
                  obtain ⟨hE, hI⟩ := newRow_sound (h.drew (w.drawn + 1)) hm rest elem (0, 0) (free0 _ _)
                  refine ⟨_, _, _, hrun, hE, ⟨_, bindE_self _ _, nc, by simp, by omega, ?_⟩, by simpa using hI⟩
                  simp only [Nat.zero_add] at hrl ⊢
                  have h1 : nc * size = n * size + (nc - n) * size := by rw [← Nat.add_mul]; congr 1; omega
                  simp only [List.length_append]; omega
                · cases e
            · cases e
          | some b =>
            simp only at e
            obtain ⟨i, hi, hsr⟩ := hs
            unfold SR at hsr
            split at e
            · rename_i hsp
              rw [hsp] at hsr
              simp only at hsr; subst hsr
              split at e
              · rename_i hle
                have hle := Nat.le_of_ble_eq_true hle
                split at e
                · rename_i S1 hst1
                  cases e
                  obtain ⟨w', hr, hI⟩ := storeN_sound h hst1 hi hm E.P
                  refine ⟨ι, _, w', append_room ok hst hxt hd hsz hle hlen hnew0 (w' := w') ?_ ty, Ext.refl _, ⟨i, hi, ?_⟩, hI⟩
                  · simp only [addr_add]; rw [Nat.add_assoc]; exact hr
                  · unfold SR; simp only [hsp]
                · cases e
              · rename_i hle
                have hle : cap < len + n := by
                  rcases Nat.lt_or_ge cap (len + n) with k | k
                  · exact k
                  · have : Nat.ble (len + n) cap = true := by simpa using k
                    rw [this] at hle; cases hle
                split at e
                · rename_i old hold hg
                  cases e
                  obtain ⟨mo, hmo, hro⟩ := loadN_sound (h.drew (w.drawn + 1)) hold hi E.P
                  have hol := loadN_len hold
                  have hmol := hmo.length
                  obtain ⟨nc, rest, hnc, hrl, hrun⟩ := append_grows (need := 0) ok hst hxt hd hsz (len := len) (cap := cap) (a := some ⟨i.blk, i.off + b.off, none⟩) (old := mo) (new := m) hg hle hlen hro hnew1 ty
                  obtain ⟨hE, hI⟩ := newRow_sound (h.drew (w.drawn + 1)) (hmo.append hm) rest elem (0, 0) (free0 _ _)
                  refine ⟨_, _, _, hrun, hE, ⟨_, bindE_self _ _, nc, by simp, by omega, ?_⟩, hI⟩
                  have h1 : nc * size = (len + n) * size + (nc - (len + n)) * size := by rw [← Nat.add_mul]; congr 1; omega
                  rw [Nat.add_mul] at h1
                  simp only [List.length_append]; omega
                · cases e
            · rename_i hsp
              rw [hsp] at hsr
              obtain ⟨c', hsr, hlc, hroom⟩ := hsr
              subst hsr
              split at e
              · rename_i hc
                simp only [Bool.and_eq_true] at hc
                obtain ⟨⟨hc1, hc2⟩, hc3⟩ := hc
                obtain rfl := Nat.eq_of_beq_eq_true hc1
                split at e
                · rename_i old hold hg
                  cases e
                  have hol := loadN_len hold
                  by_cases hle : len + n ≤ c'
                  · -- in place
                    obtain ⟨size', cc, hg', hle', hrd⟩ := loadN_inv hold
                    have hrow : S.get b.block = some (.cells size' cc) := by
                      rcases hg' with k | k
                      · exact k
                      · unfold isRow at hc3; rw [k] at hc3; cases hc3
                    obtain ⟨i', hi', cs, t, f, hw, hs1, hs2, hf, row⟩ := h.obj _ _ hrow
                    rw [hi] at hi'; cases hi'
                    obtain ⟨mo, hmo, hmol, hmoj⟩ := readN_sound row (len * cap) b.off hle' hrd
                    have hb1 : (len + n) * cap ≤ c' * cap := Nat.mul_le_mul_right _ hle
                    rw [Nat.add_mul] at hb1
                    have hrs := run_storeCells (P := E.P) (b := i.blk) (e := t) (f := f) (o := i.off + b.off + len * cap) m w cs 0 hw (by omega) (fun k h1 h2 => hf k (by omega) (by omega)) (hm.allOne hc2)
                    have hrun := append_room ok hst hxt hd hsz (a := some ⟨i.blk, i.off + b.off, none⟩) hle hlen hnew0 (w' := _) (by simp only [addr_add]; exact hrs) ty
                    refine ⟨bindE ι S.next ⟨i.blk, i.off + b.off, i.room - b.off⟩, _, _, hrun, bindE_ext _ (h.dom _ (Nat.le_refl _)), ⟨_, bindE_self _ _, c', by simp, hle, by simp only; omega⟩, ?_⟩
                    refine h.move hrow rfl hi rfl rfl ?_
                    have hE : Ext ι (bindE ι S.next ⟨i.blk, i.off + b.off, i.room - b.off⟩) := bindE_ext _ (h.dom _ (Nat.le_refl _))
                    refine ⟨_, _, _, rfl, by simp only [List.length_append]; omega, by rw [writeC_size]; simp only; omega, fun k h1 h2 => hf k (by simp only at h1; omega) (by simp only at h2; omega), ?_⟩
                    intro k hk
                    simp only [List.length_append] at hk
                    have hall := VRL.ext hE _ _ (hmo.append hm)
                    obtain ⟨v, hv⟩ : ∃ v, (old ++ new)[k]? = some v := ⟨(old ++ new)[k]'(by simp; omega), List.getElem?_eq_getElem _⟩
                    obtain ⟨z, hz, hr⟩ := hall.get hv
                    refine ⟨v, z, ?_, ?_, hr⟩
                    · rw [T.get_ofList, if_pos (by simp; omega)]; simpa using hv
                    · rw [writeC_get _ _ _ _ (by omega)]
                      by_cases hkl : k < len * cap
                      · rw [if_neg (by simp only; omega)]
                        rw [List.getElem?_append_left (by omega)] at hz
                        simp only
                        rw [hmoj k hkl]; exact hz
                      · rw [if_pos (by simp only; omega)]
                        rw [List.getElem?_append_right (by omega)] at hz
                        rw [← hz]; congr 1; simp only; omega
                  · obtain ⟨mo, hmo, hro⟩ := loadN_sound (h.drew (w.drawn + 1)) hold hi E.P
                    have hmol := hmo.length
                    obtain ⟨nc, rest, hnc, hrl, hrun⟩ := append_grows (need := 0) ok hst hxt hd hsz (len := len) (cap := c') (a := some ⟨i.blk, i.off + b.off, none⟩) (old := mo) (new := m) hg (by omega) hlen hro hnew1 ty
                    obtain ⟨hE, hI⟩ := newRow_sound (h.drew (w.drawn + 1)) (hmo.append hm) rest elem (0, 0) (free0 _ _)
                    refine ⟨_, _, _, hrun, hE, ⟨_, bindE_self _ _, nc, by simp, by omega, ?_⟩, ?_⟩
                    · have h1 : nc * cap = (len + n) * cap + (nc - (len + n)) * cap := by rw [← Nat.add_mul]; congr 1; omega
                      rw [Nat.add_mul] at h1
                      simp only [List.length_append]; omega
                    · obtain ⟨size', cc, hg', _, _⟩ := loadN_inv hold
                      have hlt : b.block < S.next := by rcases hg' with k | k <;> exact h.lt k
                      have : ∃ o, (Am.newRow S (old ++ new)).get b.block = some o := by
                        unfold Am.newRow
                        rw [Hp.get_new, if_neg (by omega)]
                        rcases hg' with k | k <;> exact ⟨_, k⟩
                      obtain ⟨o, ho⟩ := this
                      exact hI.kill ho
                · cases e
              · cases e
            · cases e
      · cases e
  · cases e
end
end Go.Am
