import Derived.Test.YtmjdoceckpekmaaGreatDoorAmLight
import Derived.Laws.NewBlocks
set_option linter.unusedSimpArgs false
set_option linter.unusedVariables false
namespace Go.Am

theorem forIn_bytes {P : Program} {w : World} : ∀ (l : List Value) (r : List UInt8) (s : ByteArray), bytesOf l = some r →
    (forIn (m := Sem) l s fun c (acc : ByteArray) => match c with
      | .int .u8 n => pure (ForInStep.yield (acc.push (UInt8.ofNat n.toNat)))
      | _ => do
        stuck (α := PUnit) "bytesToString: byte expected"
        pure (ForInStep.yield acc)).run P w = .ok ⟨(s.data ++ r.toArray)⟩ w := by
  intro l
  induction l with
  | nil => intro r s h; simp only [bytesOf, Option.some.injEq] at h; subst h; simp
  | cons v l ih =>
    intro r s h
    unfold bytesOf at h
    split at h
    · rename_i heq; cases heq
    · rename_i n l' heq
      cases heq
      split at h
      · rename_i r' hr
        cases h
        rw [List.forIn_cons]
        rw [andThen_bind (a := ForInStep.yield (s.push (UInt8.ofNat n))) (w' := w) rfl]
        rw [ih r' _ hr]
        congr 2
        simp [ByteArray.push]
      · cases h
    · cases h

section
variable {E : Env} {ι : Emb} {w : World}

theorem VRL_bytes {l m : List Value} {r : List UInt8} (h : VRL ι l m) (e : bytesOf l = some r) : m = l := by
  induction l generalizing m r with
  | nil => exact h
  | cons v l ih =>
    obtain ⟨u, us, rfl, hu, hus⟩ := h
    unfold bytesOf at e
    split at e
    · rename_i heq; cases heq
    · rename_i n l' heq
      cases heq
      split at e
      · rename_i r' hr
        rw [ih hus hr, show u = _ from hu]
      · cases e
    · cases e

theorem bytesToString_run {P : Program} {a : Addr} {len cap : Nat} {m : List Value} {r : List UInt8} (hl : (loadCells a len).run P w = .ok m.toArray w) (e : bytesOf m = some r) : (Conv.bytesToString (.slice (some a) len cap)).run P w = .ok (.string ⟨⟨r⟩⟩) w := by
  unfold Conv.bytesToString
  simp only
  rw [andThen_bind hl]
  have := forIn_bytes (P := P) (w := w) m r ByteArray.empty e
  rw [← List.forIn_toArray] at this
  refine Eq.trans (andThen_bind this) ?_
  have hr : (⟨ByteArray.empty.data ++ r.toArray⟩ : ByteArray) = ⟨⟨r⟩⟩ := by
    apply ByteArray.ext
    show #[] ++ r.toArray = ⟨r⟩
    simp
  rw [hr]; rfl

theorem convA_sound (ok : E.Tab) {S : Hp} {w0 : World} {base : Nat} (h : Inv ι S w0 w base) {s d : TypeId} {x u v : Value} (e : convA E S s d x = some v) (hx : VR ι x u) : VR ι v v ∧ (convert s d u).run E.P w = .ok v w := by
  unfold convA at e
  split at e
  · rename_i hs hd
    obtain rfl := hx; cases e
    refine ⟨rfl, ?_⟩
    unfold convert; rw [andThen_bind (runUnd ok hs), andThen_bind (runUnd ok hd)]
    simp only [Conv.intToInt, wrapA_eq]; rfl
  · rename_i hs hd
    obtain rfl := hx; cases e
    refine ⟨rfl, ?_⟩
    unfold convert; rw [andThen_bind (runUnd ok hs), andThen_bind (runUnd ok hd)]; rfl
  · obtain rfl := hx
    obtain ⟨p, q⟩ := pureV_run e; exact ⟨VR.of_plain _ p, q w⟩
  · rename_i el p n c hs hd
    split at e
    · rename_i he
      have pre : ∀ u, (∀ a n c, u = .slice a n c → True) → (∃ a n c, u = .slice a n c) → (convert s d u).run E.P w = (Conv.bytesToString u).run E.P w := by
        rintro _ _ ⟨a, n, c, rfl⟩
        unfold convert; rw [andThen_bind (runUnd ok hs), andThen_bind (runUnd ok hd)]
        simp only
        rw [andThen_bind (runUnd ok he)]
      split at e
      · obtain rfl := hx; cases e
        refine ⟨rfl, ?_⟩
        rw [pre _ (fun _ _ _ _ => trivial) ⟨_, _, _, rfl⟩]; rfl
      · rename_i q
        split at e
        · obtain ⟨a', c', rfl⟩ := VR.slice_some hx
          cases e
          refine ⟨rfl, ?_⟩
          rw [pre _ (fun _ _ _ _ => trivial) ⟨_, _, _, rfl⟩]
          exact bytesToString_run (m := []) rfl rfl
        · rename_i hn
          split at e
          · rename_i l hl
            split at e
            · rename_i r hr
              cases e
              refine ⟨rfl, ?_⟩
              obtain ⟨i, hi, hsr⟩ := hx
              obtain ⟨m, hm, hrun⟩ := loadN_sound h hl hi E.P
              obtain rfl := VRL_bytes hm hr
              unfold SR at hsr
              split at hsr
              · subst hsr
                rw [pre _ (fun _ _ _ _ => trivial) ⟨_, _, _, rfl⟩]
                exact bytesToString_run hrun hr
              · obtain ⟨c', rfl, _⟩ := hsr
                rw [pre _ (fun _ _ _ _ => trivial) ⟨_, _, _, rfl⟩]
                exact bytesToString_run hrun hr
              · obtain ⟨h0, _⟩ := hsr; exact absurd h0 hn
            · cases e
          · cases e
    · cases e
  · cases e

theorem addA_sound {i : Info} {b s n : Nat} {v : Value} (hi : ι b = some i) (e : addA b s n = some v) : VR ι v (.pointer (some ((⟨i.blk, i.off + s, none⟩ : Addr).add n))) := by
  simp only [addA, Option.some.injEq] at e
  subst e
  refine ⟨i, hi, rfl, ?_⟩
  rw [addr_add, Nat.add_assoc]

theorem indexAddrA_sound (ok : E.Tab) {t : TypeId} {x y u z v : Value} (e : indexAddrA E t x y = some v) (hx : VR ι x u) (hy : VR ι y z) : ∃ r, VR ι v r ∧ (Instr.indexAt t u z).run E.P w = .ok r w := by
  unfold indexAddrA at e
  split at e
  · rename_i k n
    obtain rfl := hy
    split at e
    · rename_i len elem p hu
      split at e
      · rename_i s hsp hlt hs
        obtain ⟨i, hi, _, rfl⟩ := hx
        refine ⟨_, addA_sound hi e, ?_⟩
        have hlt := Nat.le_of_ble_eq_true hlt
        unfold Instr.indexAt
        rw [andThen_bind (a := (k, Int.ofNat n)) (w' := w) rfl]
        simp only [bind_assoc]
        rw [andThen_bind (runUnd ok hu)]
        simp only [bind_assoc, pure_bind]
        rw [andThen_bind (a := (⟨i.blk, i.off + p.off, none⟩ : Addr)) (w' := w) rfl]
        rw [andThen_bind (runUnd ok hu)]
        simp only
        rw [if_pos (by constructor <;> simp; omega)]
        rw [andThen_bind (runSiz ok hs)]
        rfl
      · cases e
    · rename_i elem p len c hu
      split at e
      · rename_i s hlt hs
        have hlt := Nat.le_of_ble_eq_true hlt
        obtain ⟨i, hi, hsr⟩ := hx
        have key : ∃ c', u = .slice (some ⟨i.blk, i.off + p.off, none⟩) len c' := by
          unfold SR at hsr
          split at hsr
          · exact ⟨_, hsr⟩
          · obtain ⟨c', h, _⟩ := hsr; exact ⟨_, h⟩
          · obtain ⟨h, _⟩ := hsr; omega
        obtain ⟨c', rfl⟩ := key
        refine ⟨_, addA_sound hi e, ?_⟩
        unfold Instr.indexAt
        rw [andThen_bind (a := (k, Int.ofNat n)) (w' := w) rfl]
        simp only [bind_assoc]
        rw [andThen_bind (runUnd ok hu)]
        simp only [bind_assoc, pure_bind]
        rw [andThen_bind (runUnd ok hu)]
        simp only
        rw [if_pos (by constructor <;> simp; omega)]
        rw [andThen_bind (runSiz ok hs)]
        rfl
      · cases e
    · cases e
  · cases e

theorem indexA_sound (ok : E.Tab) {t : TypeId} {x y u z v : Value} (e : indexA E t x y = some v) (hx : VR ι x u) (hy : VR ι y z) : ∃ r, VR ι v r ∧ (Instr.index t u z).run E.P w = .ok r w := by
  unfold indexA at e
  split at e
  · rename_i k n
    obtain rfl := hy
    split at e
    · rename_i len elem cs hu
      split at e
      · rename_i s hlt hs
        obtain ⟨⟨cs'⟩, rfl, hcs⟩ := hx
        have hlt := Nat.le_of_ble_eq_true hlt
        obtain ⟨r, hr, hrun⟩ := apart_sound (w := w) ok (VRA.iff.1 hcs) e
        refine ⟨r, hr, ?_⟩
        unfold Instr.index
        rw [andThen_bind (a := (k, Int.ofNat n)) (w' := w) rfl]
        simp only
        rw [andThen_bind (runUnd ok hu)]
        simp only
        rw [if_pos (by constructor <;> simp; omega)]
        rw [andThen_bind (runSiz ok hs)]
        exact hrun
      · cases e
    · rename_i s hu
      split at e
      · rename_i b hb
        cases e
        obtain rfl := hx
        refine ⟨_, rfl, ?_⟩
        unfold Instr.index
        rw [andThen_bind (a := (k, Int.ofNat n)) (w' := w) rfl]
        simp only
        rw [andThen_bind (runUnd ok hu)]
        simp only
        rw [nth_eq] at hb
        have h1 : (if (0 : Int) ≤ Int.ofNat n then (⟨⟨s⟩⟩ : ByteArray)[(Int.ofNat n).toNat]? else none) = some b := by
          rw [if_pos (by simp)]
          have hlt : n < s.length := (List.getElem?_eq_some_iff.1 hb).1
          have : (⟨⟨s⟩⟩ : ByteArray)[n]? = s[n]? := by
            rw [getElem?_pos _ _ (by simpa [ByteArray.size] using hlt)]
            simp [ByteArray.getElem_eq_getElem_data, hlt]
          simpa [this] using hb
        rw [h1]; rfl
      · cases e
    · cases e
  · cases e

end
end Go.Am
