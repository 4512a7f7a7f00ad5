import Derived.Test.YtmjdoceckpekmaaGreatDoorSnEnv0
import Derived.Test.YtmjdoceckpekmaaGreatDoorAmPath
set_option linter.unusedSimpArgs false
set_option linter.unusedVariables false
namespace Go.Am
open Go.Proofs
namespace Crc
noncomputable def bd : Code := match Tryz.f39.body with
  | some c => c
  | none => .skip
noncomputable def L1 : Code := codeAt bd [1,1,0,1,0,0]
noncomputable def tail1 : Code := codeAt bd [1,1,1]
noncomputable def BD : Code := codeAt L1 [1,1,0,0]
noncomputable def L2 : Code := codeAt BD [1,1,1,0,0]
noncomputable def o5 : List Oper := opsOf (codeAt BD [1,0])
noncomputable def r10 : Code := codeAt L1 [1,1,1]
noncomputable def k1 : List AItem := [.inLoop L1, .inBlock 0, .code tail1]
noncomputable def k2 : List AItem := .inBlock 1 :: .code r10 :: k1
noncomputable def k3 : List AItem := .inLoop L2 :: .inBlock 2 :: k2
noncomputable def kc : List AItem := .code (codeAt L1 [1,0]) :: .code (codeAt L1 [1,1]) :: k1
noncomputable def k5 (m : Nat) : List AItem := .inRegion o5 (o5.drop m) :: .code (codeAt BD [1,1]) :: k2
abbrev mk (a : Tm) (todo : List AItem) (S : Hp) : ASt := ⟨⟨39, 34, a, todo, [], false, .normal, none⟩, [], S⟩
def tm1 (p : Addr) (n cap : Nat) (i : Nat) (c : Int) : Tm := (((T.e.put 1 (.slice (some p) n cap)).put 5 (.int .u32 c)).put 10 (.int .i64 (.ofNat n))).put 11 (.int .i64 (.ofNat i))
def tm2 (p : Addr) (n cap : Nat) (i : Nat) (c : Int) (j : Nat) : Tm := (tm1 p n cap i c).put 21 (.int .i64 (.ofNat j))
def tm3 (p : Addr) (n cap : Nat) (i : Nat) (c : Int) : Tm := (((tm1 p n cap i c).put 14 (.int .u32 c)).put 15 (.slice (some p) n cap)).put 16 (.int .i64 (.ofNat i))

def xorI (c d : Int) : Int := IntKind.u32.wrap (BitVec.ofInt 32 c ^^^ BitVec.ofInt 32 d).toNat
def bitI (c : Int) : Int :=
  IntKind.u32.wrap (BitVec.ofInt 32 (c.fdiv (2 ^ 1)) ^^^ BitVec.ofInt 32 (IntKind.u32.wrap (BitVec.ofInt 32 2197175160 &&& BitVec.ofInt 32 (IntKind.u32.wrap (0 - IntKind.u32.wrap (BitVec.ofInt 32 c &&& BitVec.ofInt 32 1).toNat))).toNat)).toNat

def byteI (c : Int) (x : Nat) : Int := bitI (bitI (bitI (bitI (bitI (bitI (bitI (bitI (xorI c (wrapA .u32 (.ofNat x))))))))))
def crcBit (c : Nat) : Nat := Nat.xor (c / 2) (2197175160 * (c % 2))
def crcByte (c b : Nat) : Nat := crcBit (crcBit (crcBit (crcBit (crcBit (crcBit (crcBit (crcBit (Nat.xor c b))))))))
def crcL : Nat → List Value → Option Nat
  | c, [] => some c
  | c, v :: l => match v with
    | .int .u8 (.ofNat b) => match Nat.blt b 256 with
      | true => crcL (crcByte c b) l
      | false => none
    | _ => none

theorem wrapU (n : Nat) (h : n < 4294967296) : IntKind.u32.wrap (n : Int) = n := by
  unfold IntKind.wrap
  simp [IntKind.signed, IntKind.bits]
  omega

theorem ofI (n : Nat) : BitVec.ofInt 32 (n : Int) = BitVec.ofNat 32 n := by simp

theorem xorI_eq (c d : Nat) (hc : c < 4294967296) (hd : d < 4294967296) : xorI (.ofNat c) (.ofNat d) = .ofNat (Nat.xor c d) ∧ Nat.xor c d < 4294967296 := by
  have hx : Nat.xor c d < 4294967296 := Nat.xor_lt_two_pow (n := 32) (by omega) (by omega)
  refine ⟨?_, hx⟩
  unfold xorI
  have e : (BitVec.ofInt 32 (Int.ofNat c) ^^^ BitVec.ofInt 32 (Int.ofNat d)).toNat = Nat.xor c d := by
    rw [BitVec.toNat_xor]
    show (BitVec.ofInt 32 ((c : Nat) : Int)).toNat ^^^ (BitVec.ofInt 32 ((d : Nat) : Int)).toNat = _
    rw [ofI, ofI, BitVec.toNat_ofNat, BitVec.toNat_ofNat, Nat.mod_eq_of_lt (by omega), Nat.mod_eq_of_lt (by omega)]
    rfl
  rw [e]
  exact wrapU _ hx

theorem bitI_eq (c : Nat) (h : c < 4294967296) : bitI (.ofNat c) = .ofNat (crcBit c) ∧ crcBit c < 4294967296 := by
  have e1 : (BitVec.ofInt 32 (Int.ofNat c) &&& BitVec.ofInt 32 1).toNat = c % 2 := by
    rw [BitVec.toNat_and]
    simp [BitVec.toNat_ofInt]
  have e2 : (Int.ofNat c).fdiv (2 ^ 1) = .ofNat (c / 2) := by
    show (Int.ofNat c).fdiv 2 = _
    rw [Int.fdiv_eq_ediv_of_nonneg _ (by omega)]; rfl
  have e3 : (BitVec.ofInt 32 2197175160 &&& BitVec.ofInt 32 (IntKind.u32.wrap (0 - IntKind.u32.wrap ((c % 2 : Nat) : Int)))).toNat = 2197175160 * (c % 2) := by
    rcases Nat.mod_two_eq_zero_or_one c with q | q <;> rw [q] <;> decide
  have e4 : bitI (.ofNat c) = xorI (.ofNat (c / 2)) (IntKind.u32.wrap (((2197175160 * (c % 2) : Nat)) : Int)) := by
    unfold bitI xorI
    rw [e1, e2, e3]
  rw [e4, wrapU _ (by omega)]
  exact xorI_eq _ _ (by omega) (by omega)

theorem crcByte_eq (c b : Nat) (hc : c < 4294967296) (hb : b < 256) : byteI (.ofNat c) b = .ofNat (crcByte c b) ∧ crcByte c b < 4294967296 := by
  have hw : wrapA .u32 (.ofNat b) = .ofNat b := by
    unfold wrapA
    have : Nat.blt b 4294967296 = true := by rw [Nat.blt_eq]; omega
    simp only [this]
  obtain ⟨h0, l0⟩ := xorI_eq c b hc (by omega)
  obtain ⟨h1, l1⟩ := bitI_eq _ l0
  obtain ⟨h2, l2⟩ := bitI_eq _ l1
  obtain ⟨h3, l3⟩ := bitI_eq _ l2
  obtain ⟨h4, l4⟩ := bitI_eq _ l3
  obtain ⟨h5, l5⟩ := bitI_eq _ l4
  obtain ⟨h6, l6⟩ := bitI_eq _ l5
  obtain ⟨h7, l7⟩ := bitI_eq _ l6
  obtain ⟨h8, l8⟩ := bitI_eq _ l7
  unfold byteI; rw [hw, h0, h1, h2, h3, h4, h5, h6, h7, h8]
  exact ⟨rfl, l8⟩

set_option maxRecDepth 100000
section
variable {Q : ASt → Prop} {S : Hp} {p : Addr} {n cap i : Nat} {c : Int}

theorem inner {j : Nat} (hj : j < 8) (w : Wp E0 (mk (tm2 p n cap i (bitI c) (j + 1)) (.code L2 :: k3) S) Q) : Wp E0 (mk (tm2 p n cap i c j) (.code L2 :: k3) S) Q := by
  refine Wp.seg ok0 25 _ rfl ?_ ?_ w
  · obtain rfl | rfl | rfl | rfl | rfl | rfl | rfl | rfl : j = 0 ∨ j = 1 ∨ j = 2 ∨ j = 3 ∨ j = 4 ∨ j = 5 ∨ j = 6 ∨ j = 7 := by omega
    all_goals kernel_rfl
  · obtain rfl | rfl | rfl | rfl | rfl | rfl | rfl | rfl : j = 0 ∨ j = 1 ∨ j = 2 ∨ j = 3 ∨ j = 4 ∨ j = 5 ∨ j = 6 ∨ j = 7 := by omega
    all_goals exact .put (by kernel_rfl) (.put (by kernel_rfl) (.put (by kernel_rfl) (.put (by kernel_rfl) (.put (by kernel_rfl) (.e _)))))

theorem innerEnd (w : Wp E0 (mk (tm1 p n cap (i + 1) c) (.code L1 :: k1) S) Q) (hi : wrapA .i64 (.ofNat (i + 1)) = .ofNat (i + 1)) : Wp E0 (mk (tm2 p n cap i c 8) (.code L2 :: k3) S) Q := by
  refine Wp.seg ok0 13 _ rfl (by kernel_rfl) ?_ w
  refine .put ?_ (.put (by kernel_rfl) (.put (by kernel_rfl) (.put (by kernel_rfl) (.e _))))
  rw [← hi]
  kernel_rfl

theorem round {x : Nat} (hi : Nat.blt i n = true) (hl : load1 S p.block (p.off + i * 1) = some (.int .u8 (.ofNat x))) (hw : wrapA .i64 (.ofNat (i + 1)) = .ofNat (i + 1))
    (w : Wp E0 (mk (tm1 p n cap (i + 1) (byteI c x)) (.code L1 :: k1) S) Q) : Wp E0 (mk (tm1 p n cap i c) (.code L1 :: k1) S) Q := by
  refine Wp.seg ok0 5 (mk ((tm1 p n cap i c).put 12 (.bool true)) (kc) S) rfl (by kernel_rfl) ?_ ?_
  · refine .put ((show _ = some (Value.bool (Nat.blt i n)) by kernel_rfl).trans (by rw [hi])) ?_
    exact .put (by kernel_rfl) (.put (by kernel_rfl) (.put (by kernel_rfl) (.put (by kernel_rfl) (.e _))))
  refine Wp.seg ok0 14 (mk (tm3 p n cap i c) (k5 3) S) rfl (by kernel_rfl) ?_ ?_
  · exact .put (by kernel_rfl) (.put (by kernel_rfl) (.put (by kernel_rfl) (.put (by kernel_rfl) (.put (by kernel_rfl) (.put (by kernel_rfl) (.put (by kernel_rfl) (.e _)))))))
  refine Wp.step ok0 (step_light (a' := (tm3 p n cap i c).put 17 (.pointer (some ⟨p.block, p.off + i * 1, none⟩))) (by kernel_rfl) (by kernel_rfl) (v := .pointer (some ⟨p.block, p.off + i * 1, none⟩)) ?_ (by kernel_rfl)) ?_
  · have e : light E0 S (tm3 p n cap i c) (o5.getD 3 default) = indexAddrA E0 44 (.slice (some p) n cap) (.int .i64 (.ofNat i)) := by kernel_rfl
    refine e.trans ?_
    have u : E0.und 44 = some (.slice 5) := by kernel_rfl
    have z : E0.siz 5 = some 1 := by kernel_rfl
    simp only [indexAddrA, u, z, hi, addA]
  refine Wp.step ok0 (step_light (a' := ((tm3 p n cap i c).put 17 (.pointer (some ⟨p.block, p.off + i * 1, none⟩))).put 18 (.int .u8 (.ofNat x))) (by kernel_rfl) (by kernel_rfl) (v := .int .u8 (.ofNat x)) ?_ (by kernel_rfl)) ?_
  · have e : light E0 S ((tm3 p n cap i c).put 17 (.pointer (some ⟨p.block, p.off + i * 1, none⟩))) (o5.getD 4 default) = load1 S p.block (p.off + i * 1) := by kernel_rfl
    exact e.trans hl
  refine Wp.seg ok0 10 (mk (tm2 p n cap i (xorI c (wrapA .u32 (.ofNat x))) 0) (.code L2 :: k3) S) rfl (by kernel_rfl) ?_ ?_
  · exact .put (by kernel_rfl) (.put (by kernel_rfl) (.put (by kernel_rfl) (.put (by kernel_rfl) (.put (by kernel_rfl) (.e _)))))
  refine inner (by omega) (inner (by omega) (inner (by omega) (inner (by omega) (inner (by omega) (inner (by omega) (inner (by omega) (inner (by omega) ?_)))))))
  exact innerEnd w hw

theorem theEnd (hi : Nat.blt i n = false) (h : ∀ s : ASt, s.fr.fn = 39 → ended E0 s = some (.int .u32 (xorI 4294967295 c)) → s.S = S → Q s) : Wp E0 (mk (tm1 p n cap i c) (.code L1 :: k1) S) Q := by
  refine Wp.seg ok0 5 (mk ((tm1 p n cap i c).put 12 (.bool false)) (kc) S) rfl (by kernel_rfl) ?_ ?_
  · refine .put ((show _ = some (Value.bool (Nat.blt i n)) by kernel_rfl).trans (by rw [hi])) ?_
    exact .put (by kernel_rfl) (.put (by kernel_rfl) (.put (by kernel_rfl) (.put (by kernel_rfl) (.e _))))
  refine Wp.steps ok0 (k := 9) (s' := ⟨⟨39, 34, tmOf (steps E0 9 (mk ((tm1 p n cap i c).put 12 (.bool false)) kc S)), [.code .ret], [], true, .normal, none⟩, [], S⟩) (by kernel_rfl) ?_
  exact Wp.done (h _ rfl (by kernel_rfl) rfl)
end

def cellsOf (S : Hp) (p : Option Addr) (n : Nat) : Option (List Value) := match n with
  | 0 => some []
  | m + 1 => match p with
    | some q => loadN S q.block q.off (m + 1)
    | none => none
def nCrc : Native := fun args S => match args with
  | [.int .u32 (.ofNat s), .slice (some p) n _] => match Nat.blt s 4294967296 && Nat.blt n 1000000000, cellsOf S (some p) n with
    | true, some l => match crcL (Nat.xor 4294967295 s) l with
      | some c => some (.int .u32 (.ofNat (Nat.xor 4294967295 c)), S)
      | none => none
    | _, _ => none
  | _ => none

theorem readN_cons {c : T Value} {off m : Nat} {l : List Value} (h : readN c off (m + 1) = some l) : ∃ v l', l = v :: l' ∧ c.get off = some v ∧ readN c (off + 1) m = some l' := by
  simp only [readN] at h
  split at h
  · rename_i v hv
    split at h
    · rename_i l' hl; cases h; exact ⟨v, l', rfl, hv, hl⟩
    · cases h
  · cases h

def objCells (S : Hp) (b : Nat) : Option (Nat × T Value) := match S.get b with
  | some (.cells size c) | some (.con size c) => some (size, c)
  | _ => none

theorem loadN_inv {S : Hp} {b off n : Nat} {l : List Value} (h : loadN S b off n = some l) : ∃ size c, objCells S b = some (size, c) ∧ off + n ≤ size ∧ readN c off n = some l := by
  unfold loadN at h
  split at h
  · rename_i size c hg
    split at h
    · rename_i hb; exact ⟨size, c, by simp only [objCells, hg], Nat.le_of_ble_eq_true hb, h⟩
    · cases h
  · rename_i size c hg
    split at h
    · rename_i hb; exact ⟨size, c, by simp only [objCells, hg], Nat.le_of_ble_eq_true hb, h⟩
    · cases h
  · cases h

theorem load1_of {S : Hp} {b off size : Nat} {c : T Value} {v : Value} (h : objCells S b = some (size, c)) (hb : off < size) (hv : c.get off = some v) : load1 S b off = some v := by
  have hlt : Nat.blt off size = true := by rw [Nat.blt_eq]; exact hb
  unfold objCells at h
  unfold load1
  split at h
  · rename_i hg; cases h; simp only [hg, hlt, hv]
  · rename_i hg; cases h; simp only [hg, hlt, hv]
  · cases h

theorem loop {Q : ASt → Prop} {S : Hp} {p : Addr} {n cap r : Nat} (hn : n < 1000000000) :
    ∀ (m i : Nat) (l : List Value) (c : Nat), c < 4294967296 → i + m = n → (m = 0 ∨ ∃ size t, objCells S p.block = some (size, t) ∧ p.off + n ≤ size ∧ readN t (p.off + i) m = some l) → (m = 0 → l = []) → crcL c l = some r →
    (∀ s : ASt, s.fr.fn = 39 → ended E0 s = some (.int .u32 (xorI 4294967295 (.ofNat r))) → r < 4294967296 → s.S = S → Q s) → Wp E0 (mk (tm1 p n cap i (.ofNat c)) (.code L1 :: k1) S) Q := by
  intro m
  induction m with
  | zero =>
    intro i l c hc hi _ hl hr h
    obtain rfl := hl rfl
    simp only [crcL, Option.some.injEq] at hr
    subst hr
    exact theEnd (by rw [Bool.eq_false_iff]; intro q; rw [Nat.blt_eq] at q; omega) (fun s a b d => h s a b hc d)
  | succ m ih =>
    intro i l c hc hi hld hz hr h
    clear hz
    obtain ⟨size, t, ho, hs, hl⟩ := hld.resolve_left (by omega)
    obtain ⟨v, l', rfl, hv, hl'⟩ := readN_cons hl
    unfold crcL at hr
    split at hr
    · rename_i x
      split at hr
      · rename_i hx
        have hx : x < 256 := by rw [Nat.blt_eq] at hx; exact hx
        obtain ⟨e1, e2⟩ := crcByte_eq c x hc hx
        refine round (x := x) (by rw [Nat.blt_eq]; omega) (load1_of ho (by omega) (by rw [Nat.mul_one]; exact hv)) ?_ ?_
        · unfold wrapA
          have : Nat.blt (i + 1) 9223372036854775808 = true := by rw [Nat.blt_eq]; omega
          simp only [this]
        · rw [e1]
          refine ih (i + 1) l' _ e2 (by omega) (.inr ⟨size, t, ho, hs, by rw [← Nat.add_assoc]; exact hl'⟩) ?_ hr h
          intro q; subst q; simp only [readN, Option.some.injEq] at hl'; exact hl'.symm
      · cases hr
    · cases hr

theorem hb39 : HasBody Tryz.prog 39 := ⟨Tryz.f39, _, Tryz.func39, rfl, by kernel_rfl⟩

theorem crc_ok : NatOk E0 39 nCrc := by
  refine natOk_of_wp ok0 hb39 ?_
  intro args S v S' h
  unfold nCrc at h
  split at h
  · rename_i s p n cap
    split at h
    · rename_i l hb hl
      rw [Bool.and_eq_true, Nat.blt_eq, Nat.blt_eq] at hb
      split at h
      · rename_i r hr
        cases h
        obtain ⟨x1, x2⟩ := xorI_eq 4294967295 s (by omega) hb.1
        refine ⟨⟨39, 34, T.ofList [.int .u32 (.ofNat s), .slice (some p) n cap] 0 .e, [.code bd], [], false, .normal, none⟩, by kernel_rfl, ?_⟩
        refine Wp.seg ok0 19 (mk (tm1 p n cap 0 (xorI 4294967295 (.ofNat s))) (.code L1 :: k1) S) rfl (by kernel_rfl) ?_ ?_
        · exact .put (by kernel_rfl) (.put (by kernel_rfl) (.put (by kernel_rfl) (.put (by kernel_rfl) (.e _))))
        have x1' : xorI 4294967295 (.ofNat s) = .ofNat (Nat.xor 4294967295 s) := x1
        rw [x1']
        refine loop hb.2 n 0 l _ x2 (by omega) ?_ ?_ hr ?_
        · unfold cellsOf at hl
          split at hl
          · exact .inl rfl
          · right
            rename_i m
            obtain ⟨size, t, a, b, c⟩ := loadN_inv hl
            exact ⟨size, t, a, b, c⟩
        · intro q; subst q; simp only [cellsOf, Option.some.injEq] at hl; exact hl.symm
        · intro st a b c d
          refine ⟨a, ?_, d⟩
          rw [b]
          have := (xorI_eq 4294967295 r (by omega) c).1
          exact congrArg (fun x => some (Value.int .u32 x)) this
      · cases h
    · cases h
  · cases h
end Crc
end Go.Am
