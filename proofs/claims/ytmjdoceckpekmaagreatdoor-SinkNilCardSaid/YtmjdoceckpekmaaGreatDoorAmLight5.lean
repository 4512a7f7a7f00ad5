import Derived.Test.YtmjdoceckpekmaaGreatDoorAmLight4
set_option linter.unusedSimpArgs false
set_option linter.unusedVariables false
namespace Go.Am
section
variable {E : Env} {ι : Emb} {w : World}

theorem makeInterface_sound (ok : E.Tab) {t : TypeId} {d : TypeDesc} (hu : E.und t = some d) (hn : ∀ m, d ≠ .interface m) (u : Value) : (Instr.makeInterface t u).run E.P w = .ok (.iface t u) w := by
  unfold Instr.makeInterface
  rw [andThen_bind (runUnd ok hu)]
  cases d <;> first | rfl | exact absurd rfl (hn _)

theorem light_sound (ok : E.Tab) {S : Hp} {w0 : World} {base : Nat} (h : Inv ι S w0 w base) {a : Tm} {ρ : Operand → Value} {o : Oper} (hρ : EvR E ι a ρ (· ∈ o.op.operands)) {v : Value} (e : light E S a o = some v) : Gives E ι v (execOp ρ o) w := by
  obtain ⟨dst, op, ty, pos, after, guard⟩ := o
  cases op <;> simp only [light, lPick, lNilCheck, lBinOp, lUnOp, lConvert, lMakeInterface, lMakeFunc, lFieldAddr, lField, lIndexAddr, lIndex, lLoad, lExtract, lBuild, lSlice, lLookup, lTypeAssert, lCall] at e <;> try (cases e; done)
  case move x => exact ⟨ρ x, rfl, hρ x v (by simp [Op.operands, Call.operands]) e⟩
  case assign x => exact ⟨ρ x, rfl, hρ x v (by simp [Op.operands, Call.operands]) e⟩
  case pick c x y =>
    split at e
    · rename_i hc
      have : ρ c = .bool true := hρ c _ (by simp [Op.operands, Call.operands]) hc
      refine ⟨ρ x, ?_, hρ x v (by simp [Op.operands, Call.operands]) e⟩
      simp only [execOp, this]; rfl
    · rename_i hc
      have : ρ c = .bool false := hρ c _ (by simp [Op.operands, Call.operands]) hc
      refine ⟨ρ y, ?_, hρ y v (by simp [Op.operands, Call.operands]) e⟩
      simp only [execOp, this]; rfl
    · cases e
  case nilCheck x =>
    split at e
    · rename_i p hx; cases e
      have hv := hρ x _ (by simp [Op.operands, Call.operands]) hx
      obtain ⟨i, hi, hs, hr⟩ := hv
      exact ⟨ρ x, by simp only [execOp, hr]; rfl, i, hi, hs, hr⟩
    · rename_i f y z hx; cases e
      have hv := hρ x _ (by simp [Op.operands, Call.operands]) hx
      obtain ⟨f', x', y', hr, hf, h1, h2⟩ := hv
      obtain rfl : f' = .func f := hf
      exact ⟨ρ x, by simp only [execOp, hr]; rfl, _, _, _, hr, rfl, h1, h2⟩
    · rename_i f y z hx; cases e
      have hv := hρ x _ (by simp [Op.operands, Call.operands]) hx
      obtain ⟨f', x', y', hr, hf, h1, h2⟩ := hv
      obtain ⟨i, hi, h0, rfl⟩ := hf
      exact ⟨ρ x, by simp only [execOp, hr]; rfl, _, _, _, hr, ⟨i, hi, h0, rfl⟩, h1, h2⟩
    · rename_i t y hx; cases e
      have hv := hρ x _ (by simp [Op.operands, Call.operands]) hx
      obtain ⟨u', hr, h1⟩ := hv
      exact ⟨ρ x, by simp only [execOp, hr]; rfl, _, hr, h1⟩
    · cases e
  case binOp op t x y yt =>
    split at e
    · rename_i u z hx hy
      obtain ⟨h1, h2⟩ := binA_sound (w := w) ok e (hρ x _ (by simp [Op.operands, Call.operands]) hx) (hρ y _ (by simp [Op.operands, Call.operands]) hy)
      exact gives_of h2 h1
    · cases e
  case unOp op t x =>
    split at e
    · rename_i b hx; cases e
      have : ρ x = .bool b := hρ x _ (by simp [Op.operands, Call.operands]) hx
      exact ⟨.bool (!b), by simp only [execOp, this]; rfl, rfl⟩
    · rename_i u hn hx
      split at e
      · rename_i hp
        have : ρ x = u := VR.plain _ _ (hρ x _ (by simp [Op.operands, Call.operands]) hx) hp
        obtain ⟨p, q⟩ := pureV_run e
        refine gives_of (u := v) ?_ (VR.of_plain _ p)
        rw [this]; exact q w
      · cases e
    · cases e
  case convert s d x =>
    split at e
    · rename_i u hx
      obtain ⟨h1, h2⟩ := convA_sound ok h e (hρ x _ (by simp [Op.operands, Call.operands]) hx)
      exact gives_of h2 h1
    · cases e
  case makeInterface t x =>
    split at e
    · cases e
    · rename_i d u hn hd hu
      cases e
      exact gives_of (makeInterface_sound ok hd (fun m q => hn m q) _) ⟨_, rfl, hρ x _ (by simp [Op.operands, Call.operands]) hu⟩
    · cases e
  case makeFunc fn first captured =>
    split at e
    · rename_i l m hl hm
      split at e
      · rename_i f
        cases e
        refine gives_of (u := .func (.func f) (first.map ρ) (captured.map ρ)) rfl ⟨_, _, _, rfl, rfl, ?_, ?_⟩
        · rw [VRA.iff]; simpa using hρ.list _ (by intro x hx; simp at hx; simp [Op.operands, Call.operands, hx]) hl
        · rw [VRA.iff]; simpa using hρ.list _ (by intro x hx; simp at hx; simp [Op.operands, Call.operands, hx]) hm
      · cases e
    · cases e
  case fieldAddr s x f =>
    split at e
    · rename_i fields p hu hx
      split at e
      · rename_i fl hf hsp
        split at e
        · rename_i n hs
          obtain ⟨i, hi, _, hr⟩ := hρ x _ (by simp [Op.operands, Call.operands]) hx
          refine gives_of ?_ (addA_sound hi e)
          rw [hr]
          unfold Instr.fieldAt
          rw [andThen_bind (runUnd ok hu)]
          simp only
          rw [nth_eq] at hf
          have hf' : fields[f]? = some fl := by simpa using hf
          simp only [hf']
          rw [andThen_bind (a := (⟨i.blk, i.off + p.off, none⟩ : Addr)) (w' := w) rfl]
          have : (fieldPlace ⟨i.blk, i.off + p.off, none⟩ fl).run E.P w = .ok ((⟨i.blk, i.off + p.off, none⟩ : Addr).add fl.offset) w := by
            unfold fieldPlace
            rw [andThen_bind (runSiz ok hs)]
            simp
          rw [andThen_bind this]; rfl
        · cases e
      · cases e
    · cases e
  case field t x f =>
    split at e
    · rename_i fields cs hu hx
      split at e
      · rename_i fl hf
        obtain ⟨⟨cs'⟩, hr, hcs⟩ := hρ x _ (by simp [Op.operands, Call.operands]) hx
        obtain ⟨r, hv, hrun⟩ := apart_sound (w := w) ok (VRA.iff.1 hcs) e
        refine gives_of ?_ hv
        rw [hr]
        unfold Instr.field
        rw [andThen_bind (runUnd ok hu)]
        simp only
        rw [nth_eq] at hf
        have hf' : fields[f]? = some fl := by simpa using hf
        simp only [hf']
        rw [andThen_bind (a := (⟨cs'⟩ : Array Value)) (w' := w) rfl]
        exact hrun
      · cases e
    · cases e
  case indexAddr t x y =>
    split at e
    · rename_i u z hx hy
      obtain ⟨r, hv, hrun⟩ := indexAddrA_sound (w := w) ok e (hρ x _ (by simp [Op.operands, Call.operands]) hx) (hρ y _ (by simp [Op.operands, Call.operands]) hy)
      exact gives_of hrun hv
    · cases e
  case index t x y =>
    split at e
    · rename_i u z hx hy
      obtain ⟨r, hv, hrun⟩ := indexA_sound (w := w) ok e (hρ x _ (by simp [Op.operands, Call.operands]) hx) (hρ y _ (by simp [Op.operands, Call.operands]) hy)
      exact gives_of hrun hv
    · cases e
  case load t x =>
    split at e
    · rename_i p hx
      split at e
      · obtain ⟨i, hi, _, hr⟩ := hρ x _ (by simp [Op.operands, Call.operands]) hx
        obtain ⟨u, hv, hrun⟩ := loadV_sound ok h e hi
        refine gives_of ?_ hv
        rw [hr]
        exact hrun
      · cases e
    · cases e
  case extract x n =>
    split at e
    · rename_i vs hx
      obtain ⟨⟨vs'⟩, hr, hvs⟩ := hρ x _ (by simp [Op.operands, Call.operands]) hx
      rw [nth_eq] at e
      obtain ⟨u, hu, hv⟩ := VRL.get (VRA.iff.1 hvs) e
      refine gives_of (u := u) ?_ hv
      rw [hr]
      unfold Instr.extract
      have : (⟨vs'⟩ : Array Value)[n]? = some u := by simpa using hu
      simp only [this]; rfl
    · cases e
  case build t parts =>
    split at e
    · rename_i l hl
      have hp := hρ.parts _ (by intro x hx; simp at hx; simp [Op.operands]; exact ⟨_, hx⟩) hl
      rw [← PR.of_array] at hp
      obtain ⟨u, hv, hrun⟩ := buildA_sound (w := w) ok hp e
      exact gives_of hrun hv
    · cases e
  case slice t x lo hi mx =>
    split at e
    · rename_i u l1 h1 m1 hx hl hh hm
      obtain ⟨r, hv, hrun⟩ := sliceA_sound (w := w) ok e (hρ x _ (by simp [Op.operands, Call.operands]) hx) (hρ.opt (by rintro y rfl; simp [Op.operands]) hl) (hρ.opt (by rintro y rfl; simp [Op.operands]) hh) (hρ.opt (by rintro y rfl; simp [Op.operands]) hm)
      exact gives_of hrun hv
    · cases e
  case lookup t x y b =>
    split at e
    · rename_i u z hx hy
      obtain ⟨r, hv, hrun⟩ := lookupA_sound ok h e (hρ x _ (by simp [Op.operands, Call.operands]) hx) (hρ y _ (by simp [Op.operands, Call.operands]) hy)
      exact gives_of hrun hv
    · cases e
  case typeAssert x xt t b =>
    split at e
    · cases e
    · rename_i d u z hn hd hx
      split at e
      · rename_i hb
        have hb := Nat.eq_of_beq_eq_true hb
        cases e
        obtain ⟨z', hr, hz⟩ := hρ x _ (by simp [Op.operands, Call.operands]) hx
        refine gives_of (u := if b = true then .tuple #[z', .bool true] else z') ?_ ?_
        · rw [hr]
          unfold Instr.typeAssert
          rw [andThen_bind (runUnd ok hd)]
          cases d <;> first
            | (simp only [hb, if_true]; cases b <;> rfl)
            | exact absurd rfl (hn _)
        · cases b
          · exact hz
          · exact ⟨_, rfl, VRL.cons hz (VRL.cons rfl VRL.nil)⟩
      · cases e
    · cases e
  case call c =>
    obtain ⟨callee, args, argTypes⟩ := c
    simp only at e
    have hargs : ∀ {l}, evs E a args.toList = some l → VRL ι l (args.map ρ).toList := fun hl => by simpa using hρ.list _ (by intro x hx; simp at hx; simp [Op.operands, Call.operands, hx]) hl
    split at e
    · split at e
      · rename_i t x ht hx
        obtain ⟨u, us, h1, h2, h3⟩ := hargs hx
        obtain rfl : us = [] := h3
        have harr : args.map ρ = #[u] := by
          apply Array.ext'; simpa using h1
        rw [nth_eq] at ht
        obtain ⟨h4, h5⟩ := lenA_sound ok h e h2 ty argTypes (by simpa using ht)
        refine ⟨v, ?_, h5⟩
        simp only [execOp, resolve, harr]
        exact (andThen_bind (k := fun v => pure (Next.value v)) h4).trans rfl
      · cases e
    · split at e
      · rename_i l hl
        split at e
        · rename_i hp
          obtain ⟨p, q⟩ := pureV_run e
          have := VRL.plain _ _ (hargs hl) hp
          have harr : args.map ρ = ⟨l⟩ := by apply Array.ext'; simpa using this
          refine ⟨v, ?_, VR.of_plain _ p⟩
          simp only [execOp, resolve, harr]
          exact (andThen_bind (k := fun v => pure (Next.value v)) (q w)).trans rfl
        · cases e
      · cases e
    · split at e
      · rename_i l hl
        split at e
        · rename_i hp
          obtain ⟨p, q⟩ := pureV_run e
          have := VRL.plain _ _ (hargs hl) hp
          have harr : args.map ρ = ⟨l⟩ := by apply Array.ext'; simpa using this
          refine ⟨v, ?_, VR.of_plain _ p⟩
          simp only [execOp, resolve, harr]
          exact (andThen_bind (k := fun v => pure (Next.value v)) (q w)).trans rfl
        · cases e
      · cases e
    · cases e
end
end Go.Am
