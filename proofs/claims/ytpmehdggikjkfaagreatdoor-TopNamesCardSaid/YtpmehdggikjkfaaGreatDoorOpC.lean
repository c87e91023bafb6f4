/- Binary operations, all. -/
import Derived.Test.YtpmehdggikjkfaaGreatDoorOpB
namespace Go.Proofs.YtpmehdggikjkfaaGreatDoor.Rf
open Go
section
variable {P : Program} {E : Env} {W : World} {β : Bt}
theorem bin_else (hE : EnvOk P E) {op : BinOp} {t : TypeId} {cx cy : Operand} {x y x' y' v : Value} (hx : VR β x x') (hy : VR β y y')
    (h : (match E.tys.find t with
      | some ti => match eqDesc ti.desc x with
        | true => match op, veq x y with
          | .eql, some b => some (Value.bool b)
          | .neq, some b => some (Value.bool (!b))
          | _, _ => none
        | false => none
      | none => none) = some v) :
    ((do eqGuard op t cx cy x' y'; binOp op t x' y' : Sem Value)).run P W = .ok v W ∧ VR β v v := by
  split at h
  case h_2 => cases h
  rename_i ti ht
  split at h
  case h_2 => cases h
  rename_i hd
  obtain ⟨_, _, hu, _⟩ := hE.info ht
  rw [guardEq hx hd y']
  simp only [pure_bind]
  split at h
  · rename_i b hv
    cases h
    exact ⟨(binEq hu hx hy hd hv).1, .bool _⟩
  · rename_i b hv
    cases h
    exact ⟨(binEq hu hx hy hd hv).2, .bool _⟩
  · cases h
theorem bin_run (hE : EnvOk P E) {op : BinOp} {t : TypeId} {cx cy : Operand} {x y x' y' v : Value} (hx : VR β x x') (hy : VR β y y') (h : bin E op t cx cy x y = some v) :
    ((do eqGuard op t cx cy x' y'; binOp op t x' y' : Sem Value)).run P W = .ok v W ∧ VR β v v := by
  unfold bin at h
  split at h
  · -- whole numbers
    rename_i k a k' b
    cases hx; cases hy
    split at h
    · split at h
      · rename_i n hn
        cases h
        obtain ⟨h1, h2⟩ := shBy_spec hn
        refine ⟨?_, .int _ _⟩
        have hg : eqGuard .shl t cx cy (.int k a) (.int k' b) = pure () := rfl
        rw [hg]
        simp [binOp, Op.shift, h1, h2, wr_eq]
      · cases h
    · split at h
      · rename_i n hn
        cases h
        obtain ⟨h1, h2⟩ := shBy_spec hn
        refine ⟨?_, .int _ _⟩
        have hg : eqGuard .shr t cx cy (.int k a) (.int k' b) = pure () := rfl
        rw [hg]
        simp [binOp, Op.shift, h1, h2]
      · cases h
    · rename_i hn1 hn2
      split at h
      · rename_i hk
        have hk' : k = k' := by simpa [kindEq] using hk
        subst hk'
        exact intOp_run h ⟨fun e => hn1 e, fun e => hn2 e⟩ t cx cy
      · cases h
  · -- texts
    rename_i a b
    cases hx; cases hy
    have hg : eqGuard op t cx cy (.string a) (.string b) = pure () := by cases op <;> rfl
    rw [hg]
    simp only [pure_bind]
    split at h
    · split at h
      · rename_i hl
        cases h
        rw [ble_iff] at hl
        refine ⟨?_, .string _⟩
        rw [append_mk]
        have : ¬ (((a.size + b.size : Nat) : Int) > IntKind.i64.max) := by
          rw [size_data, size_data]
          have : IntKind.i64.max = 9223372036854775807 := by decide
          rw [this]; unfold lim at hl; omega
        simp only [binOp, Op.stringOp, this, if_false]
        rfl
      · cases h
    all_goals first
      | (cases h; refine ⟨?_, .bool _⟩; simp [binOp, Op.stringOp, u8Eq_eq, u8Lt_eq, ByteArray.toList_eq]; done)
      | (cases h; done)
  · -- two nils
    cases hx; cases hy
    split at h
    case h_2 => cases h
    rename_i hc
    split at h
    case h_2 => cases h
    rename_i ti ht
    obtain ⟨_, _, hu, _⟩ := hE.info ht
    split at h
    case h_2 => cases h
    rename_i ms hd
    rw [hd] at hu
    have hg : eqGuard op t cx cy .nilIface .nilIface = pure () := by
      cases op <;> first | rfl | (simp only [eqGuard]; cases cx <;> cases cy <;> first | rfl | (simp [isConst] at hc))
    rw [hg]
    simp only [pure_bind]
    have he : (Op.equal t .nilIface .nilIface).run P W = .ok true W := by
      show (Op.equalIn (9999 + 1) t .nilIface .nilIface).run P W = .ok true W
      generalize 9999 = d
      simp [Op.equalIn, run_underlying hu]
    split at h
    · cases h
      refine ⟨?_, .bool _⟩
      have : binOp .eql t .nilIface .nilIface = (do pure (.bool (← Op.equal t .nilIface .nilIface))) := rfl
      rw [this]; simp [he]
    · cases h
      refine ⟨?_, .bool _⟩
      have : binOp .neq t .nilIface .nilIface = (do pure (.bool (!(← Op.equal t .nilIface .nilIface)))) := rfl
      rw [this]; simp [he]
    · cases h
  · exact bin_else hE hx hy h
end
end Go.Proofs.YtpmehdggikjkfaaGreatDoor.Rf
