/- Operations that change what stands: together; and calls. -/
import Derived.Test.YtpmehdggikjkfaaGreatDoorOpN
namespace Go.Proofs.YtpmehdggikjkfaaGreatDoor.Rf
open Go
section
variable {P : Program} {E : Env} {W W' : World} {β : Bt} {s s' : S} {tm : TM} {ρ : Operand → Value}
theorem clear_run (hE : EnvOk P E) (hw : WR E.ng β s W) {ts : Array TypeId} {t ty : TypeId} {x x' v : Value} (h0 : ts[0]? = some t) (hx : VR β x x') (h : (match (generalizing := false) E.tys.find t, x with
      | some ti, .slice a n _ => match (generalizing := false) ti.desc, a with
        | .slice _, none => some (Value.tuple #[], s)
        | .slice e, some ad => match (generalizing := false) Nat.beq n 0 with
          | true => some (.tuple #[], s)
          | false => match (generalizing := false) E.tys.find e with
            | some te => match (generalizing := false) zeroL te with
              | some z => match (generalizing := false) storeN E s ad.block ad.off (rep z n) with
                | some s => some (.tuple #[], s)
                | none => none
              | none => none
            | none => none
        | _, _ => none
      | _, _ => none) = some (v, s')) : ∃ W', (Builtin.clear_ ts ty #[x']).run P W = .ok v W' ∧ VR β v v ∧ Step E.ng β s W β s' W' := by
  split at h
  case h_2 => cases h
  rename_i ti a n c hti
  split at h
  · rename_i e hd
    cases h
    cases hx with
    | snil _ _ _ =>
    exact ⟨W, by simp [Builtin.clear_, h0, hE.und hti, hd], .tuple .nil, Step.refl hw⟩
  · rename_i e ad hd
    cases hx with
    | @sl i0 b R o o' _ _ c' hb hsr =>
    split at h
    · rename_i hn
      rw [beq_iff] at hn
      subst hn
      cases h
      exact ⟨W, by simp [Builtin.clear_, h0, hE.und hti, hd], .tuple .nil, Step.refl hw⟩
    · rename_i hn
      have hn0 : n ≠ 0 := fun q => by rw [beq_of q] at hn; cases hn
      split at h
      case h_2 => cases h
      rename_i te hte
      split at h
      case h_2 => cases h
      rename_i z hz
      split at h
      case h_2 => cases h
      rename_i s1 hs
      cases h
      obtain ⟨z0, hz0, hz1, hz2⟩ := zero_rel (β := β) hE hte hz
      rcases hsr.eta with hq | hq
      · exact absurd hq hn0
      · subst hq
        obtain ⟨W', r1, r2, _⟩ := store_run (P := P) (E := E) rfl hw hb (VRs.rep hz2 n) hs
        refine ⟨W', ?_, .tuple .nil, r2⟩
        have hzc : Builtin.zeroCells z0.cells n = (rep z n).toArray := by rw [← hz1, ← cells_toList]; exact range_rep z0.cells n
        cases n with
        | zero => exact absurd rfl hn0
        | succ n => simp [Builtin.clear_, h0, hE.und hti, hd, hE.zeroRun hte hz0, hzc, r1]
  · cases h
theorem urun {x : Sem Unit} (h : x.run P W = .ok () W') : ((do x; pure Next.skip : Sem Next)).run P W = .ok .skip W' := by
  rw [Sem.run_bind, h]; rfl
theorem undef_rel (β : Bt) : VR β undef undef := VR.plain rfl
theorem eff_run (hE : EnvOk P E) (hw : WR E.ng β s W) {o : Oper} {v : Value} (ha : ∀ x ∈ o.op.operands.toList, VR β (evalO tm x) (ρ x)) (h : evEff E o tm s = some (v, s')) :
    EffOut E.ng β s W ((execOp ρ o).run P W) v s' := by
  obtain ⟨dst, op, type, pos, after, guard⟩ := o
  cases op with
  | store t a x =>
    obtain ⟨rfl, W', r1, r2⟩ := store_op (P := P) hE hw (ha a (by simp [Op.operands])) (ha x (by simp [Op.operands])) h
    exact ⟨.skip, undef, β, W', urun r1, .inr ⟨rfl, rfl⟩, undef_rel _, r2⟩
  | convert src dst x =>
    have hx := ha x (by simp [Op.operands])
    simp only [evEff] at h
    split at h
    case h_2 => cases h
    rename_i te a n c hsd hel hex
    split at h
    case h_2 => cases h
    rename_i cc g hed hng hf
    cases h
    rw [hex] at hx
    rw [beq_iff] at hsd
    subst hsd
    rw [ble_iff] at hng
    obtain ⟨e, ti, hti, hd, hte, hut⟩ := elemTI_spec hE hel
    obtain ⟨_, _, hue, _⟩ := hE.info hte
    rw [hed] at hue
    generalize hq : ρ x = q at hx
    cases hx with
    | @sl i0 b R o o' _ _ c' hb hsr =>
    obtain ⟨W', r1, r2⟩ := freeze_step (P := P) hw hf hng hb o'
    refine ⟨.value (.slice (some ⟨b, o', none⟩) n c'), _, β, W', ?_, .inl rfl, .sl hb hsr, r2⟩
    refine vrun ?_
    rw [hq]
    simp [convert, run_underlying hut, run_underlying hue, r1]
  | mapUpdate t x k w =>
    obtain ⟨rfl, W', r1, r2⟩ := mapUpdate_run (P := P) (w' := ρ w) hE hw (ha x (by simp [Op.operands])) (ha k (by simp [Op.operands])) (ha w (by simp [Op.operands])) h
    exact ⟨.skip, undef, β, W', urun r1, .inr ⟨rfl, rfl⟩, undef_rel _, r2⟩
  | call c =>
    have harg : ∀ x ∈ c.args.toList, VR β (evalO tm x) (ρ x) := fun x hx => ha x (by
      simp only [Op.operands, Call.operands]
      cases c.callee <;> simp [Array.mem_toList_iff.1 hx])
    show EffOut E.ng β s W (((do let d ← resolve ρ c type; invoke d.target d.args : Sem Next)).run P W) v s'
    simp only [evEff] at h
    split at h
    · rename_i x y t tx hc hargs hts
      rw [call_builtin hc, toList_two hargs, show (#[x, y] : Array Operand).map ρ = #[ρ x, ρ y] by simp]
      have hx := harg x (by rw [hargs]; simp)
      have hy := harg y (by rw [hargs]; simp)
      have e0 : c.argTypes[0]? = some t := by rw [toList_cons hts]; simp
      have e1 : c.argTypes[1]? = tx.head? := by rw [toList_cons hts]; cases tx <;> simp
      split at h
      case h_2 => cases h
      rename_i te hte
      split at h
      · rename_i m new hap
        obtain ⟨v', β', W', r1, r2, r3⟩ := append_run (P := P) (ty := type) hE hw e0 e1 hte hx hy hap h
        exact ⟨.value v', v', β', W', vrun r1, .inl rfl, r2, r3⟩
      · obtain ⟨v', β', W', r1, r2, r3⟩ := appZ_run (P := P) (ty := type) hE hw e0 e1 hte hx hy h
        exact ⟨.value v', v', β', W', vrun r1, .inl rfl, r2, r3⟩
    · rename_i x y t tx hc hargs hts
      rw [call_builtin hc, toList_two hargs, show (#[x, y] : Array Operand).map ρ = #[ρ x, ρ y] by simp]
      have hx := harg x (by rw [hargs]; simp)
      have hy := harg y (by rw [hargs]; simp)
      have e0 : c.argTypes[0]? = some t := by rw [toList_cons hts]; simp
      split at h
      case h_2 => cases h
      rename_i te hte
      obtain ⟨W', r1, r2, r3⟩ := copy_run (P := P) (ty := type) hE hw e0 hte hx hy h
      exact ⟨.value v, v, β, W', vrun r1, .inl rfl, r2, r3⟩
    · rename_i x t tx hc hargs hts
      rw [call_builtin hc, toList_one hargs, show (#[x] : Array Operand).map ρ = #[ρ x] by simp]
      have hx := harg x (by rw [hargs]; simp)
      have e0 : c.argTypes[0]? = some t := by rw [toList_cons hts]; simp
      obtain ⟨W', r1, r2, r3⟩ := clear_run (P := P) (ty := type) hE hw e0 hx h
      exact ⟨.value v, v, β, W', vrun r1, .inl rfl, r2, r3⟩
    · cases h
  | _ => cases h
end
end Go.Proofs.YtpmehdggikjkfaaGreatDoor.Rf
