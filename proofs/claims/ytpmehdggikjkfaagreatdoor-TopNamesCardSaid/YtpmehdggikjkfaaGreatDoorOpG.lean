/- Operations that change nothing: slices. -/
import Derived.Test.YtpmehdggikjkfaaGreatDoorOpF
namespace Go.Proofs.YtpmehdggikjkfaaGreatDoor.Rf
open Go
section
variable {P : Program} {E : Env} {W : World} {β : Bt} {s : S} {tm : TM} {ρ : Operand → Value}
theorem bound_run {v : Value} {k : IntKind} {n y : Nat} (hv : v = .int k (n : Int)) (h : n ≤ y) (code : BoundsCode) : (Instr.sliceBound v y code).run P W = .ok n W := by
  subst hv
  have h0 : (0 : Int) ≤ (n : Int) ∧ (n : Int) ≤ (y : Int) := by omega
  simp only [Instr.sliceBound, asIntOf, Sem.run_bind, Sem.run_pure, Result.andThen_ok, h0, and_self, if_true, Int.toNat_natCast]
theorem obnd_rel {d n : Nat} {o : Option Operand} (ha : ∀ x, o = some x → VR β (evalO tm x) (ρ x)) (h : obnd tm d o = some n) : (o = none ∧ n = d) ∨ ∃ x k, o = some x ∧ ρ x = .int k (n : Int) := by
  cases o with
  | none => cases h; exact .inl ⟨rfl, rfl⟩
  | some x => obtain ⟨k, hk⟩ := natOf_rel (ha x rfl) h; exact .inr ⟨x, k, rfl, hk⟩
theorem bounds_run {lo hi : Option Operand} {len cap l h : Nat} (hlo : (lo = none ∧ l = 0) ∨ ∃ x k, lo = some x ∧ ρ x = .int k (l : Int)) (hhi : (hi = none ∧ h = len) ∨ ∃ x k, hi = some x ∧ ρ x = .int k (h : Int))
    (h1 : l ≤ h) (h2 : h ≤ cap) (b : Bool) : (Instr.sliceBounds b len cap (lo.map ρ) (hi.map ρ) none).run P W = .ok (l, h, cap) W := by
  rcases hhi with ⟨rfl, rfl⟩ | ⟨y, ky, rfl, hy⟩ <;> rcases hlo with ⟨rfl, rfl⟩ | ⟨x, kx, rfl, hx⟩
  · simp [Instr.sliceBounds]
  · simp [Instr.sliceBounds, bound_run hx h1]
  · simp [Instr.sliceBounds, bound_run hy h2]
  · simp [Instr.sliceBounds, bound_run hy h2, bound_run hx h1]
theorem bounds3_run {lo : Option Operand} {u y : Operand} {len cap l h m : Nat} {ku ky : IntKind} (hlo : (lo = none ∧ l = 0) ∨ ∃ x k, lo = some x ∧ ρ x = .int k (l : Int)) (hu : ρ u = .int ku (h : Int)) (hy : ρ y = .int ky (m : Int))
    (h1 : l ≤ h) (h2 : h ≤ m) (h3 : m ≤ cap) (b : Bool) : (Instr.sliceBounds b len cap (lo.map ρ) (some (ρ u)) (some (ρ y))).run P W = .ok (l, h, m) W := by
  rcases hlo with ⟨rfl, rfl⟩ | ⟨x, kx, rfl, hx⟩
  · simp [Instr.sliceBounds, bound_run hy h3, bound_run hu h2]
  · simp [Instr.sliceBounds, bound_run hy h3, bound_run hu h2, bound_run hx h1]
theorem SR.eta {R o o' n c c' : Nat} (h : SR R o o' n c c') : n = 0 ∨ o' = o := by
  rcases h with ⟨_, _, e⟩ | ⟨e, _⟩ | ⟨_, _, e, _⟩
  · exact .inr e
  · exact .inr e
  · exact .inl e
theorem slice_run (hE : EnvOk P E) {t : TypeId} {x x' v : Value} {lo hi mx : Option Operand} (hx : VR β x x') (hl : ∀ y, lo = some y → VR β (evalO tm y) (ρ y)) (hh : ∀ y, hi = some y → VR β (evalO tm y) (ρ y)) (hm : ∀ y, mx = some y → VR β (evalO tm y) (ρ y))
    (h : (match (generalizing := false) E.tys.find t with
    | some ti => match (generalizing := false) ti.desc, x with
      | .string, .string b => match (generalizing := false) mx with
        | none => match (generalizing := false) obnd tm 0 lo, obnd tm b.data.toList.length hi with
          | some l, some h => match (generalizing := false) Nat.ble l h && Nat.ble h b.data.toList.length with
            | true => some (Value.string ⟨⟨(b.data.toList.take h).drop l⟩⟩)
            | false => none
          | _, _ => none
        | some _ => none
      | .slice e, .slice a n c => match (generalizing := false) E.tys.find e with
        | some te => match (generalizing := false) obnd tm 0 lo, obnd tm n hi with
          | some l, some h => match (generalizing := false) mx with
            | some y => match (generalizing := false) hi, natOf (evalO tm y) with
              | some _, some m => match (generalizing := false) Nat.ble l h && (Nat.ble h m && (Nat.ble m c && ((Nat.ble m n && (Nat.blt 0 n && Nat.blt m lim)) || Nat.blt c lim))) with
                | true => some (.slice (match (generalizing := false) Nat.beq m l with | true => a | false => a.map (·.add (l * te.cells))) (h - l) (m - l))
                | false => none
              | _, _ => none
            | none => match (generalizing := false) Nat.blt c lim with
              | true => match (generalizing := false) Nat.ble l h && Nat.ble h c with
                | true => some (.slice (match (generalizing := false) Nat.beq c l with | true => a | false => a.map (·.add (l * te.cells))) (h - l) (c - l))
                | false => none
              | false => match (generalizing := false) Nat.ble l h && (Nat.ble h n && Nat.ble l (c - lim)) with
                | true => some (.slice (a.map (·.add (l * te.cells))) (h - l) (c - l))
                | false => none
          | _, _ => none
        | none => none
      | .array n e, .pointer (some a) => match (generalizing := false) E.tys.find e with
        | some te => match (generalizing := false) obnd tm 0 lo, obnd tm n hi, mx with
          | some l, some h, none => match (generalizing := false) Nat.ble l h && (Nat.ble h n && Nat.blt n lim) with
            | true => some (.slice (some (match (generalizing := false) Nat.beq n l with | true => a | false => a.add (l * te.cells))) (h - l) (n - l))
            | false => none
          | _, _, _ => none
        | none => none
      | _, _ => none
    | none => none) = some v) : ∃ v', (Instr.sliceAt t x' (lo.map ρ) (hi.map ρ) (mx.map ρ)).run P W = .ok v' W ∧ VR β v v' := by
  split at h
  case h_2 => cases h
  rename_i ti hti
  rw [Instr.sliceAt, Sem.run_bind, hE.und hti, Result.andThen_ok]
  split at h
  · -- a text
    rename_i b hd
    cases hx
    split at h
    case h_2 => cases h
    split at h
    case h_2 => cases h
    rename_i l hh' e1 e2
    split at h
    case h_2 => cases h
    rename_i hc
    cases h
    simp only [Bool.and_eq_true, ble_iff] at hc
    simp only [hd]
    refine ⟨_, ?_, .string _⟩
    rw [Instr.slice, Sem.run_bind, hE.und hti, Result.andThen_ok, hd]
    have hb := bounds_run (P := P) (W := W) (len := b.size) (cap := b.size) (obnd_rel hl e1) (by rw [size_data]; exact obnd_rel hh e2) hc.1 (by rw [size_data]; exact hc.2) false
    simp only [Option.map_none, Option.isSome_none, Bool.false_eq_true, if_false, hb, Sem.run_bind, Result.andThen_ok, Sem.run_pure]
    congr 2
    apply (mk_data _ _ _).symm
    simp [ByteArray.data_extract, List.drop_take]
  · -- a slice
    rename_i e a n c hd
    split at h
    case h_2 => cases h
    rename_i te hte
    split at h
    case h_2 => cases h
    rename_i l hh' e1 e2
    have o1 := obnd_rel hl e1
    have o2 := obnd_rel hh e2
    simp only [hd]
    rw [Instr.slice, Sem.run_bind, hE.und hti, Result.andThen_ok, hd]
    cases mx with
    | some y =>
      cases hi with
      | none => cases h
      | some u =>
      simp only at h
      cases hm' : natOf (evalO tm y) with
      | none => rw [hm'] at h; cases h
      | some m =>
      rw [hm'] at h
      simp only at h
      split at h
      case h_2 => cases h
      rename_i hc
      cases h
      simp only [Bool.and_eq_true, Bool.or_eq_true, ble_iff, blt_iff] at hc
      obtain ⟨ky, hky⟩ := natOf_rel (hm y rfl) hm'
      have hu : ∃ k, ρ u = .int k (hh' : Int) := by
        rcases o2 with ⟨e0, _⟩ | ⟨x, k, e0, e3⟩
        · cases e0
        · cases e0; exact ⟨k, e3⟩
      obtain ⟨ku, hku⟩ := hu
      cases hx with
      | snil n c hc0 =>
        have hb := bounds3_run (P := P) (W := W) (len := n) o1 hku hky hc.1 hc.2.1 hc.2.2.1 true
        refine ⟨.slice none (hh' - l) (m - l), ?_, ?_⟩
        · simp only [Option.map_some, hb, Sem.run_bind, Result.andThen_ok, hE.size hte, Sem.run_pure]
          congr 1; split <;> rfl
        · have : (match Nat.beq m l with | true => (none : Option Addr) | false => (none : Option Addr).map (·.add (l * te.cells))) = none := by split <;> rfl
          rw [this]
          exact .snil _ _ (by omega)
      | @sl i0 b R o o' n c c' hb0 hs =>
        have hcc : m ≤ c' ∧ o' = o ∧ m < lim := by
          rcases hs with ⟨h1, h2, h3⟩ | ⟨h1, k, h2, h3, h4, h5⟩ | ⟨h1, h2, h3, h4⟩
          · subst h2; exact ⟨hc.2.2.1, h3, by omega⟩
          · rcases hc.2.2.2 with hq | hq
            · exact ⟨by omega, h1, by omega⟩
            · exact absurd hq (by unfold lim big at *; omega)
          · rcases hc.2.2.2 with hq | hq
            · exact absurd hq.2.1 (by omega)
            · exact absurd hq (by omega)
        have hb := bounds3_run (P := P) (W := W) (len := n) (cap := c') o1 hku hky hc.1 hc.2.1 hcc.1 true
        refine ⟨.slice (some ⟨b, if m = l then o else o + l * te.cells, none⟩) (hh' - l) (m - l), ?_, ?_⟩
        · simp only [Option.map_some, hb, Sem.run_bind, Result.andThen_ok, hE.size hte, Sem.run_pure, hcc.2.1]
          by_cases hml : m = l
          · simp [hml]
          · simp [hml, add_mk]
        · have hbq : Nat.beq m l = decide (m = l) := by by_cases hq : m = l <;> simp [hq, beq_of, beq_not]
          by_cases hml : m = l
          · subst hml
            simp only [beq_of, if_true]
            exact .sl hb0 (.inl ⟨by omega, rfl, rfl⟩)
          · simp only [beq_not hml, if_neg hml, Option.map_some, add_mk]
            exact .sl hb0 (.inl ⟨by omega, rfl, rfl⟩)
    | none =>
      simp only at h
      split at h
      · rename_i hlim
        rw [blt_iff] at hlim
        split at h
        case h_2 => cases h
        rename_i hc
        cases h
        simp only [Bool.and_eq_true, ble_iff] at hc
        cases hx with
        | snil n c hc0 =>
          have hb := bounds_run (P := P) (W := W) (len := n) (cap := c) o1 o2 hc.1 hc.2 true
          refine ⟨.slice none (hh' - l) (c - l), ?_, ?_⟩
          · simp only [Option.map_none, hb, Sem.run_bind, Result.andThen_ok, hE.size hte, Sem.run_pure]
            congr 1; split <;> rfl
          · have : (match Nat.beq c l with | true => (none : Option Addr) | false => (none : Option Addr).map (·.add (l * te.cells))) = none := by split <;> rfl
            rw [this]
            exact .snil _ _ (by omega)
        | @sl i0 b R o o' n c c' hb0 hs =>
          have hcc : c' = c ∧ o' = o := by
            rcases hs with ⟨h1, h2, h3⟩ | ⟨h1, k, h2, h3, h4, h5⟩ | ⟨h1, h2, h3, h4⟩
            · exact ⟨h2, h3⟩
            · unfold lim big at *; omega
            · omega
          obtain ⟨rfl, rfl⟩ := hcc
          have hb := bounds_run (P := P) (W := W) (len := n) (cap := c') o1 o2 hc.1 hc.2 true
          refine ⟨.slice (some ⟨b, if c' = l then o' else o' + l * te.cells, none⟩) (hh' - l) (c' - l), ?_, ?_⟩
          · simp only [Option.map_none, hb, Sem.run_bind, Result.andThen_ok, hE.size hte, Sem.run_pure]
            by_cases hml : c' = l
            · simp [hml]
            · simp [hml, add_mk]
          · by_cases hml : c' = l
            · subst hml
              simp only [beq_of, if_true]
              exact .sl hb0 (.inl ⟨by omega, rfl, rfl⟩)
            · simp only [beq_not hml, if_neg hml, Option.map_some, add_mk]
              exact .sl hb0 (.inl ⟨by omega, rfl, rfl⟩)
      · rename_i hlim
        have hlim' : ¬ c < lim := fun hq => by rw [(blt_iff _ _).2 hq] at hlim; cases hlim
        split at h
        case h_2 => cases h
        rename_i hc
        cases h
        simp only [Bool.and_eq_true, ble_iff] at hc
        cases hx with
        | snil n c hc0 => exact absurd hc0 hlim'
        | @sl i0 b R o o' n c c' hb0 hs =>
          have hnc : n ≤ c' := by
            rcases hs with ⟨h1, h2, h3⟩ | ⟨h1, k, h2, h3, h4, h5⟩ | ⟨h1, h2, h3, h4⟩ <;> omega
          have hb := bounds_run (P := P) (W := W) (len := n) (cap := c') o1 o2 hc.1 (by omega) true
          refine ⟨.slice (some ⟨b, if c' = l then o' else o' + l * te.cells, none⟩) (hh' - l) (c' - l), ?_, ?_⟩
          · simp only [Option.map_none, hb, Sem.run_bind, Result.andThen_ok, hE.size hte, Sem.run_pure]
            by_cases hml : c' = l
            · simp [hml]
            · simp [hml, add_mk]
          · simp only [Option.map_some, add_mk]
            refine .sl hb0 ?_
            rcases hs with ⟨h1, h2, h3⟩ | ⟨h1, k, h2, h3, h4, h5⟩ | ⟨h1, h2, h3, h4⟩
            · exact absurd h1 hlim'
            · by_cases hml : c' = l
              · by_cases hl0 : l = 0
                · subst hl0
                  refine .inr (.inl ⟨by simp [h1], k, h2, by omega, by omega, by omega⟩)
                · refine .inr (.inr ⟨by omega, by unfold lim big at *; omega, by omega, by omega⟩)
              · rw [if_neg hml]
                refine .inr (.inl ⟨by rw [h1], k + l, by unfold lim big at *; omega, by omega, by omega, by omega⟩)
            · have : l = 0 := by omega
              subst this
              exact .inr (.inr ⟨by omega, by omega, by omega, by omega⟩)
  · -- an array's place
    rename_i n e a hd
    cases hx with
    | @ptr i0 b R o hb0 =>
    split at h
    case h_2 => cases h
    rename_i te hte
    cases e1 : obnd tm 0 lo with
    | none => rw [e1] at h; cases h
    | some l =>
    cases e2 : obnd tm n hi with
    | none => rw [e1, e2] at h; cases h
    | some hh' =>
    rw [e1, e2] at h
    cases mx with
    | some y => cases h
    | none =>
    simp only at h
    split at h
    case h_2 => cases h
    rename_i hc
    cases h
    simp only [Bool.and_eq_true, ble_iff, blt_iff] at hc
    have hb := bounds_run (P := P) (W := W) (len := n) (cap := n) (obnd_rel hl e1) (obnd_rel hh e2) hc.1 hc.2.1 false
    refine ⟨.slice (some ⟨b, if n = l then o else o + l * te.cells, none⟩) (hh' - l) (n - l), ?_, ?_⟩
    · simp only [hd, Option.map_none, Instr.sureAddr, Sem.run_pure, hb, Sem.run_bind, Result.andThen_ok, hE.size hte]
      by_cases hml : n = l
      · simp [hml]
      · simp [hml, add_mk]
    · by_cases hml : n = l
      · subst hml
        simp only [beq_of, if_true]
        exact .sl hb0 (.inl ⟨by omega, rfl, rfl⟩)
      · simp only [beq_not hml, if_neg hml, add_mk]
        exact .sl hb0 (.inl ⟨by omega, rfl, rfl⟩)
  · cases h
end
end Go.Proofs.YtpmehdggikjkfaaGreatDoor.Rf
