/- Binary operations. -/
import Derived.Test.YtpmehdggikjkfaaGreatDoorOpA
namespace Go.Proofs.YtpmehdggikjkfaaGreatDoor.Rf
open Go
section
variable {P : Program} {E : Env} {W : World} {β : Bt}
theorem shBy_spec {k : IntKind} {b : Int} {n : Nat} (h : shBy k b = some n) : ¬ b < 0 ∧ n = min b.toNat k.bits := by
  cases b with
  | negSucc b => cases h
  | ofNat m =>
    simp only [shBy, Option.some.injEq] at h
    refine ⟨by simp only [Int.ofNat_eq_natCast]; omega, ?_⟩
    rw [nbits_eq, ble_eq] at h
    by_cases hm : m ≤ k.bits
    · simp [hm] at h; subst h; simp; omega
    · simp [hm] at h; subst h; simp; omega
theorem mk_data (l : List UInt8) (s : ByteArray) (h : s.data.toList = l) : (⟨⟨l⟩⟩ : ByteArray) = s := by
  subst h; rfl
theorem append_mk (a b : ByteArray) : (⟨⟨a.data.toList ++ b.data.toList⟩⟩ : ByteArray) = a ++ b := by
  apply mk_data
  simp [ByteArray.data_append]
theorem size_data (s : ByteArray) : s.size = s.data.toList.length := (Array.length_toList).symm
theorem veq_run1 {t : TypeId} {ds : TypeDesc} (d : Nat) (hu : P.underlying t = some ds) {x y x' y' : Value} (hx : VR β x x') (hy : VR β y y') (hd : eqDesc ds x = true) {b : Bool} (h : veq x y = some b) :
    (Op.equalIn (d + 1) t x' y').run P W = .ok b W := by
  cases hx with
  | bool a =>
    cases ds <;> simp only [eqDesc, Bool.false_eq_true] at hd
    cases hy <;> simp only [veq, Option.some.injEq, reduceCtorEq] at h
    subst h
    simp [Op.equalIn, run_underlying hu]
  | complex k a c =>
    cases ds <;> simp only [eqDesc, Bool.false_eq_true] at hd
    cases hy <;> simp only [veq, reduceCtorEq] at h
    rename_i k' a' c'
    by_cases hk : k = k'
    · simp only [hk, decide_true, Option.some.injEq] at h
      subst h
      simp [Op.equalIn, run_underlying hu, hk]
    · simp [hk] at h
  | pnil =>
    cases ds <;> simp only [eqDesc, Bool.false_eq_true] at hd
    cases hy <;> simp only [veq, Option.some.injEq, reduceCtorEq] at h <;> subst h <;> simp [Op.equalIn, run_underlying hu]
  | ptr o hb =>
    cases ds <;> simp only [eqDesc, Bool.false_eq_true] at hd
    cases hy <;> simp only [veq, Option.some.injEq, reduceCtorEq] at h <;> subst h <;> simp [Op.equalIn, run_underlying hu]
  | snil n c hc =>
    cases ds <;> simp only [eqDesc, Bool.false_eq_true] at hd
    cases hy <;> simp only [veq, Option.some.injEq, reduceCtorEq] at h <;> subst h <;> simp [Op.equalIn, run_underlying hu]
  | sl hb hs =>
    cases ds <;> simp only [eqDesc, Bool.false_eq_true] at hd
    cases hy <;> simp only [veq, Option.some.injEq, reduceCtorEq] at h <;> subst h <;> simp [Op.equalIn, run_underlying hu]
  | mnil =>
    cases ds <;> simp only [eqDesc, Bool.false_eq_true] at hd
    cases hy <;> simp only [veq, Option.some.injEq, reduceCtorEq] at h <;> subst h <;> simp [Op.equalIn, run_underlying hu]
  | map hb =>
    cases ds <;> simp only [eqDesc, Bool.false_eq_true] at hd
    cases hy <;> simp only [veq, Option.some.injEq, reduceCtorEq] at h <;> subst h <;> simp [Op.equalIn, run_underlying hu]
  | _ => cases ds <;> simp only [eqDesc, Bool.false_eq_true] at hd
theorem equal_run {t : TypeId} {ds : TypeDesc} (hu : P.underlying t = some ds) {x y x' y' : Value} (hx : VR β x x') (hy : VR β y y') (hd : eqDesc ds x = true) {b : Bool} (h : veq x y = some b) :
    (Op.equal t x' y').run P W = .ok b W := veq_run1 9999 hu hx hy hd h
theorem binEq {t : TypeId} {ds : TypeDesc} (hu : P.underlying t = some ds) {x y x' y' : Value} (hx : VR β x x') (hy : VR β y y') (hd : eqDesc ds x = true) {b : Bool} (h : veq x y = some b) :
    (binOp .eql t x' y').run P W = .ok (.bool b) W ∧ (binOp .neq t x' y').run P W = .ok (.bool (!b)) W := by
  have he := equal_run (W := W) hu hx hy hd h
  have key : (binOp .eql t x' y' = do pure (.bool (← Op.equal t x' y'))) → (binOp .neq t x' y' = do pure (.bool (!(← Op.equal t x' y')))) →
      (binOp .eql t x' y').run P W = .ok (.bool b) W ∧ (binOp .neq t x' y').run P W = .ok (.bool (!b)) W := fun h1 h2 => by
    rw [h1, h2]
    exact ⟨by simp [he], by simp [he]⟩
  cases hx with
  | bool a =>
    cases hy <;> simp only [veq, Option.some.injEq, reduceCtorEq] at h
    exact key rfl rfl
  | complex k a c =>
    cases hy <;> simp only [veq, reduceCtorEq] at h
    rename_i k' a' c'
    by_cases hk : k = k'
    · simp only [hk, decide_true, Option.some.injEq] at h
      subst h
      have hc : ∀ (u v : Nat) (W : World), (Op.Complex.cmp .eql k' u v).run P W = .ok (Op.floatEq k' u v) W := fun u v W => by
        simp [Op.Complex.cmp, Op.floatCmp, Op.floatEq, asBool]
      simp [binOp, Op.complexOp, hk, hc]
    · simp [hk] at h
  | pnil => cases hy <;> simp only [veq, Option.some.injEq, reduceCtorEq] at h <;> exact key rfl rfl
  | ptr o hb => cases hy <;> simp only [veq, Option.some.injEq, reduceCtorEq] at h <;> exact key rfl rfl
  | snil n c hc => cases hy <;> simp only [veq, Option.some.injEq, reduceCtorEq] at h <;> exact key rfl rfl
  | sl hb hs => cases hy <;> simp only [veq, Option.some.injEq, reduceCtorEq] at h <;> exact key rfl rfl
  | mnil => cases hy <;> simp only [veq, Option.some.injEq, reduceCtorEq] at h <;> exact key rfl rfl
  | map hb => cases hy <;> simp only [veq, Option.some.injEq, reduceCtorEq] at h <;> exact key rfl rfl
  | _ => cases ds <;> simp only [eqDesc, Bool.false_eq_true] at hd
theorem guardEq {op : BinOp} {t : TypeId} {ds : TypeDesc} {cx cy : Operand} {x x' : Value} (hx : VR β x x') (hd : eqDesc ds x = true) (y' : Value) : eqGuard op t cx cy x' y' = pure () := by
  cases hx <;> first
    | (cases ds <;> simp only [eqDesc, Bool.false_eq_true] at hd; done)
    | (cases op <;> rfl)
end
end Go.Proofs.YtpmehdggikjkfaaGreatDoor.Rf
