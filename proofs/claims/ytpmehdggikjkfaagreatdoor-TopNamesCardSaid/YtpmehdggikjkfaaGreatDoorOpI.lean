/- Operations that change nothing: all of them. -/
import Derived.Test.YtpmehdggikjkfaaGreatDoorOpH
namespace Go.Proofs.YtpmehdggikjkfaaGreatDoor.Rf
open Go
section
variable {P : Program} {E : Env} {W W' : World} {β : Bt} {s : S} {tm : TM} {ρ : Operand → Value}
theorem vrun {x : Sem Value} {v : Value} (h : x.run P W = .ok v W') : ((do pure (Next.value (← x)) : Sem Next)).run P W = .ok (.value v) W' := by
  rw [Sem.run_bind, h]; rfl
theorem vrun_ex {x : Sem Value} {v : Value} (h : ∃ v', x.run P W = .ok v' W ∧ VR β v v') : ∃ v', ((do pure (Next.value (← x)) : Sem Next)).run P W = .ok (.value v') W ∧ VR β v v' :=
  let ⟨v', h1, h2⟩ := h; ⟨v', vrun h1, h2⟩
theorem toList_one {α : Type} {a : Array α} {x : α} (h : a.toList = [x]) : a = #[x] := by cases a; simp at h; subst h; rfl
theorem toList_two {α : Type} {a : Array α} {x y : α} (h : a.toList = [x, y]) : a = #[x, y] := by cases a; simp at h; subst h; rfl
theorem toList_cons {α : Type} {a : Array α} {x : α} {r : List α} (h : a.toList = x :: r) : a = (x :: r).toArray := by cases a; simp at h; subst h; rfl
theorem call_builtin {c : Call} {b : Builtin} {ty : TypeId} (hc : c.callee = .builtin b) : ((do let d ← resolve ρ c ty; invoke d.target d.args : Sem Next)) = builtin b c.argTypes ty (c.args.map fun | .const _ => true | _ => false) (c.args.map ρ) := by
  unfold resolve
  rw [hc]
  rfl
theorem look_run (hE : EnvOk P E) (hw : WR E.ng β s W) {o : Oper} {v : Value} (ha : ∀ x ∈ o.op.operands.toList, VR β (evalO tm x) (ρ x)) (h : evLook E o tm s = some v) :
    ∃ v', (execOp ρ o).run P W = .ok (.value v') W ∧ VR β v v' := by
  obtain ⟨dst, op, type, pos, after, guard⟩ := o
  cases op with
  | move x => cases h; exact ⟨_, rfl, ha x (by simp [Op.operands])⟩
  | assign x => cases h; exact ⟨_, rfl, ha x (by simp [Op.operands])⟩
  | pick c a b =>
    have hc := ha c (by simp [Op.operands])
    simp only [evLook] at h
    split at h
    · rename_i he; rw [he] at hc; cases h
      refine ⟨ρ a, ?_, ha a (by simp [Op.operands])⟩
      have : ρ c = .bool true := by generalize ρ c = q at hc; cases hc; rfl
      simp [execOp, this, asBool]
    · rename_i he; rw [he] at hc; cases h
      refine ⟨ρ b, ?_, ha b (by simp [Op.operands])⟩
      have : ρ c = .bool false := by generalize ρ c = q at hc; cases hc; rfl
      simp [execOp, this, asBool]
    · cases h
  | build t ps =>
    simp only [evLook] at h
    split at h
    case h_2 => cases h
    rename_i ti ht
    split at h
    case h_2 => cases h
    rename_i z hz
    exact vrun_ex (build_run hE ht hz (fun x hx => ha x (by simpa [Op.operands] using hx)) h)
  | load t a => exact vrun_ex (loadAt_run hE hw (ha a (by simp [Op.operands])) h)
  | nilCheck x =>
    have hx := ha x (by simp [Op.operands])
    simp only [evLook] at h
    split at h
    · rename_i a he; rw [he] at hx; cases h
      refine ⟨ρ x, ?_, hx⟩
      generalize hq : ρ x = q at hx
      cases hx; simp [execOp, hq]
    · rename_i f a b he; rw [he] at hx; cases h
      refine ⟨ρ x, ?_, hx⟩
      generalize hq : ρ x = q at hx
      cases hx; simp [execOp, hq]
    · rename_i a n c he; rw [he] at hx; cases h
      refine ⟨ρ x, ?_, hx⟩
      generalize hq : ρ x = q at hx
      cases hx <;> simp [execOp, hq]
    · cases h
  | binOp op t x y yt =>
    obtain ⟨h1, h2⟩ := bin_run (P := P) (W := W) (cx := x) (cy := y) hE (ha x (by simp [Op.operands])) (ha y (by simp [Op.operands])) h
    exact ⟨v, vrun h1, h2⟩
  | unOp op t x =>
    obtain ⟨h1, h2⟩ := unOp_run (P := P) (W := W) (ha x (by simp [Op.operands])) h
    exact ⟨v, vrun h1, h2⟩
  | convert src dst x => exact vrun_ex (look_convert hE hw (ha x (by simp [Op.operands])) h)
  | makeInterface t x => exact vrun_ex (makeInterface_run hE (ha x (by simp [Op.operands])) h)
  | makeFunc fn first cap =>
    cases fn with
    | func f =>
      cases h
      refine ⟨.func (.func f) ⟨first.toList.map ρ⟩ ⟨cap.toList.map ρ⟩, ?_, .func f (VRs.map _ fun x hx => ha x (by simp [Op.operands, Array.mem_toList_iff.1 hx])) (VRs.map _ fun x hx => ha x (by simp [Op.operands, Array.mem_toList_iff.1 hx]))⟩
      refine vrun ?_
      simp only [Instr.makeFunc, Sem.run_pure]
      congr 3 <;> (apply Array.toList_inj.1; simp)
    | _ => cases h
  | slice t x lo hi mx =>
    refine vrun_ex (slice_run hE (ha x (by simp [Op.operands])) (fun y hy => ha y (by simp [Op.operands, hy])) (fun y hy => ha y (by simp [Op.operands, hy])) (fun y hy => ha y (by simp [Op.operands, hy])) h)
  | fieldAddr t x i => exact vrun_ex (fieldAt_run hE (ha x (by simp [Op.operands])) h)
  | field t x i => exact vrun_ex (field_run hE (ha x (by simp [Op.operands])) h)
  | indexAddr t x i => exact vrun_ex (indexAt_run hE (ha x (by simp [Op.operands])) (ha i (by simp [Op.operands])) h)
  | index t x i => exact vrun_ex (index_run hE (ha x (by simp [Op.operands])) (ha i (by simp [Op.operands])) h)
  | lookup t x k ok => exact vrun_ex (lookup_run hE hw (ha x (by simp [Op.operands])) (ha k (by simp [Op.operands])) h)
  | extract x i => exact vrun_ex (extract_run (ha x (by simp [Op.operands])) h)
  | call c =>
    have harg : ∀ x ∈ c.args.toList, VR β (evalO tm x) (ρ x) := fun x hx => ha x (by
      simp only [Op.operands, Call.operands]
      cases c.callee <;> simp [Array.mem_toList_iff.1 hx])
    show ∃ v', ((do let d ← resolve ρ c type; invoke d.target d.args : Sem Next)).run P W = .ok (.value v') W ∧ VR β v v'
    simp only [evLook] at h
    split at h
    · rename_i x t rest hc hargs hts
      rw [call_builtin hc]
      have hx := harg x (by rw [hargs]; simp)
      obtain ⟨h1, h2⟩ := len_run (P := P) (W := W) (rest := rest) (ty := type) hE hw hx h
      refine ⟨v, ?_, h2⟩
      rw [toList_one hargs, toList_cons hts, show (#[x] : Array Operand).map ρ = #[ρ x] by simp]
      exact vrun h1
    · rename_i x t rest hc hargs hts
      rw [call_builtin hc]
      have hx := harg x (by rw [hargs]; simp)
      obtain ⟨h1, h2⟩ := cap_run (P := P) (W := W) (rest := rest) (ty := type) hE hx h
      refine ⟨v, ?_, h2⟩
      rw [toList_one hargs, toList_cons hts, show (#[x] : Array Operand).map ρ = #[ρ x] by simp]
      exact vrun h1
    · rename_i x y hc hargs
      rw [call_builtin hc]
      obtain ⟨h1, h2⟩ := min_run (P := P) (W := W) (ts := c.argTypes) (ty := type) (harg x (by rw [hargs]; simp)) (harg y (by rw [hargs]; simp)) h
      refine ⟨v, ?_, h2⟩
      rw [toList_two hargs, show (#[x, y] : Array Operand).map ρ = #[ρ x, ρ y] by simp]
      exact vrun h1
    · rename_i x y hc hargs
      rw [call_builtin hc]
      obtain ⟨h1, h2⟩ := max_run (P := P) (W := W) (ts := c.argTypes) (ty := type) (harg x (by rw [hargs]; simp)) (harg y (by rw [hargs]; simp)) h
      refine ⟨v, ?_, h2⟩
      rw [toList_two hargs, show (#[x, y] : Array Operand).map ρ = #[ρ x, ρ y] by simp]
      exact vrun h1
    · cases h
  | _ => cases h
end
end Go.Proofs.YtpmehdggikjkfaaGreatDoor.Rf
