/- Regions that ask the tape for their order: one operation that the model has done already. -/
import Derived.Test.YtpmehdggikjkfaaGreatDoorRegG
namespace Go.Proofs.YtpmehdggikjkfaaGreatDoor.Rf
open Go
section
variable {P : Program} {E : Env} {nt sz : Nat} {ds : List Deferred} {β0 β β' : Bt} {s0 s s1 : S} {W0 W W' : World} {pre : List It} {L : Nat → Prop} {val : Nat → Value} {tmk : Nat → TM} {idk : Nat → Nat} {tm : TM} {pd : List Pn} {a : Act}
theorem Inv.opnd {ops : List Oper} (h : Inv E ops nt ds sz β0 s0 W0 pre L val tmk idk tm s pd β a W) {k0 : It} (hk0 : k0 ∈ pre) (hL0 : ¬ L k0.i) (haf : ∀ e ∈ k0.o.after.toList, Region.binds .any e = true → L e.on) :
    ∀ t ∈ names ops k0.o, VR β (evalO (tmk k0.i) (.tmp t)) (a.eval (.tmp t)) := fun t ht =>
  h.O k0 hk0 hL0 t ht fun k' _ hL' _ => by
    cases hb : Nat.testBit k0.b k'.i with
    | false => rfl
    | true => exact absurd ((h.mem k0 hk0).2 L h.cl haf _ hb) hL'
theorem yl_at {ops : Array Oper} {tk : TM} {a : Act} {β : Bt} {j : Nat} (h : ∀ d, (ops[j]?).bind (·.dst) = some d → VR β (evalO tk (.tmp d)) (a.eval (.tmp d))) : yl ops.toList tk j = yielded ops a.tmps j := by
  unfold yl yielded
  rw [Array.getElem?_toList]
  cases ho : ops[j]? with
  | none => rfl
  | some o =>
    simp only [Option.bind_some]
    cases hd : o.dst with
    | none => rfl
    | some d =>
      simp only [Option.bind_some]
      have ht := h d (by rw [ho]; exact hd)
      have e1 : evalO tk (.tmp d) = (match tk.find d with | some v => v | none => undef) := rfl
      have e2 : a.eval (.tmp d) = (a.tmps[d]?).getD undef := by simp [Act.eval]
      rw [e1, e2] at ht
      cases h1 : tk.find d with
      | none =>
        rw [h1] at ht
        cases h2 : a.tmps[d]? with
        | none => rfl
        | some w => rw [h2] at ht; simp only [Option.getD_some] at ht; cases ht; rfl
      | some v =>
        rw [h1] at ht
        cases h2 : a.tmps[d]? with
        | none =>
          rw [h2] at ht; simp only [Option.getD_none] at ht
          have hu : (undef : Value) = .tuple ⟨[]⟩ := rfl
          rw [hu] at ht
          cases ht; rfl
        | some w => rw [h2] at ht; simp only [Option.getD_some] at ht; cases ht <;> rfl
theorem wanted_at {ops : Array Oper} {tk : TM} {a : Act} {β : Bt} {o : Oper} (h : ∀ t ∈ names ops.toList o, VR β (evalO tk (.tmp t)) (a.eval (.tmp t))) : wanted o ops.toList tk = Region.wanted o (yielded ops a.tmps) := by
  unfold wanted Region.wanted
  cases hg : o.guard with
  | none => rfl
  | some jw =>
    obtain ⟨j, w⟩ := jw
    simp only
    rw [yl_at (β := β) (fun d hd => h d (by
      unfold names
      rw [hg]
      simp only [List.mem_append, Option.mem_toList, Array.getElem?_toList]
      exact .inr hd))]
    cases yielded ops a.tmps j with
    | none => rfl
    | some b => cases b <;> cases w <;> rfl
theorem opnds {ops : List Oper} {o : Oper} {tk : TM} (hw : WR E.ng β s W) (ho : operOk E.ng nt o = true) (h : ∀ t ∈ names ops o, VR β (evalO tk (.tmp t)) (a.eval (.tmp t))) : ∀ x ∈ o.op.operands.toList, VR β (evalO tk x) (a.eval x) := by
  simp only [operOk, Bool.and_eq_true, List.all_eq_true] at ho
  intro x hx
  have hxo := ho.1 x hx
  cases x with
  | tmp t => exact h t (List.mem_append_left _ (List.mem_filterMap.2 ⟨.tmp t, hx, rfl⟩))
  | const v => exact VR.plain hxo
  | global g => obtain ⟨R, hR⟩ := hw.glob g ((blt_iff _ _).1 hxo); exact .ptr 0 hR
  | func f => exact .func f .nil .nil
theorem Inv.late_wp (hE : EnvOk P E) {ops : Array Oper} {Q : Exit → Act → World → Prop} (h : Inv E ops.toList nt ds sz β0 s0 W0 pre L val tmk idk tm s pd β a W) (hok : ∀ o ∈ ops.toList, operOk E.ng nt o = true) {k0 : It} (hk0 : k0 ∈ pre) (hL0 : ¬ L k0.i)
    (haf : ∀ e ∈ k0.o.after.toList, Region.binds .any e = true → L e.on) {K : Act → World → Prop}
    (hK : ∀ β' a' W', Inv E ops.toList nt ds sz β0 s0 W0 pre (fun q => L q ∨ q = k0.i) val tmk idk tm s pd β' a' W' → K a' W') : wpOp P ops Q k0.i K a W := by
  have hmem := (h.mem k0 hk0).1
  rw [Array.getElem?_toList] at hmem
  have ho := hok k0.o (List.mem_of_getElem? (h.mem k0 hk0).1)
  have hnm := h.opnd hk0 hL0 haf
  have hdst := oper_dst (a := a) ho h.size
  have ha := opnds (β := β) h.step.wr ho hnm
  unfold wpOp
  rw [hmem]
  simp only
  rw [← wanted_at hnm]
  rcases h.rc k0 hk0 hL0 with ⟨h1, h2⟩ | ⟨h1, h2⟩
  · rw [if_neg (by rw [h1]; decide)]
    refine hK β _ W (h.late hk0 haf hL0 (v' := undef) (by rw [h2]; exact undef_rel β) h.step (Sub.refl β) (fun _ _ _ _ _ _ e => e) hdst)
  · rw [if_pos h1]
    left
    unfold Oper.wp
    have look : evLook E k0.o (tmk k0.i) s = some (val k0.i) → k0.o.upon P a K Q ((execOp a.eval k0.o).run P W) := fun hl => by
      obtain ⟨v', r1, r2⟩ := look_run (P := P) hE h.step.wr ha hl
      rw [r1]
      exact hK β _ W (h.late hk0 haf hL0 r2 h.step (Sub.refl β) (fun _ _ _ _ _ _ e => e) hdst)
    rcases h2 with ⟨_, hl⟩ | ⟨_, hl, _⟩ | ⟨hka, m, av, hal, hv, hf, hn, hid⟩
    · exact look hl
    · exact look hl
    · obtain ⟨R, ob, v', W', r1, r2, r3⟩ := alloc_run (P := P) hE ha hal W
      rw [r1]
      obtain ⟨q1, q2⟩ := r3 (idk k0.i) hn
      refine hK _ _ W' (h.late hk0 haf hL0 (by rw [hv]; exact q2) (h.step.ralloc hid hf hn q1 r2.1 r2.2) (sub_upd _ hn) (fun k hk hL hne hkal hw e => ?_) hdst)
      rw [upd_ne _ _ (h.ids k hk k0 hk0 hL hL0 hne hkal hka hw h1)]
      exact e
end
end Go.Proofs.YtpmehdggikjkfaaGreatDoor.Rf
