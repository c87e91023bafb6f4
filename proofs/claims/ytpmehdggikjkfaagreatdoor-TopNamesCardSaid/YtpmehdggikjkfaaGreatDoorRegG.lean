/- Regions that ask the tape for their order: model and run together. -/
import Derived.Test.YtpmehdggikjkfaaGreatDoorRegE
namespace Go.Proofs.YtpmehdggikjkfaaGreatDoor.Rf
open Go
section
variable {E : Env} {ops : List Oper} {nt sz : Nat} {ds : List Deferred} {β0 β β' : Bt} {s0 s s1 : S} {W0 W W' : World} {pre : List It} {L : Nat → Prop} {val : Nat → Value} {tmk : Nat → TM} {idk : Nat → Nat} {tm : TM} {pd : List Pn} {a : Act}
theorem Inv.sync (h : Inv E ops nt ds sz β0 s0 W0 pre L val tmk idk tm s pd β a W) {j : It} (hj : ops[j.i]? = some j.o ∧ Msk ops j.o j.b) (hp : ∀ k ∈ pre, Pair ops k j)
    (haf : ∀ e ∈ j.o.after.toList, Region.binds .any e = true → L e.on) {v v' : Value} (hv : VR β' v v') (hst1 : Step E.ng β s W β' s1 W')
    (hlook : ∀ k ∈ pre, ¬ L k.i → kind E k.o.op = .look → evLook E k.o (tmk k.i) s = some (val k.i) → (∃ p ∈ pd, p.j = k ∧ p.tm = tmk k.i ∧ p.v = val k.i) → evLook E k.o (tmk k.i) s1 = some (val k.i))
    (hdst : ∀ d, j.o.dst = some d → d < a.tmps.size) :
    Inv E ops nt ds sz β0 s0 W0 (j :: pre) (fun q => L q ∨ q = j.i) val tmk idk (put tm j.o.dst v) s1 pd β' (a.put j.o.dst v') W' := by
  have hne : ∀ k ∈ pre, k.i ≠ j.i := fun k hk => (hp k hk).ne
  have hbj : ∀ q, Nat.testBit j.b q = true → L q := fun q hq => hj.2 L h.cl haf q hq
  have old : ∀ k, k ∈ j :: pre → ¬ (L k.i ∨ k.i = j.i) → k ∈ pre ∧ ¬ L k.i := fun k hk hL => by
    rcases List.mem_cons.1 hk with e | hq
    · exact absurd (.inr (by rw [e])) hL
    · exact ⟨hq, fun q => hL (.inl q)⟩
  constructor
  case sub => exact fun q hq => hq.elim (fun hq => by obtain ⟨k, h1, h2⟩ := h.sub q hq; exact ⟨k, by simp [h1], h2⟩) (fun e => ⟨j, by simp, e.symm⟩)
  case cl =>
    intro q o ho hq e he hb
    rcases hq with hq | rfl
    · exact .inl (h.cl q o ho hq e he hb)
    · rw [hj.1] at ho; cases ho; exact .inl (haf e he hb)
  case pw => exact List.Pairwise.cons (fun k hk => hp k hk) h.pw
  case pcl =>
    intro k hk e he' hb
    rcases List.mem_cons.1 hk with e1 | hk
    · rw [e1] at he'
      obtain ⟨k', h1, h2⟩ := h.sub _ (haf e he' hb); exact ⟨k', by simp [h1], h2⟩
    · obtain ⟨k', h1, h2⟩ := h.pcl k hk e he' hb; exact ⟨k', by simp [h1], h2⟩
  case mem =>
    intro k hk
    rcases List.mem_cons.1 hk with e | hk
    · rw [e]; exact hj
    · exact h.mem k hk
  case step => exact h.step.trans hst1
  case size => rw [put_size]; exact h.size
  case szz => rw [put_size]; exact h.szz
  case dfs => rw [put_defers']; exact h.dfs
  case tr =>
    intro t ht
    by_cases hd : j.o.dst = some t
    · rw [hd, evalO_put, if_pos rfl, eval_put_tmp a t t v' (hdst t hd), if_pos rfl]; exact hv
    · rw [evalO_put_ne v hd, eval_put_ne v' hd]
      exact (h.tr t fun k hk hL => ht k (by simp [hk]) (fun hq => hq.elim hL (hne k hk))).mono hst1.sub
  case vd =>
    intro k hk hL d hd
    obtain ⟨hk1, hL1⟩ := old k hk hL
    rw [evalO_put_ne v ((hp k hk1).dst d hd)]
    exact h.vd k hk1 hL1 d hd
  case V =>
    intro k hk k' hk' hL hL' t ht hd hbit
    obtain ⟨hk1, hL1⟩ := old k hk hL
    obtain ⟨hk2, hL2⟩ := old k' hk' hL'
    exact h.V k hk1 k' hk2 hL1 hL2 t ht hd hbit
  case O =>
    intro k hk hL t ht hno
    obtain ⟨hk1, hL1⟩ := old k hk hL
    have hd : j.o.dst ≠ some t := fun hd => hL1 (hbj _ ((hp k hk1).wr t hd ht))
    rw [eval_put_ne v' hd]
    exact (h.O k hk1 hL1 t ht fun k' hk' hL' hd' => hno k' (by simp [hk']) (fun hq => hq.elim hL' (hne k' hk')) hd').mono hst1.sub
  case rc =>
    intro k hk hL
    obtain ⟨hk1, hL1⟩ := old k hk hL
    rcases h.rc k hk1 hL1 with h1 | ⟨h1, h2 | ⟨h2, h3, h4⟩ | ⟨h2, m, av, h3, h4, h5, h6, h7⟩⟩
    · exact .inl h1
    · exact .inr ⟨h1, .inl ⟨h2.1, by rw [← h2.2]; exact pure_indep h2.1 _ _ _⟩⟩
    · exact .inr ⟨h1, .inr (.inl ⟨h2, hlook k hk1 hL1 h2 h3 h4, h4⟩)⟩
    · have hlt : idk k.i < s.n := h.step.wr.live _ _ h5
      refine .inr ⟨h1, .inr (.inr ⟨h2, m, av, h3, h4, by rw [hst1.mfr _ hlt h6]; exact h5, ?_, h7⟩)⟩
      cases hb : β' (idk k.i) with
      | none => rfl
      | some x => rw [hst1.old _ x hlt hb] at h6; cases h6
  case ids =>
    intro k hk k' hk' hL hL'
    obtain ⟨hk1, hL1⟩ := old k hk hL
    obtain ⟨hk2, hL2⟩ := old k' hk' hL'
    exact h.ids k hk1 k' hk2 hL1 hL2
  case pdm => exact fun p hp1 => by obtain ⟨q1, q2⟩ := h.pdm p hp1; exact ⟨by simp [q1], q2⟩
end
/- Regions that ask the tape for their order: one operation that the model has done already. -/
section
variable {P : Program} {E : Env} {nt sz : Nat} {ds : List Deferred} {β0 β β' : Bt} {s0 s s1 : S} {W0 W W' : World} {pre : List It} {L : Nat → Prop} {val : Nat → Value} {tmk : Nat → TM} {idk : Nat → Nat} {tm : TM} {pd : List Pn} {a : Act}
theorem Inv.opnd {ops : List Oper} (h : Inv E ops nt ds sz β0 s0 W0 pre L val tmk idk tm s pd β a W) {k0 : It} (hk0 : k0 ∈ pre) (hL0 : ¬ L k0.i) (haf : ∀ e ∈ k0.o.after.toList, Region.binds .any e = true → L e.on) :
    ∀ t ∈ names ops k0.o, VR β (evalO (tmk k0.i) (.tmp t)) (a.eval (.tmp t)) := fun t ht =>
  h.O k0 hk0 hL0 t ht fun k' _ hL' _ => by
    cases hb : Nat.testBit k0.b k'.i with
    | false => rfl
    | true => exact absurd ((h.mem k0 hk0).2 L h.cl haf _ hb) hL'
theorem yl_at {ops : Array Oper} {tk : TM} {a : Act} {β : Bt} {j : Nat} (h : ∀ d, (ops[j]?).bind (·.dst) = some d → VR β (evalO tk (.tmp d)) (a.eval (.tmp d))) : yl ops.toList tk j = yielded ops a.tmps j := by
  unfold yl yielded
  rw [Array.getElem?_toList]
  cases ho : ops[j]? with
  | none => rfl
  | some o =>
    simp only [Option.bind_some]
    cases hd : o.dst with
    | none => rfl
    | some d =>
      simp only [Option.bind_some]
      have ht := h d (by rw [ho]; exact hd)
      have e1 : evalO tk (.tmp d) = (match tk.find d with | some v => v | none => undef) := rfl
      have e2 : a.eval (.tmp d) = (a.tmps[d]?).getD undef := by simp [Act.eval]
      rw [e1, e2] at ht
      cases h1 : tk.find d with
      | none =>
        rw [h1] at ht
        cases h2 : a.tmps[d]? with
        | none => rfl
        | some w => rw [h2] at ht; simp only [Option.getD_some] at ht; cases ht; rfl
      | some v =>
        rw [h1] at ht
        cases h2 : a.tmps[d]? with
        | none =>
          rw [h2] at ht; simp only [Option.getD_none] at ht
          have hu : (undef : Value) = .tuple ⟨[]⟩ := rfl
          rw [hu] at ht
          cases ht; rfl
        | some w => rw [h2] at ht; simp only [Option.getD_some] at ht; cases ht <;> rfl
theorem wanted_at {ops : Array Oper} {tk : TM} {a : Act} {β : Bt} {o : Oper} (h : ∀ t ∈ names ops.toList o, VR β (evalO tk (.tmp t)) (a.eval (.tmp t))) : wanted o ops.toList tk = Region.wanted o (yielded ops a.tmps) := by
  unfold wanted Region.wanted
  cases hg : o.guard with
  | none => rfl
  | some jw =>
    obtain ⟨j, w⟩ := jw
    simp only
    rw [yl_at (β := β) (fun d hd => h d (by
      unfold names
      rw [hg]
      simp only [List.mem_append, Option.mem_toList, Array.getElem?_toList]
      exact .inr hd))]
    cases yielded ops a.tmps j with
    | none => rfl
    | some b => cases b <;> cases w <;> rfl
theorem opnds {ops : List Oper} {o : Oper} {tk : TM} (hw : WR E.ng β s W) (ho : operOk E.ng nt o = true) (h : ∀ t ∈ names ops o, VR β (evalO tk (.tmp t)) (a.eval (.tmp t))) : ∀ x ∈ o.op.operands.toList, VR β (evalO tk x) (a.eval x) := by
  simp only [operOk, Bool.and_eq_true, List.all_eq_true] at ho
  intro x hx
  have hxo := ho.1 x hx
  cases x with
  | tmp t => exact h t (List.mem_append_left _ (List.mem_filterMap.2 ⟨.tmp t, hx, rfl⟩))
  | const v => exact VR.plain hxo
  | global g => obtain ⟨R, hR⟩ := hw.glob g ((blt_iff _ _).1 hxo); exact .ptr 0 hR
  | func f => exact .func f .nil .nil
theorem Inv.late_wp (hE : EnvOk P E) {ops : Array Oper} {Q : Exit → Act → World → Prop} (h : Inv E ops.toList nt ds sz β0 s0 W0 pre L val tmk idk tm s pd β a W) (hok : ∀ o ∈ ops.toList, operOk E.ng nt o = true) {k0 : It} (hk0 : k0 ∈ pre) (hL0 : ¬ L k0.i)
    (haf : ∀ e ∈ k0.o.after.toList, Region.binds .any e = true → L e.on) {K : Act → World → Prop}
    (hK : ∀ β' a' W', Inv E ops.toList nt ds sz β0 s0 W0 pre (fun q => L q ∨ q = k0.i) val tmk idk tm s pd β' a' W' → K a' W') : wpOp P ops Q k0.i K a W := by
  have hmem := (h.mem k0 hk0).1
  rw [Array.getElem?_toList] at hmem
  have ho := hok k0.o (List.mem_of_getElem? (h.mem k0 hk0).1)
  have hnm := h.opnd hk0 hL0 haf
  have hdst := oper_dst (a := a) ho h.size
  have ha := opnds (β := β) h.step.wr ho hnm
  unfold wpOp
  rw [hmem]
  simp only
  rw [← wanted_at hnm]
  rcases h.rc k0 hk0 hL0 with ⟨h1, h2⟩ | ⟨h1, h2⟩
  · rw [if_neg (by rw [h1]; decide)]
    refine hK β _ W (h.late hk0 haf hL0 (v' := undef) (by rw [h2]; exact undef_rel β) h.step (Sub.refl β) (fun _ _ _ _ _ _ e => e) hdst)
  · rw [if_pos h1]
    left
    unfold Oper.wp
    have look : evLook E k0.o (tmk k0.i) s = some (val k0.i) → k0.o.upon P a K Q ((execOp a.eval k0.o).run P W) := fun hl => by
      obtain ⟨v', r1, r2⟩ := look_run (P := P) hE h.step.wr ha hl
      rw [r1]
      exact hK β _ W (h.late hk0 haf hL0 r2 h.step (Sub.refl β) (fun _ _ _ _ _ _ e => e) hdst)
    rcases h2 with ⟨_, hl⟩ | ⟨_, hl, _⟩ | ⟨hka, m, av, hal, hv, hf, hn, hid⟩
    · exact look hl
    · exact look hl
    · obtain ⟨R, ob, v', W', r1, r2, r3⟩ := alloc_run (P := P) hE ha hal W
      rw [r1]
      obtain ⟨q1, q2⟩ := r3 (idk k0.i) hn
      refine hK _ _ W' (h.late hk0 haf hL0 (by rw [hv]; exact q2) (h.step.ralloc hid hf hn q1 r2.1 r2.2) (sub_upd _ hn) (fun k hk hL hne hkal hw e => ?_) hdst)
      rw [upd_ne _ _ (h.ids k hk k0 hk0 hL hL0 hne hkal hka hw h1)]
      exact e
end
end Go.Proofs.YtpmehdggikjkfaaGreatDoor.Rf
