/- Regions in the text's order, control. -/
import Derived.Test.YtpmehdggikjkfaaGreatDoorOpO
import Derived.Scope
namespace Go.Proofs.YtpmehdggikjkfaaGreatDoor.Rf
open Go
def TR (β : Bt) (tm : TM) (a : Act) : Prop := ∀ t, VR β (evalO tm (.tmp t)) (a.eval (.tmp t))
def FnOk (P : Program) (f : FuncId) : Prop := ∃ fn, P.funcs[f]? = some fn ∧ (fn.name == "runtime.NumGoroutine") = false ∧ fn.body.isNone = false
def SimF (P : Program) (E : Env) (F : FF) : Prop :=
  ∀ f args s v s', F f args s = some (v, s') → FnOk P f ∧ ∀ β W args', VRs β args args' → WR E.ng β s W →
    Calls P f args'.toArray W fun e W' => ∃ v' β', e = .returned v' ∧ VR β' v v' ∧ Step E.ng β s W β' s' W'
section
variable {P : Program} {E : Env} {β β' : Bt} {s s' : S} {W W' : World} {tm tm' : TM} {a : Act}
theorem TR.mono (h : TR β tm a) (hs : Sub β β') : TR β' tm a := fun t => (h t).mono hs
theorem evalO_put (d t : Tmp) (v : Value) : evalO (put tm (some d) v) (.tmp t) = if t = d then v else evalO tm (.tmp t) := by
  show (match (tm.ins d (some v)).find t with | some v => v | none => undef) = _
  rw [T.find_ins]
  by_cases h : t = d
  · rw [if_pos h, if_pos h]
  · rw [if_neg h, if_neg h]; rfl
theorem eval_put_tmp (a : Act) (d t : Tmp) (v : Value) (hd : d < a.tmps.size) : (a.put (some d) v).eval (.tmp t) = if t = d then v else a.eval (.tmp t) := by
  show (a.tmps.setIfInBounds d v).getD t undef = if t = d then v else a.tmps.getD t undef
  by_cases h : t = d
  · subst h; simp [hd]
  · simp [Array.getElem?_setIfInBounds_ne (Ne.symm h), h]
theorem TR.put (h : TR β tm a) {dst : Option Tmp} {v v' : Value} (hv : VR β v v') (hd : ∀ d, dst = some d → d < a.tmps.size) : TR β (Rf.put tm dst v) (a.put dst v') := by
  cases dst with
  | none => exact h
  | some d =>
    intro t
    rw [evalO_put, eval_put_tmp a d t v' (hd d rfl)]
    by_cases ht : t = d
    · rw [if_pos ht, if_pos ht]; exact hv
    · rw [if_neg ht, if_neg ht]; exact h t
theorem put_size (a : Act) (dst : Option Tmp) (v : Value) : (a.put dst v).tmps.size = a.tmps.size := by cases dst <;> simp [Act.put]
theorem put_defers' (a : Act) (dst : Option Tmp) (v : Value) : (a.put dst v).defers = a.defers := by cases dst <;> rfl
theorem operand_rel (h : TR β tm a) (hw : WR E.ng β s W) {x : Operand} (hx : operandOk E.ng x = true) : VR β (evalO tm x) (a.eval x) := by
  cases x with
  | tmp t => exact h t
  | const v => exact VR.plain hx
  | global g => obtain ⟨R, hR⟩ := hw.glob g ((blt_iff _ _).1 hx); exact .ptr 0 hR
  | func f => exact .func f .nil .nil
theorem oper_rel (h : TR β tm a) (hw : WR E.ng β s W) {nt : Nat} {o : Oper} (ho : operOk E.ng nt o = true) : ∀ x ∈ o.op.operands.toList, VR β (evalO tm x) (a.eval x) := by
  simp only [operOk, Bool.and_eq_true, List.all_eq_true] at ho
  exact fun x hx => operand_rel h hw (ho.1 x hx)
theorem oper_dst {nt : Nat} {o : Oper} (ho : operOk E.ng nt o = true) (hn : nt ≤ a.tmps.size) : ∀ d, o.dst = some d → d < a.tmps.size := by
  simp only [operOk, Bool.and_eq_true] at ho
  intro d hd
  rw [hd] at ho
  exact Nat.lt_of_lt_of_le ((blt_iff _ _).1 ho.2) hn
theorem evCall_run {o : Oper} {f : FuncId} {args : List Value} (ha : ∀ x ∈ o.op.operands.toList, VR β (evalO tm x) (a.eval x)) (hf : FnOk P f) (h : evCall o tm = some (f, args)) :
    ∃ args', (execOp a.eval o).run P W = .ok (.enter f args'.toArray) W ∧ VRs β args args' := by
  obtain ⟨dst, op, type, pos, after, guard⟩ := o
  cases op with
  | call c =>
    simp only [evCall] at h
    split at h
    case h_2 => cases h
    rename_i x hc
    split at h
    case h_2 => cases h
    rename_i f' first cap hx
    cases h
    have hxr := ha x (by simp [Op.operands, Call.operands, hc])
    rw [hx] at hxr
    have harg : ∀ x ∈ c.args.toList, VR β (evalO tm x) (a.eval x) := fun x hx => ha x (by
      simp only [Op.operands, Call.operands]
      cases c.callee <;> simp [Array.mem_toList_iff.1 hx])
    obtain ⟨fn, hfn, hname, hbody⟩ := hf
    generalize hq : a.eval x = q at hxr
    obtain ⟨first⟩ := first
    obtain ⟨cap⟩ := cap
    cases hxr with
    | @func _ _ _ first' cap' h1 h2 =>
    refine ⟨first' ++ (c.args.toList.map a.eval ++ cap'), ?_, h1.append ((VRs.map _ harg).append h2)⟩
    show ((do let d ← resolve a.eval c type; invoke d.target d.args : Sem Next)).run P W = _
    have hr : resolve a.eval c type = pure { target := .fn (.func f) cap'.toArray, args := first'.toArray ++ c.args.map a.eval } := by
      unfold resolve
      rw [hc]
      simp only [hq, Deferred.ofValue]
    rw [hr]
    simp only [pure_bind, invoke, callFunc, Sem.run_bind, run_program, Result.andThen_ok, hfn, hname, hbody, Bool.false_eq_true, if_false, Sem.run_pure]
    congr 2
    apply Array.toList_inj.1
    simp
  | _ => cases h
theorem yl_eq (h : TR β tm a) (ops : Array Oper) (j : Nat) : yl ops.toList tm j = yielded ops a.tmps j := by
  unfold yl yielded
  rw [Array.getElem?_toList]
  cases ho : ops[j]? with
  | none => rfl
  | some o =>
    simp only [Option.bind_some]
    cases hd : o.dst with
    | none => rfl
    | some d =>
      simp only [Option.bind_some]
      have ht := h d
      have e1 : evalO tm (.tmp d) = (match tm.find d with | some v => v | none => undef) := rfl
      have e2 : a.eval (.tmp d) = (a.tmps[d]?).getD undef := by simp [Act.eval]
      rw [e1, e2] at ht
      cases h1 : tm.find d with
      | none =>
        rw [h1] at ht
        cases h2 : a.tmps[d]? with
        | none => rfl
        | some w => rw [h2] at ht; simp only [Option.getD_some] at ht; cases ht; rfl
      | some v =>
        rw [h1] at ht
        cases h2 : a.tmps[d]? with
        | none =>
          rw [h2] at ht; simp only [Option.getD_none] at ht
          have hu : (undef : Value) = .tuple ⟨[]⟩ := rfl
          rw [hu] at ht
          cases ht; rfl
        | some w => rw [h2] at ht; simp only [Option.getD_some] at ht; cases ht <;> rfl
theorem wanted_eq (h : TR β tm a) (ops : Array Oper) (o : Oper) : wanted o ops.toList tm = Region.wanted o (yielded ops a.tmps) := by
  unfold wanted Region.wanted
  cases hg : o.guard with
  | none => rfl
  | some jw =>
    obtain ⟨j, w⟩ := jw
    simp only
    rw [yl_eq h]
    cases yielded ops a.tmps j with
    | none => rfl
    | some b => cases b <;> cases w <;> rfl
/- one operation -/
theorem op_wp (hE : EnvOk P E) {F : FF} (hF : SimF P E F) (hw : WR E.ng β s W) (ht : TR β tm a) {nt : Nat} {o : Oper} (ho : operOk E.ng nt o = true) {v : Value} (h : evOp E F o tm s = some (v, s'))
    {K : Act → World → Prop} {Q : Exit → Act → World → Prop} (hK : ∀ v' β' W', VR β' v v' → Step E.ng β s W β' s' W' → K (a.put o.dst v') W') : o.wp P a W K Q := by
  have ha := oper_rel ht hw ho
  unfold evOp at h
  unfold Oper.wp
  have hlook : (match evLook E o tm s with | some v => some (v, s) | none => none) = some (v, s') → o.upon P a K Q ((execOp a.eval o).run P W) := fun h => by
    split at h
    case h_2 => cases h
    rename_i u hu
    cases h
    obtain ⟨v', r1, r2⟩ := look_run (P := P) (W := W) hE hw ha hu
    rw [r1]
    exact hK v' β W r2 (Step.refl hw)
  split at h
  · exact hlook h
  · exact hlook h
  · split at h
    case h_2 => cases h
    rename_i m av hm
    cases h
    obtain ⟨R, ob, v', W', r1, r2, r3⟩ := alloc_run (P := P) hE ha hm W
    rw [r1]
    obtain ⟨q1, q2⟩ := r3 s.n hw.none_n
    exact hK v' _ W' q2 (Step.alloc hw q1 r2.1 r2.2)
  · obtain ⟨nx, v', β', W', r1, r2, r3, r4⟩ := eff_run (P := P) hE hw ha h
    rw [r1]
    rcases r2 with rfl | ⟨rfl, rfl⟩
    · exact hK v' β' W' r3 r4
    · exact hK undef β' W' r3 r4
  · split at h
    case h_2 => cases h
    rename_i f args hc
    obtain ⟨hfn, hcall⟩ := hF f args s v s' h
    obtain ⟨args', r1, r2⟩ := evCall_run (W := W) ha hfn hc
    rw [r1]
    refine (hcall β W args' r2 hw).mono fun e W' ⟨v', β', he, hv, hst⟩ => ?_
    subst he
    exact hK v' β' W' hv hst
  · cases h
theorem ops_wp (hE : EnvOk P E) {F : FF} (hF : SimF P E F) {nt : Nat} {ops : Array Oper} {Q : Exit → Act → World → Prop} : ∀ (l : List Oper) {β : Bt} {s s' : S} {W : World} {tm tm' : TM} {a : Act},
    (∀ o ∈ l, operOk E.ng nt o = true) → nt ≤ a.tmps.size → WR E.ng β s W → TR β tm a → evOps E F ops.toList l tm s = some (tm', s') →
    (∀ a' β' W', a'.tmps.size = a.tmps.size → a'.defers = a.defers → TR β' tm' a' → Step E.ng β s W β' s' W' → Q .normal a' W') → wpList P ops Q l a W
  | [], β, s, s', W, tm, tm', a, _, _, hw, ht, h, hQ => by
    cases h
    exact hQ a β W rfl rfl ht (Step.refl hw)
  | o :: r, β, s, s', W, tm, tm', a, hok, hn, hw, ht, h, hQ => by
    have ho := hok o (by simp)
    have hdst := oper_dst (a := a) ho hn
    simp only [evOps] at h
    unfold wpList
    rw [← wanted_eq ht ops o]
    split at h
    · rename_i hwant
      rw [if_pos hwant]
      left
      split at h
      case h_2 => cases h
      rename_i v s1 hv
      refine op_wp hE hF hw ht ho hv fun v' β' W' hvr hst => ?_
      exact ops_wp hE hF r (fun o' ho' => hok o' (by simp [ho'])) (by rw [put_size]; exact hn) hst.wr ((ht.mono hst.sub).put hvr hdst) h (fun a' β'' W'' h1 h2 h3 h4 => hQ a' β'' W'' (by rw [h1, put_size]) (by rw [h2, put_defers']) h3 (hst.trans h4))
    · rename_i hwant
      rw [if_neg (by rw [hwant]; decide)]
      exact ops_wp hE hF r (fun o' ho' => hok o' (by simp [ho'])) (by rw [put_size]; exact hn) hw (ht.put (undef_rel β) hdst) h (fun a' β'' W'' h1 h2 h3 h4 => hQ a' β'' W'' (by rw [h1, put_size]) (by rw [h2, put_defers']) h3 h4)
end
end Go.Proofs.YtpmehdggikjkfaaGreatDoor.Rf
