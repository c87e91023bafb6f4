/- Functions: what the evaluator gives is what a call gives. -/
import Derived.Test.YtpmehdggikjkfaaGreatDoorCode
namespace Go.Proofs.YtpmehdggikjkfaaGreatDoor.Rf
open Go
structure FnsOk (P : Program) (E : Env) : Prop where
  fn : ∀ f fn, E.fns.find f = some fn → P.funcs[f]? = some fn ∧ (fn.name == "runtime.NumGoroutine") = false ∧ ∀ c, fn.body = some c → codeOk E fn.ntmps c = true
section
variable {P : Program} {E : Env} {β : Bt} {s s' : S} {W : World} {tm : TM} {a : Act}
theorem enter_TR {args args' : List Value} (h : VRs β args args') (n : Nat) : TR β (T.ofList args 0 .nil) { tmps := args'.toArray ++ Array.replicate n undef, defers := [] } := by
  intro t
  have e1 : evalO (T.ofList args 0 .nil) (.tmp t) = (match args[t]? with | some v => v | none => undef) := by
    show (match (T.ofList args 0 .nil).find t with | some v => v | none => undef) = _
    rw [T.find_list]
  have e2 : Act.eval { tmps := args'.toArray ++ Array.replicate n undef, defers := [] } (.tmp t) = ((args'.toArray ++ Array.replicate n undef)[t]?).getD undef := by simp [Act.eval]
  rw [e1, e2]
  by_cases ht : t < args.length
  · rw [List.getElem?_eq_getElem ht]
    obtain ⟨w, h1, h2⟩ := h.get t _ (List.getElem?_eq_getElem ht)
    have hlt : t < args'.toArray.size := by simp; rw [← h.length]; exact ht
    rw [Array.getElem?_append_left hlt]
    have : args'.toArray[t]? = some w := by simpa using h1
    rw [this]; exact h2
  · rw [List.getElem?_eq_none (Nat.le_of_not_lt ht)]
    have hlt : args'.toArray.size ≤ t := by simp only [List.size_toArray]; rw [← h.length]; exact Nat.le_of_not_lt ht
    rw [Array.getElem?_append_right hlt, Array.getElem?_replicate]
    by_cases hq : t - args'.toArray.size < n
    · rw [if_pos hq]; exact undef_rel β
    · rw [if_neg hq]; exact undef_rel β
theorem resL_run (hE : EnvOk P E) (hw : WR E.ng β s W) (ht : TR β tm a) : ∀ (l : List ResultVar) {vs : List Value}, resL E tm s l = some vs →
    ∃ ws, (l.mapM (fun (r : ResultVar) => match r with
      | .tmp t => (pure (a.tmps.getD t undef) : Sem Value)
      | .cell c t => do loadVar t (← asAddr (a.tmps.getD c undef)))).run P W = .ok ws W ∧ VRs β vs ws
  | [], vs, h => by cases h; exact ⟨[], by simp, .nil⟩
  | .tmp t :: r, vs, h => by
    simp only [resL] at h
    split at h
    case h_2 => cases h
    rename_i l hl
    cases h
    obtain ⟨ws, h1, h2⟩ := resL_run hE hw ht r hl
    refine ⟨a.tmps.getD t undef :: ws, ?_, .cons (ht t) h2⟩
    simp only [List.mapM_cons, Sem.run_bind, Sem.run_pure, Result.andThen_ok, h1]
  | .cell c t :: r, vs, h => by
    simp only [resL] at h
    split at h
    case h_2 => cases h
    rename_i ad ti hc hti
    split at h
    case h_2 => cases h
    rename_i v hv
    split at h
    case h_2 => cases h
    rename_i q hq
    cases h
    have hcr := ht c
    rw [hc] at hcr
    have e2 : a.eval (.tmp c) = a.tmps.getD c undef := rfl
    rw [e2] at hcr
    obtain ⟨ws, h1, h2⟩ := resL_run hE hw ht r hq
    generalize hg : a.tmps.getD c undef = g at hcr
    have hl := loadAt_run (P := P) (t := t) (v := v) hE hw hcr (by simp only [hti]; exact hv)
    obtain ⟨w, r1, r2⟩ := hl
    refine ⟨w :: ws, ?_, .cons r2 h2⟩
    cases hcr with
    | @ptr i0 b R o hb =>
    have hrun : (loadVar t ⟨b, o, none⟩).run P W = .ok w W := by simpa [Instr.loadAt, Instr.sureAddr] using r1
    have hA : (asAddr (.pointer (some ⟨b, o, none⟩))).run P W = .ok ⟨b, o, none⟩ W := rfl
    simp only [List.mapM_cons, Sem.run_bind, hg, hA, Sem.run_pure, Result.andThen_ok, hrun, h1]
theorem res_run (hE : EnvOk P E) (hw : WR E.ng β s W) (ht : TR β tm a) {fn : Func} {v : Value} (h : res E fn tm s = some (v, s')) : s' = s ∧ ∃ v', (results fn a.tmps).run P W = .ok v' W ∧ VR β v v' := by
  unfold res at h
  have key : ∀ vs, resL E tm s fn.results.toList = some vs → ∃ ws, (fn.results.mapM (fun (r : ResultVar) => match r with
      | .tmp t => (pure (a.tmps.getD t undef) : Sem Value)
      | .cell c t => do loadVar t (← asAddr (a.tmps.getD c undef)))).run P W = .ok ws.toArray W ∧ VRs β vs ws := fun vs hv => by
    obtain ⟨ws, h1, h2⟩ := resL_run hE hw ht _ hv
    refine ⟨ws, ?_, h2⟩
    rw [Array.mapM_eq_mapM_toList, Sem.run_map, h1]
    rfl
  split at h
  · rename_i v0 hv
    cases h
    obtain ⟨ws, h1, h2⟩ := key _ hv
    cases h2 with
    | cons hh hr =>
    cases hr
    refine ⟨rfl, _, ?_, hh⟩
    unfold results
    rw [Sem.run_bind]
    erw [h1]
    rfl
  · rename_i l hne hv
    cases h
    obtain ⟨ws, h1, h2⟩ := key _ hv
    refine ⟨rfl, .tuple ws.toArray, ?_, .tuple h2⟩
    unfold results
    rw [Sem.run_bind]
    erw [h1]
    have hl : ¬ (ws.toArray.size = 1) := by
      intro hq
      have h1 : ws.length = 1 := by simpa using hq
      rw [← h2.length] at h1
      obtain ⟨x, hx⟩ := List.length_eq_one_iff.1 h1
      exact hne x hx
    simp only [Result.andThen_ok, dif_neg hl, Sem.run_pure]
  · cases h
theorem fn_sim (hE : EnvOk P E) (hFn : FnsOk P E) (hm : P.follows .mixedOrders = true) {G : FuncId → List Value → S → Option (Option (Value × S))}
    (hG : SimF P E (fun f args s => match G f args s with | some r => r | none => none)) : ∀ n, SimF P E (evF E G n) := by
  intro n
  induction n with
  | zero => intro f args s v s' h; cases h
  | succ n ih =>
    intro f args s v s' h
    simp only [evF] at h
    split at h
    · rename_i r hr
      subst h
      exact hG f args s v s' (by simp only [hr])
    · split at h
      case h_2 => cases h
      rename_i fn hfn
      split at h
      case h_2 => cases h
      rename_i c hc
      obtain ⟨h1, h2, h3⟩ := hFn.fn f fn hfn
      refine ⟨⟨fn, h1, h2, by rw [hc]; rfl⟩, ?_⟩
      intro β W args' hargs hw
      refine calls_of_wp h1 hc ?_
      have htr := enter_TR hargs (fn.ntmps - args'.toArray.size)
      have hsize : fn.ntmps ≤ (Act.mk (args'.toArray ++ Array.replicate (fn.ntmps - args'.toArray.size) undef) []).tmps.size := by
        simp only [Array.size_append, Array.size_replicate]; omega
      split at h
      · rename_i tm1 s1 hev
        refine Code.wp_mono (fun e a' W' hp => ?_) (code_wp hE hm ih c 1000 (h3 c hc) hsize hw htr hev)
        obtain ⟨rfl, _, hd, β', q3, q4⟩ := hp
        obtain ⟨rfl, v', r1, r2⟩ := res_run (P := P) hE q4.wr q3 h
        exact ⟨hd, v', r1, v', β', rfl, r2, q4⟩
      · rename_i tm1 s1 hev
        refine Code.wp_mono (fun e a' W' hp => ?_) (code_wp hE hm ih c 1000 (h3 c hc) hsize hw htr hev)
        obtain ⟨rfl, _, hd, β', q3, q4⟩ := hp
        obtain ⟨rfl, v', r1, r2⟩ := res_run (P := P) hE q4.wr q3 h
        exact ⟨hd, v', r1, v', β', rfl, r2, q4⟩
      · cases h
end
end Go.Proofs.YtpmehdggikjkfaaGreatDoor.Rf
