/- The program's functions and types are as the evaluator wants them: asked of each, by the kernel. -/
import Derived.Test.YtpmehdggikjkfaaGreatDoorEnv
namespace Go.Proofs.YtpmehdggikjkfaaGreatDoor.Rf
open Go
theorem fns0_ok : fnsOk E0 (Tryz.prog.funcs.toList.take 70) = true := by kernel_rfl
theorem fns1_ok : fnsOk E0 ((Tryz.prog.funcs.toList.drop 70).take 70) = true := by kernel_rfl
theorem fns2_ok : fnsOk E0 ((Tryz.prog.funcs.toList.drop 140).take 66) = true := by kernel_rfl
theorem fns3_ok : fnsOk E0 (Tryz.prog.funcs.toList.drop 207) = true := by kernel_rfl
theorem mixed : Tryz.prog.follows .mixedOrders = true := by kernel_rfl
theorem fns_ok (f : Nat) (fn : Func) (h : Tryz.prog.funcs.toList[f]? = some fn) (hf : f ≠ 206) : fnOk E0 fn = true := by
  have key : ∀ a b, a ≤ f → f < b → fn ∈ (Tryz.prog.funcs.toList.drop a).take (b - a) := fun a b h1 h2 => by
    refine List.mem_of_getElem? (i := f - a) ?_
    rw [List.getElem?_take, if_pos (by omega), List.getElem?_drop, show a + (f - a) = f by omega]
    exact h
  by_cases h1 : f < 70
  · exact fnsOk_mem fns0_ok fn (by simpa using key 0 70 (by omega) h1)
  by_cases h2 : f < 140
  · exact fnsOk_mem fns1_ok fn (key 70 140 (by omega) h2)
  by_cases h3 : f < 206
  · exact fnsOk_mem fns2_ok fn (key 140 206 (by omega) h3)
  · refine fnsOk_mem fns3_ok fn (List.mem_of_getElem? (i := f - 207) ?_)
    rw [List.getElem?_drop, show 207 + (f - 207) = f by omega]
    exact h
theorem fnsOk0 : FnsOk Tryz.prog E0 where
  fn f fn h := by
    have h' := h
    unfold E0 at h'
    rw [envG_fns, T.find_ins] at h'
    by_cases hf : f = 206
    · rw [if_pos hf] at h'; cases h'
    · rw [if_neg hf, T.find_list] at h'
      have hok := fns_ok f fn h' hf
      simp only [fnOk, Bool.and_eq_true, Bool.not_eq_true'] at hok
      refine ⟨by rw [← Array.getElem?_toList]; exact h', hok.1, fun c hc => ?_⟩
      have := hok.2
      rw [hc] at this
      exact this
/- types -/
theorem tysOf_find (P : Program) : ∀ (l : List Nat) (m : T TI) (t : Nat) (ti : TI), (∀ t ti, m.find t = some ti → tyOf P t = some ti) → (tysOf P l m).find t = some ti → tyOf P t = some ti
  | [], _, t, ti, hm, h => hm t ti h
  | x :: r, m, t, ti, hm, h => tysOf_find P r (m.ins x (tyOf P x)) t ti (fun t ti h => by
      rw [T.find_ins] at h
      by_cases e : t = x
      · rw [if_pos e] at h; rw [e]; exact h
      · rw [if_neg e] at h; exact hm t ti h) h
theorem goodTys_mem {P : Program} : ∀ {l : List Nat}, ∀ t ∈ goodTys P l, tyOk P t = true
  | [], t, h => by cases h
  | x :: r, t, h => by
    simp only [goodTys] at h
    split at h
    · rename_i hx
      rcases List.mem_cons.1 h with e | e
      · rw [e]; exact hx
      · exact goodTys_mem t e
    · exact goodTys_mem t h
theorem tysOf_mem (P : Program) : ∀ (l : List Nat) (m : T TI) (t : Nat) (ti : TI), (tysOf P l m).find t = some ti → t ∈ l ∨ m.find t = some ti
  | [], _, t, ti, h => .inr h
  | x :: r, m, t, ti, h => by
    rcases tysOf_mem P r (m.ins x (tyOf P x)) t ti h with h1 | h1
    · exact .inl (by simp [h1])
    · rw [T.find_ins] at h1
      by_cases e : t = x
      · exact .inl (by simp [e])
      · rw [if_neg e] at h1; exact .inr h1
theorem tysOf_nil (P : Program) (l : List Nat) (t : Nat) (ti : TI) (h : (tysOf P l .nil).find t = some ti) : tyOf P t = some ti := tysOf_find P l .nil t ti (fun _ _ h => by cases h) h
theorem tysOf_mem_nil (P : Program) (l : List Nat) (t : Nat) (ti : TI) (h : (tysOf P l .nil).find t = some ti) : t ∈ l := (tysOf_mem P l .nil t ti h).resolve_right fun h => by cases h
theorem envOk0 : EnvOk Tryz.prog E0 := by
  have hty : ∀ t ti, E0.tys.find t = some ti → tyOf Tryz.prog t = some ti := fun t ti h => by
    unfold E0 at h
    rw [envG_tys] at h
    exact tysOf_nil _ _ t ti h
  have hok : ∀ t ti, E0.tys.find t = some ti → tyOk Tryz.prog t = true := fun t ti h => by
    unfold E0 at h
    rw [envG_tys] at h
    exact goodTys_mem t (tysOf_mem_nil _ _ t ti h)
  refine ⟨hty, fun t ti z h hz => ?_, fun t ti z h hz => ?_⟩
  · have h1 := hok t ti h
    unfold tyOk at h1
    rw [hty t ti h] at h1
    simp only [hz, Bool.and_eq_true] at h1
    exact h1.1
  · have h1 := hok t ti h
    unfold tyOk at h1
    rw [hty t ti h] at h1
    simp only [hz, Bool.and_eq_true, beq_iff] at h1
    exact h1.2
end Go.Proofs.YtpmehdggikjkfaaGreatDoor.Rf
