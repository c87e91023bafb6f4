/- Regions that ask the tape for their order: whatever the order. -/
import Derived.Test.YtpmehdggikjkfaaGreatDoorRegI
namespace Go.Proofs.YtpmehdggikjkfaaGreatDoor.Rf
open Go
theorem stable_spec {E : Env} {s : S} {b : Nat} : ∀ {pd : List Pn}, stable E s b pd = true → ∀ p ∈ pd, Nat.testBit b p.j.i = false → evLook E p.j.o p.tm s = some p.v
  | [], _, p, hp, _ => by cases hp
  | q :: r, h, p, hp, hb => by
    simp only [stable] at h
    rcases List.mem_cons.1 hp with e | hp
    · subst e
      rw [hb] at h
      simp only at h
      split at h
      · rename_i v hv
        split at h
        · rename_i hs; rw [hv, same_eq v _ hs]
        · cases h
      · cases h
    · split at h
      · exact stable_spec h p hp hb
      · split at h
        · split at h
          · exact stable_spec h p hp hb
          · cases h
        · cases h
def unl (listed : Array Bool) (its : List It) : Nat := (its.filter (fun x => !(listed.getD x.i false))).length
theorem unl_set {listed : Array Bool} {i : Nat} (hi : i < listed.size) (hn : listed.getD i false = false) : ∀ {its : List It}, (∃ x ∈ its, x.i = i) → unl (listed.setIfInBounds i true) its < unl listed its
  | [], h => by obtain ⟨x, hx, _⟩ := h; cases hx
  | y :: r, h => by
    have hle : ∀ l : List It, unl (listed.setIfInBounds i true) l ≤ unl listed l := fun l => by
      induction l with
      | nil => exact Nat.le_refl _
      | cons z q ih =>
        unfold unl at *
        simp only [List.filter_cons]
        by_cases hz : listed.getD z.i false = true
        · have h1 : (listed.setIfInBounds i true).getD z.i false = true := (set_iff hi z.i).2 (.inl hz)
          rw [h1, hz]; simp only [Bool.not_true, Bool.not_false, if_true, Bool.false_eq_true, if_false, List.length_cons]; exact ih
        · have hz' : listed.getD z.i false = false := by simpa using hz
          rw [hz']
          by_cases h1 : (listed.setIfInBounds i true).getD z.i false = true
          · rw [h1]; simp only [Bool.not_true, Bool.not_false, if_true, Bool.false_eq_true, if_false, List.length_cons]; omega
          · have h1' : (listed.setIfInBounds i true).getD z.i false = false := by simpa using h1
            rw [h1']; simp only [Bool.not_true, Bool.not_false, if_true, Bool.false_eq_true, if_false, List.length_cons]; omega
    obtain ⟨x, hx, he⟩ := h
    by_cases hy : y.i = i
    · have h1 : (listed.setIfInBounds i true).getD y.i false = true := (set_iff hi y.i).2 (.inr hy)
      have h2 : listed.getD y.i false = false := by rw [hy]; exact hn
      have := hle r
      unfold unl at *
      simp only [List.filter_cons, h1, h2]
      simp only [Bool.not_true, Bool.not_false, if_true, Bool.false_eq_true, if_false, List.length_cons]; omega
    · have hx' : x ∈ r := by
        rcases List.mem_cons.1 hx with e | e
        · rw [e] at he; exact absurd he hy
        · exact e
      have ih := unl_set hi hn (its := r) ⟨x, hx', he⟩
      have h1 : (listed.setIfInBounds i true).getD y.i false = listed.getD y.i false := getD_set_ne false (Ne.symm hy)
      unfold unl at *
      simp only [List.filter_cons, h1]
      by_cases hq : listed.getD y.i false = true
      · rw [hq]; simp only [Bool.not_true, Bool.not_false, if_true, Bool.false_eq_true, if_false, List.length_cons]; exact ih
      · have hq' : listed.getD y.i false = false := by simpa using hq
        rw [hq']; simp only [Bool.not_true, Bool.not_false, if_true, Bool.false_eq_true, if_false, List.length_cons]; omega
/- none may come: all have come -/
theorem all_listed {E : Env} {ops : Array Oper} {its : List It} {listed : Array Bool} (hsz : listed.size = ops.size) (hlat : laterOk E ops.toList [] its = true) (hspec : ∀ x ∈ its, ops.toList[x.i]? = some x.o) (hr : Region.ready .any ops listed = []) :
    ∀ x ∈ its, listed.getD x.i false = true := by
  have key : ∀ (l2 l1 : List It), its = l1 ++ l2 → (∀ x ∈ l1, listed.getD x.i false = true) → ∀ x ∈ its, listed.getD x.i false = true := by
    intro l2
    induction l2 with
    | nil => intro l1 e h x hx; rw [e] at hx; exact h x (by simpa using hx)
    | cons y r ih =>
      intro l1 e h
      refine ih (l1 ++ [y]) (by rw [e]; simp) ?_
      intro x hx
      rcases List.mem_append.1 hx with hx | hx
      · exact h x hx
      · have e1 : x = y := by simpa using hx
        subst e1
        have hy := hspec x (by rw [e]; simp)
        rw [Array.getElem?_toList] at hy
        have hlt : x.i < ops.size := (Array.getElem?_eq_some_iff.1 hy).1
        cases hq : listed.getD x.i false with
        | true => rfl
        | false =>
          have hmem : x.i ∈ Region.ready .any ops listed := by
            rw [mem_ready]
            refine ⟨?_, x.o, hy, fun ed hed hb => ?_⟩
            · have : x.i < listed.size := by omega
              simp [this] at hq ⊢
              exact hq
            · obtain ⟨k, hk1, hk2⟩ := later_split l1 (pre := []) (x := x) (l2 := r) (by rw [← e]; exact hlat) ed (Array.mem_toList_iff.2 hed) hb
              rw [← hk2]
              exact h k (by simpa using hk1)
          rw [hr] at hmem; cases hmem
  exact key its [] rfl (fun x hx => by cases hx)
end Go.Proofs.YtpmehdggikjkfaaGreatDoor.Rf
