/- Regions that ask the tape for their order: what the checks say, and the state of a walk. -/
import Derived.Test.YtpmehdggikjkfaaGreatDoorRegA
namespace Go.Proofs.YtpmehdggikjkfaaGreatDoor.Rf
open Go
structure Pair (ops : List Oper) (k j : It) : Prop where
  ne : k.i ≠ j.i
  dst : ∀ d, k.o.dst = some d → j.o.dst ≠ some d
  rd : ∀ d, k.o.dst = some d → d ∈ names ops j.o → Nat.testBit j.b k.i = true
  wr : ∀ d, j.o.dst = some d → d ∈ names ops k.o → Nat.testBit j.b k.i = true
theorem pair_spec {ops : List Oper} {k j : It} (h : pairOk ops k j = true) : Pair ops k j := by
  simp only [pairOk, Bool.and_eq_true] at h
  obtain ⟨⟨⟨_, h2⟩, h3⟩, h4⟩ := h
  refine ⟨fun e => ?_, fun d hd => ?_, fun d hd hn => ?_, fun d hd hn => ?_⟩
  · rw [beq_of e] at h2; cases h2
  · rw [hd] at h3
    simp only [Bool.and_eq_true, bne_iff_ne, ne_eq] at h3
    exact h3.1
  · rw [hd] at h3
    simp only [Bool.and_eq_true, Bool.or_eq_true, Bool.not_eq_true'] at h3
    rcases h3.2 with h | h
    · rw [List.contains_iff_mem.2 hn] at h; cases h
    · exact h
  · rw [hd] at h4
    simp only [Bool.or_eq_true, Bool.not_eq_true'] at h4
    rcases h4 with h | h
    · rw [List.contains_iff_mem.2 hn] at h; cases h
    · exact h
theorem later_cons {E : Env} {ops : List Oper} {pre r : List It} {j : It} (h : laterOk E ops pre (j :: r) = true) :
    (∀ k ∈ pre, Pair ops k j) ∧ (∀ e ∈ j.o.after.toList, Region.binds .any e = true → ∃ k ∈ pre, k.i = e.on) ∧
    ((∀ k ∈ pre, isChain E k.o = true → Nat.testBit j.b k.i = true) ∨
      (r = [] ∧ ∃ y q, pre = y :: q ∧ isStore y.o = true ∧ isStore j.o = true ∧ ∀ k ∈ q, (isChain E k.o = true → Nat.testBit j.b k.i = true) ∧ (isPure E k.o = true ∨ (Nat.testBit j.b k.i = true ∧ Nat.testBit y.b k.i = true)))) ∧
    laterOk E ops (j :: pre) r = true := by
  simp only [laterOk, Bool.and_eq_true, List.all_eq_true] at h
  obtain ⟨⟨⟨h1, h2⟩, h3⟩, h4⟩ := h
  refine ⟨fun k hk => pair_spec (h1 k hk), fun e he hb => ?_, ?_, h4⟩
  · have := h2 e he
    rw [hb] at this
    simp only [Bool.not_true, Bool.false_or, List.any_eq_true, beq_iff] at this
    exact this
  · simp only [Bool.or_eq_true, List.all_eq_true] at h3
    rcases h3 with h3 | h3
    · left
      intro k hk hc
      have := h3 k hk
      rw [hc] at this
      simpa using this
    · right
      split at h3
      · rename_i y q
        simp only [Bool.and_eq_true, List.all_eq_true] at h3
        refine ⟨rfl, y, q, rfl, h3.1.1, h3.1.2, fun k hk => ?_⟩
        have := h3.2 k hk
        simp only [Bool.or_eq_true, Bool.and_eq_true, Bool.not_eq_true'] at this
        refine ⟨fun hc => ?_, this.2⟩
        rcases this.1 with h | h
        · rw [hc] at h; cases h
        · exact h
      · cases h3
def Special (E : Env) (pre : List It) (j z : It) : Prop := isStore j.o = true ∧ isStore z.o = true ∧ ∀ k ∈ pre, isPure E k.o = true ∨ (Nat.testBit z.b k.i = true ∧ Nat.testBit j.b k.i = true)
def LaterP (E : Env) (ops : List Oper) : List It → List It → Prop
  | _, [] => True
  | pre, j :: r => (∀ k ∈ pre, Pair ops k j) ∧ (∀ e ∈ j.o.after.toList, Region.binds .any e = true → ∃ k ∈ pre, k.i = e.on) ∧
    ((isChain E j.o = true → ∀ x ∈ r, Nat.testBit x.b j.i = true) ∨ ∃ z, r = [z] ∧ Special E pre j z) ∧ LaterP E ops (j :: pre) r
theorem later_bit {E : Env} {ops : List Oper} {x : It} {l2 : List It} : ∀ (l1 : List It) {pre : List It} {j : It}, j ∈ pre → laterOk E ops pre (l1 ++ x :: l2) = true → (∀ q, pre = j :: q → l1 ≠ []) → isChain E j.o = true → Nat.testBit x.b j.i = true
  | [], pre, j, hj, h, hn, hc => by
    rcases (later_cons h).2.2.1 with h1 | ⟨_, y, q, hp, _, _, h2⟩
    · exact h1 j hj hc
    · subst hp
      rcases List.mem_cons.1 hj with e | hq
      · exact absurd rfl (hn q (by rw [e]))
      · exact (h2 j hq).1 hc
  | y :: l1, pre, j, hj, h, hn, hc => by
    refine later_bit l1 (pre := y :: pre) (by simp [hj]) (later_cons h).2.2.2 ?_ hc
    intro q hq hl
    injection hq with e1 e2
    -- 'j' would be behind itself
    have := ((later_cons h).1 j hj).ne
    rw [e1] at this
    exact this rfl
theorem laterP_of {E : Env} {ops : List Oper} : ∀ (D : List It) {pre : List It}, laterOk E ops pre D = true → LaterP E ops pre D
  | [], _, _ => trivial
  | j :: r, pre, h => by
    obtain ⟨l1, l2, l3, l4⟩ := later_cons h
    refine ⟨l1, l2, ?_, laterP_of r l4⟩
    cases r with
    | nil => exact .inl fun _ x hx => by cases hx
    | cons z r' =>
      obtain ⟨_, _, m3, _⟩ := later_cons l4
      rcases m3 with m3 | ⟨hr, y, q, hp, hs1, hs2, h2⟩
      · left
        intro hc x hx
        rcases List.mem_cons.1 hx with e | hx
        · rw [e]; exact m3 j (by simp) hc
        · obtain ⟨a, b, hab⟩ := List.append_of_mem hx
          subst hab
          exact later_bit (E := E) (ops := ops) (x := x) (l2 := b) (z :: a) (pre := j :: pre) (by simp) l4 (fun _ _ => by simp) hc
      · subst hr
        injection hp with e1 e2
        subst e1; subst e2
        exact .inr ⟨z, rfl, hs1, hs2, fun k hk => (h2 k hk).2⟩
end Go.Proofs.YtpmehdggikjkfaaGreatDoor.Rf
