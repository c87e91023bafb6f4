/- Regions that ask the tape for their order: lists and marks. -/
import Derived.Test.YtpmehdggikjkfaaGreatDoorRegI
namespace Go.Proofs.YtpmehdggikjkfaaGreatDoor.Rf
open Go
theorem later_split {E : Env} {ops : List Oper} : ∀ (l1 : List It) {pre : List It} {x : It} {l2 : List It}, laterOk E ops pre (l1 ++ x :: l2) = true → (∀ e ∈ x.o.after.toList, Region.binds .any e = true → ∃ k ∈ l1.reverse ++ pre, k.i = e.on)
  | [], pre, x, l2, h => fun e he hb => by obtain ⟨k, h1, h2⟩ := (later_cons h).2.1 e he hb; exact ⟨k, by simpa using h1, h2⟩
  | y :: l1, pre, x, l2, h => fun e he hb => by
    obtain ⟨k, h1, h2⟩ := later_split l1 (later_cons h).2.2.2 e he hb
    exact ⟨k, by simpa [or_comm, or_left_comm, or_assoc] using h1, h2⟩
theorem getD_set_self {listed : Array Bool} {i : Nat} (h : i < listed.size) : (listed.setIfInBounds i true).getD i false = true := by simp [h]
theorem set_iff {listed : Array Bool} {i : Nat} (h : i < listed.size) (j : Nat) : (listed.setIfInBounds i true).getD j false = true ↔ listed.getD j false = true ∨ j = i := by
  by_cases e : j = i
  · subst e; simp [h]
  · rw [getD_set_ne false (Ne.symm e)]; simp [e]
end Go.Proofs.YtpmehdggikjkfaaGreatDoor.Rf
