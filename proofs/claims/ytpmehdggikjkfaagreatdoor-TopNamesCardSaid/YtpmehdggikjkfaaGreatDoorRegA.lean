/- Regions that ask the tape for their order: the items, their masks, their order. -/
import Derived.Test.YtpmehdggikjkfaaGreatDoorCtl
namespace Go.Proofs.YtpmehdggikjkfaaGreatDoor.Rf
open Go
/- a set of numbers that holds, with an operation, all that must come before it -/
def Cl (ops : List Oper) (L : Nat → Prop) : Prop := ∀ (j : Nat) o, ops[j]? = some o → L j → ∀ e ∈ o.after.toList, Region.binds .any e = true → L e.on
/- the bits 'b' lie in every such set that holds what 'o' waits for -/
def Msk (ops : List Oper) (o : Oper) (b : Nat) : Prop := ∀ L, Cl ops L → (∀ e ∈ o.after.toList, Region.binds .any e = true → L e.on) → ∀ q, Nat.testBit b q = true → L q
theorem edges_spec (m : T Nat) : ∀ (l : List Edge) (a q : Nat), Nat.testBit (edges m l a) q = true → Nat.testBit a q = true ∨ ∃ e ∈ l, Region.binds .any e = true ∧ (q = e.on ∨ ∃ b, m.find e.on = some b ∧ Nat.testBit b q = true)
  | [], a, q, h => .inl h
  | e :: r, a, q, h => by
    simp only [edges] at h
    split at h
    · rename_i hb
      rcases edges_spec m r _ q h with h1 | ⟨e', h1, h2⟩
      · rw [Nat.testBit_or, Nat.testBit_or, Bool.or_eq_true, Bool.or_eq_true] at h1
        rcases h1 with h1 | h1 | h1
        · exact .inl h1
        · rw [Nat.testBit_two_pow] at h1
          exact .inr ⟨e, by simp, hb, .inl (of_decide_eq_true h1).symm⟩
        · split at h1
          · rename_i b hm
            exact .inr ⟨e, by simp, hb, .inr ⟨b, hm, h1⟩⟩
          · simp at h1
      · exact .inr ⟨e', by simp [h1], h2⟩
    · rcases edges_spec m r _ q h with h1 | ⟨e', h1, h2⟩
      · exact .inl h1
      · exact .inr ⟨e', by simp [h1], h2⟩
theorem edges_msk {ops : List Oper} {m : T Nat} (hm : ∀ k b, m.find k = some b → ∃ o, ops[k]? = some o ∧ Msk ops o b) (o : Oper) : Msk ops o (edges m o.after.toList 0) := by
  intro L hL hafter q hq
  rcases edges_spec m _ _ _ hq with h | ⟨e, h1, h2, h3⟩
  · simp at h
  · have he := hafter e h1 h2
    rcases h3 with rfl | ⟨b, hb, hbq⟩
    · exact he
    · obtain ⟨o', h4, h5⟩ := hm e.on b hb
      exact h5 L hL (fun e' he' hb' => hL e.on o' h4 he e' he' hb') q hbq
theorem items_spec {ops : List Oper} : ∀ (l : List Oper) (i : Nat) (m : T Nat), (∀ j, l[j]? = ops[i + j]?) → (∀ k b, m.find k = some b → ∃ o, ops[k]? = some o ∧ Msk ops o b) →
    (∀ x ∈ itemsFrom l i m, ops[x.i]? = some x.o ∧ Msk ops x.o x.b) ∧ (∀ j, i ≤ j → j < i + l.length → ∃ x ∈ itemsFrom l i m, x.i = j)
  | [], i, m, _, _ => ⟨fun x hx => (by cases hx), fun j h1 h2 => absurd h2 (by simp only [List.length_nil]; omega)⟩
  | o :: r, i, m, hl, hm => by
    have h0 : ops[i]? = some o := by simpa using (hl 0).symm
    have hmsk := edges_msk hm o
    obtain ⟨h1, h2⟩ := items_spec (ops := ops) r (i + 1) (m.ins i (some (edges m o.after.toList 0))) (fun j => by
      have := hl (j + 1)
      rw [List.getElem?_cons_succ] at this
      rw [this]; congr 1; omega) (fun k b hk => by
        rw [T.find_ins] at hk
        by_cases e : k = i
        · rw [if_pos e] at hk; cases hk; subst e; exact ⟨o, h0, hmsk⟩
        · rw [if_neg e] at hk; exact hm k b hk)
    refine ⟨fun x hx => ?_, fun j hj1 hj2 => ?_⟩
    · simp only [itemsFrom, List.mem_cons] at hx
      rcases hx with rfl | hx
      · exact ⟨h0, hmsk⟩
      · exact h1 x hx
    · by_cases e : j = i
      · subst e; exact ⟨_, by simp [itemsFrom]; exact .inl rfl, rfl⟩
      · obtain ⟨x, hx1, hx2⟩ := h2 j (by omega) (by simp only [List.length_cons] at hj2; omega)
        exact ⟨x, by simp only [itemsFrom, List.mem_cons]; exact .inr hx1, hx2⟩
theorem mem_insK (k : Nat) (x : It) : ∀ (l : List (Nat × It)) (y : It), y ∈ snds (insK k x l) ↔ y = x ∨ y ∈ snds l
  | [], y => by simp [insK, snds]
  | (n, z) :: r, y => by
    simp only [insK]
    split
    · simp [snds]
    · simp only [snds, List.mem_cons, mem_insK k x r y]
      constructor
      · rintro (h | h | h) <;> simp [h]
      · rintro (h | h | h) <;> simp [h]
theorem mem_sortK (E : Env) : ∀ (l : List It) (cs : List Nat) (acc : List (Nat × It)) (y : It), y ∈ snds (sortK E l cs acc) ↔ y ∈ l ∨ y ∈ snds acc
  | [], cs, acc, y => by simp [sortK]
  | x :: r, cs, acc, y => by
    simp only [sortK]
    have key : ∀ A B C : Prop, (A ∨ B ∨ C) ↔ ((B ∨ A) ∨ C) := fun A B C => ⟨fun h => h.elim (fun h => .inl (.inr h)) (fun h => h.elim (fun h => .inl (.inl h)) .inr), fun h => h.elim (fun h => h.elim (fun h => .inr (.inl h)) .inl) (fun h => .inr (.inr h))⟩
    split <;> rw [mem_sortK E r, mem_insK, List.mem_cons] <;> exact key _ _ _
theorem mem_ordOf (E : Env) (ops : List Oper) (y : It) : y ∈ ordOf E ops ↔ y ∈ itemsFrom ops 0 .nil := by
  unfold ordOf
  rw [mem_sortK]
  simp [snds]
theorem ord_spec (E : Env) (ops : List Oper) : (∀ x ∈ ordOf E ops, ops[x.i]? = some x.o ∧ Msk ops x.o x.b) ∧ (∀ j, j < ops.length → ∃ x ∈ ordOf E ops, x.i = j) := by
  obtain ⟨h1, h2⟩ := items_spec (ops := ops) ops 0 .nil (fun j => by simp) (fun k b h => by cases h)
  refine ⟨fun x hx => h1 x ((mem_ordOf E ops x).1 hx), fun j hj => ?_⟩
  obtain ⟨x, hx, he⟩ := h2 j (Nat.zero_le _) (by omega)
  exact ⟨x, (mem_ordOf E ops x).2 hx, he⟩
mutual
theorem same_eq : ∀ (v w : Value), same v w = true → v = w
  | .bool a, w, h => by cases w <;> simp [same] at h; rw [h]
  | .int k a, w, h => by cases w <;> simp [same, ieq_eq] at h; rw [h.1, h.2]
  | .float k a, w, h => by cases w <;> simp only [same, Bool.and_eq_true, beq_iff, decide_eq_true_eq, Bool.false_eq_true] at h; rw [h.1, h.2]
  | .complex k a b, w, h => by cases w <;> simp only [same, Bool.and_eq_true, beq_iff, decide_eq_true_eq, Bool.false_eq_true] at h; rw [h.1, h.2.1, h.2.2]
  | .string a, w, h => by cases w <;> simp only [same, Bool.false_eq_true, u8Eq_iff] at h; rw [ba_ext h]
  | .pointer a, w, h => by
    cases w <;> first | (cases a <;> simp only [same, Bool.false_eq_true] at h; done) | skip
    rename_i b
    cases a <;> cases b <;> simp only [same, Bool.false_eq_true, decide_eq_true_eq] at h
    · rfl
    · rw [h]
  | .slice a n c, w, h => by
    cases w <;> first | (cases a <;> simp only [same, Bool.false_eq_true] at h; done) | skip
    rename_i b m d
    cases a <;> cases b <;> simp only [same, Bool.false_eq_true, Bool.and_eq_true, decide_eq_true_eq, beq_iff] at h
    · rw [h.1, h.2]
    · rw [h.1, h.2.1, h.2.2]
  | .map a, w, h => by
    cases w <;> first | (cases a <;> simp only [same, Bool.false_eq_true] at h; done) | skip
    rename_i b
    cases a <;> cases b <;> simp only [same, Bool.false_eq_true, beq_iff] at h
    · rfl
    · rw [h]
  | .chan a, w, h => by cases w <;> simp only [same, Bool.false_eq_true] at h
  | .nilIface, w, h => by cases w <;> simp only [same, Bool.false_eq_true] at h; rfl
  | .nilFunc, w, h => by cases w <;> simp only [same, Bool.false_eq_true] at h; rfl
  | .iface t v, w, h => by
    cases w <;> simp only [same, Bool.false_eq_true, Bool.and_eq_true, beq_iff] at h
    rw [h.1, same_eq _ _ h.2]
  | .func f ⟨a⟩ ⟨b⟩, w, h => by
    cases w <;> first | (cases f <;> simp only [same, Bool.false_eq_true] at h; done) | skip
    rename_i g c d
    obtain ⟨c⟩ := c
    obtain ⟨d⟩ := d
    cases f <;> cases g <;> simp only [same, Bool.false_eq_true, Bool.and_eq_true, beq_iff] at h
    rw [h.1, sameL_eq _ _ h.2.1, sameL_eq _ _ h.2.2]
  | .agg ⟨a⟩, w, h => by
    cases w <;> simp only [same, Bool.false_eq_true] at h
    rw [sameL_eq _ _ h]
  | .tuple ⟨a⟩, w, h => by
    cases w <;> simp only [same, Bool.false_eq_true] at h
    rw [sameL_eq _ _ h]
theorem sameL_eq : ∀ (v w : List Value), sameL v w = true → v = w
  | [], w, h => by cases w <;> simp [sameL] at h; rfl
  | a :: r, w, h => by
    cases w with
    | nil => simp [sameL] at h
    | cons b q => simp only [sameL, Bool.and_eq_true] at h; rw [same_eq a b h.1, sameL_eq r q h.2]
end
/- Regions that ask the tape for their order: what the checks say, and the state of a walk. -/
structure Pair (ops : List Oper) (k j : It) : Prop where
  ne : k.i ≠ j.i
  dst : ∀ d, k.o.dst = some d → j.o.dst ≠ some d
  rd : ∀ d, k.o.dst = some d → d ∈ names ops j.o → Nat.testBit j.b k.i = true
  wr : ∀ d, j.o.dst = some d → d ∈ names ops k.o → Nat.testBit j.b k.i = true
theorem pair_spec {ops : List Oper} {k j : It} (h : pairOk ops k j = true) : Pair ops k j := by
  simp only [pairOk, Bool.and_eq_true] at h
  obtain ⟨⟨⟨_, h2⟩, h3⟩, h4⟩ := h
  refine ⟨fun e => ?_, fun d hd => ?_, fun d hd hn => ?_, fun d hd hn => ?_⟩
  · rw [beq_of e] at h2; cases h2
  · rw [hd] at h3
    simp only [Bool.and_eq_true, bne_iff_ne, ne_eq] at h3
    exact h3.1
  · rw [hd] at h3
    simp only [Bool.and_eq_true, Bool.or_eq_true, Bool.not_eq_true'] at h3
    rcases h3.2 with h | h
    · rw [List.contains_iff_mem.2 hn] at h; cases h
    · exact h
  · rw [hd] at h4
    simp only [Bool.or_eq_true, Bool.not_eq_true'] at h4
    rcases h4 with h | h
    · rw [List.contains_iff_mem.2 hn] at h; cases h
    · exact h
theorem later_cons {E : Env} {ops : List Oper} {pre r : List It} {j : It} (h : laterOk E ops pre (j :: r) = true) :
    (∀ k ∈ pre, Pair ops k j) ∧ (∀ e ∈ j.o.after.toList, Region.binds .any e = true → ∃ k ∈ pre, k.i = e.on) ∧
    ((∀ k ∈ pre, isChain E k.o = true → Nat.testBit j.b k.i = true) ∨
      (r = [] ∧ ∃ y q, pre = y :: q ∧ isStore y.o = true ∧ isStore j.o = true ∧ ∀ k ∈ q, (isChain E k.o = true → Nat.testBit j.b k.i = true) ∧ (isPure E k.o = true ∨ (Nat.testBit j.b k.i = true ∧ Nat.testBit y.b k.i = true)))) ∧
    laterOk E ops (j :: pre) r = true := by
  simp only [laterOk, Bool.and_eq_true, List.all_eq_true] at h
  obtain ⟨⟨⟨h1, h2⟩, h3⟩, h4⟩ := h
  refine ⟨fun k hk => pair_spec (h1 k hk), fun e he hb => ?_, ?_, h4⟩
  · have := h2 e he
    rw [hb] at this
    simp only [Bool.not_true, Bool.false_or, List.any_eq_true, beq_iff] at this
    exact this
  · simp only [Bool.or_eq_true, List.all_eq_true] at h3
    rcases h3 with h3 | h3
    · left
      intro k hk hc
      have := h3 k hk
      rw [hc] at this
      simpa using this
    · right
      split at h3
      · rename_i y q
        simp only [Bool.and_eq_true, List.all_eq_true] at h3
        refine ⟨rfl, y, q, rfl, h3.1.1, h3.1.2, fun k hk => ?_⟩
        have := h3.2 k hk
        simp only [Bool.or_eq_true, Bool.and_eq_true, Bool.not_eq_true'] at this
        refine ⟨fun hc => ?_, this.2⟩
        rcases this.1 with h | h
        · rw [hc] at h; cases h
        · exact h
      · cases h3
def Special (E : Env) (pre : List It) (j z : It) : Prop := isStore j.o = true ∧ isStore z.o = true ∧ ∀ k ∈ pre, isPure E k.o = true ∨ (Nat.testBit z.b k.i = true ∧ Nat.testBit j.b k.i = true)
def LaterP (E : Env) (ops : List Oper) : List It → List It → Prop
  | _, [] => True
  | pre, j :: r => (∀ k ∈ pre, Pair ops k j) ∧ (∀ e ∈ j.o.after.toList, Region.binds .any e = true → ∃ k ∈ pre, k.i = e.on) ∧
    ((isChain E j.o = true → ∀ x ∈ r, Nat.testBit x.b j.i = true) ∨ ∃ z, r = [z] ∧ Special E pre j z) ∧ LaterP E ops (j :: pre) r
theorem later_bit {E : Env} {ops : List Oper} {x : It} {l2 : List It} : ∀ (l1 : List It) {pre : List It} {j : It}, j ∈ pre → laterOk E ops pre (l1 ++ x :: l2) = true → (∀ q, pre = j :: q → l1 ≠ []) → isChain E j.o = true → Nat.testBit x.b j.i = true
  | [], pre, j, hj, h, hn, hc => by
    rcases (later_cons h).2.2.1 with h1 | ⟨_, y, q, hp, _, _, h2⟩
    · exact h1 j hj hc
    · subst hp
      rcases List.mem_cons.1 hj with e | hq
      · exact absurd rfl (hn q (by rw [e]))
      · exact (h2 j hq).1 hc
  | y :: l1, pre, j, hj, h, hn, hc => by
    refine later_bit l1 (pre := y :: pre) (by simp [hj]) (later_cons h).2.2.2 ?_ hc
    intro q hq hl
    injection hq with e1 e2
    -- 'j' would be behind itself
    have := ((later_cons h).1 j hj).ne
    rw [e1] at this
    exact this rfl
theorem laterP_of {E : Env} {ops : List Oper} : ∀ (D : List It) {pre : List It}, laterOk E ops pre D = true → LaterP E ops pre D
  | [], _, _ => trivial
  | j :: r, pre, h => by
    obtain ⟨l1, l2, l3, l4⟩ := later_cons h
    refine ⟨l1, l2, ?_, laterP_of r l4⟩
    cases r with
    | nil => exact .inl fun _ x hx => by cases hx
    | cons z r' =>
      obtain ⟨_, _, m3, _⟩ := later_cons l4
      rcases m3 with m3 | ⟨hr, y, q, hp, hs1, hs2, h2⟩
      · left
        intro hc x hx
        rcases List.mem_cons.1 hx with e | hx
        · rw [e]; exact m3 j (by simp) hc
        · obtain ⟨a, b, hab⟩ := List.append_of_mem hx
          subst hab
          exact later_bit (E := E) (ops := ops) (x := x) (l2 := b) (z :: a) (pre := j :: pre) (by simp) l4 (fun _ _ => by simp) hc
      · subst hr
        injection hp with e1 e2
        subst e1; subst e2
        exact .inr ⟨z, rfl, hs1, hs2, fun k hk => (h2 k hk).2⟩
end Go.Proofs.YtpmehdggikjkfaaGreatDoor.Rf
