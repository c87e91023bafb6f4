/- der.read, whole. -/
import Derived.Test.YtpphoifjhhidfaaReadA
import Derived.Test.YtpphoifjhhidfaaReadB
namespace Go.Proofs.Ytpphoifjhhidfaa.Der
set_option linter.unusedVariables false
set_option linter.unusedSimpArgs false
open Go.RowKit
open Go.Proofs.YtpphoifjhhidfaaW.PrintWords
theorem idxL_else {x : Int} (h2 : x ≠ 2) (h1 : x ≠ 1) (h4 : x ≠ 4) (h12 : x ≠ 12) (h48 : x ≠ 48) (h160 : x ≠ 160) : idxL x = 0 ∨ idxL x = -1 := by
  unfold idxL
  by_cases h0 : x = 0
  · simp [h0]
  · simp [h0, h1, h2, h4, h12, h48, h160]
theorem read_calls : ∀ l : Nat, l < 1000000 → PRead (readO l) l := by
  intro l
  induction l with
  | zero =>
    intro _ b hb hbl r hr A c w0 w hk hc hB0
    rw [readO] at hr
    obtain ⟨q, hq, hr⟩ := Option.bind_eq_some_iff.mp hr
    obtain rfl := Option.some.inj hr
    exact read_bad 0 b q hq (.inr rfl) hb hbl A c w0 w hk hc hB0
  | succ l ih =>
    intro hl b hb hbl r hr A c w0 w hk hc hB0
    rw [readO] at hr
    obtain ⟨q, hq, hr⟩ := Option.bind_eq_some_iff.mp hr
    cases q with
    | none =>
      obtain rfl := Option.some.inj hr
      exact read_bad (l + 1) b none hq (.inl rfl) hb hbl A c w0 w hk hc hB0
    | some p =>
      obtain ⟨cc, rest⟩ := p
      dsimp only at hr
      obtain ⟨q1, hq1, hr⟩ := Option.bind_eq_some_iff.mp hr
      have hr := Option.some.inj hr
      have hL : 0 < l + 1 := Nat.succ_pos l
      have hM : Aside0 (((l + 1 : Nat) : Int) = (l : Int) + 1) := ⟨by omega⟩
      have hR := ih (by omega)
      obtain ⟨x, hx0⟩ : ∃ x, b.getD 0 0 = x := ⟨_, rfl⟩
      rw [hx0, bodyO] at hq1
      by_cases h2 : x = 2
      · subst h2
        rw [if_pos rfl] at hq1
        obtain ⟨nq, hnq, hq1⟩ := Option.bind_eq_some_iff.mp hq1
        have hq1 := Option.some.inj hq1
        refine read_int (l + 1) hL hl b cc rest hq hb hbl hx0 nq ⟨hnq⟩ r ⟨?_⟩ A c w0 w hk hc hB0
        rw [← hr, ← hq1]
        split <;> rfl
      rw [if_neg h2] at hq1
      by_cases h1 : x = 1
      · subst h1
        rw [if_pos rfl] at hq1
        have hq1 := Option.some.inj hq1
        refine read_bool (l + 1) hL hl b cc rest hq hb hbl hx0 r ⟨?_⟩ A c w0 w hk hc hB0
        rw [← hr, ← hq1]
        split <;> rfl
      rw [if_neg h1] at hq1
      by_cases h4 : x = 4
      · subst h4
        rw [if_pos rfl] at hq1
        have hq1 := Option.some.inj hq1
        subst hq1
        subst hr
        exact read_bytes (l + 1) hL hl b cc rest hq hb hbl hx0 A c w0 w hk hc hB0
      rw [if_neg h4] at hq1
      by_cases h12 : x = 12
      · subst h12
        rw [if_pos rfl] at hq1
        have hq1 := Option.some.inj hq1
        refine read_text (l + 1) hL hl b cc rest hq hb hbl hx0 r ⟨?_⟩ A c w0 w hk hc hB0
        rw [← hr, ← hq1]
        split <;> rfl
      rw [if_neg h12] at hq1
      by_cases h48 : x = 48
      · subst h48
        rw [if_pos rfl] at hq1
        obtain ⟨qk, hqk, hq1⟩ := Option.bind_eq_some_iff.mp hq1
        have hq1 := Option.some.inj hq1
        subst hq1
        subst hr
        rw [Option.map_map]
        exact read_seq (l + 1) hL hl b cc rest hq hb hbl hx0 (readO l) l hM hR _ qk ⟨hqk⟩ A c w0 w hk hc hB0
      rw [if_neg h48] at hq1
      by_cases h160 : 160 ≤ x ∧ x ≤ 190
      · rw [if_pos h160] at hq1
        obtain ⟨qk, hqk, hq1⟩ := Option.bind_eq_some_iff.mp hq1
        have hq1 := Option.some.inj hq1
        subst hq1
        subst hr
        rw [Option.map_map]
        exact read_tag (l + 1) hL hl b cc rest hq hb hbl x hx0 (idxL x) (x - 160) rfl h160 ⟨idx_eq x⟩ (readO l) l hM hR _ qk ⟨hqk⟩ A c w0 w hk hc hB0
      rw [if_neg h160] at hq1
      have hq1 := Option.some.inj hq1
      subst hq1
      subst hr
      exact read_else (l + 1) hL hl b cc rest hq hb hbl x hx0 (idxL x) (idxL_else h2 h1 h4 h12 h48 (fun h => h160 (by omega))) (by omega) ⟨idx_eq x⟩ A c w0 w hk hc hB0
end Go.Proofs.Ytpphoifjhhidfaa.Der
