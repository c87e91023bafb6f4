/- The document's code of a key and a message is macF. Condition: at most 90000 bytes each. -/
import Derived.Test.YtijnmoceafcamaaRefSum
import Derived.Test.YtijnmoceafcamaaMacEq
namespace Go.Proofs.Ytijnmoceafcamaa.Sha
set_option linter.unusedVariables false
set_option linter.unusedSimpArgs false
open Go.RowKit
open Go.Proofs.YtijnmoceafcamaaW.PrintWords Go.Proofs.YtijnmoceafcamaaW.PrintMore
theorem xor_byte (x y : Int) (hx : 0 ≤ x ∧ x ≤ 255) (hy : 0 ≤ y ∧ y ≤ 255) : IntKind.u8.wrap (Go.bits .xor .i64 x y) = xor8 x y := by
  obtain ⟨a, rfl⟩ := Int.eq_ofNat_of_zero_le hx.1
  obtain ⟨b, rfl⟩ := Int.eq_ofNat_of_zero_le hy.1
  rw [xor64 a b (by omega) (by omega), xor8_nat a b (by omega) (by omega)]
  have : a ^^^ b < 2 ^ 8 := Nat.xor_lt_two_pow (by omega) (by omega)
  show ((a ^^^ b : Nat) : Int) % 256 = _
  omega
theorem conv_mac {w : World} {A : Option Addr} {p : List Int} {n c : Nat} (h : ReadsB w A p) (hn : p.length = n) (hb : n ≤ 1000000000) : (convert 22 9 (.slice A n c)).run Try.prog w = .ok (.string (strOfNums p)) w :=
  string_of_reads Try.underlying22 Try.underlying5 Try.underlying9 ⟨hn, by omega, fun h0 => by
    obtain ⟨ad, e, hr⟩ := h (by omega)
    exact ⟨ad, e, fun j hj => hr j (by omega)⟩⟩
def RelXo (w : World) (g : Nat) (X : List Int) (v : Value) (W : World) : Prop := ∃ j : Nat, j ≤ 64 ∧ v = .int .i64 j ∧ Owns w W [rowR (.slice (some ⟨g, 0, none⟩) 64 64) (X.take j ++ List.replicate (64 - j) 0) (some g)]
theorem relXo_next {w W : World} {g : Nat} {X : List Int} {j : Nat} (hj : j < 64) (hX : X.length = 64) (h : Owns w W [rowR (.slice (some ⟨g, 0, none⟩) 64 64) ((X.take j ++ List.replicate (64 - j) 0).set j (X.getD j 0)) (some g)]) : Owns w W [rowR (.slice (some ⟨g, 0, none⟩) 64 64) (X.take (j + 1) ++ List.replicate (64 - (j + 1)) 0) (some g)] := by
  have e : (X.take j ++ List.replicate (64 - j) 0).set j (X.getD j 0) = X.take (j + 1) ++ List.replicate (64 - (j + 1)) 0 := by
    have hl : (X.take j).length = j := by rw [List.length_take]; omega
    rw [List.set_append_right _ _ (by omega), hl, Nat.sub_self, show 64 - j = (64 - (j + 1)) + 1 by omega, List.replicate_succ, List.set_cons_zero, List.take_succ_eq_append_getElem (by omega), List.append_assoc]
    simp [List.getD_eq_getElem?_getD, show j < X.length by omega]
  rw [e] at h
  exact h
set_option maxHeartbeats 1000000 in
set_option maxRecDepth 100000 in
theorem xored_calls (l : List Int) (wi : Int) (w : World) (hb : ∀ x ∈ l, 0 ≤ x ∧ x ≤ 255) (hwi : 0 ≤ wi ∧ wi ≤ 255) (hl : l.length ≤ 1000000) :
    Calls Try.prog 46 #[.string (strOfNums l), .int .i64 wi] w fun e w' => e = .returned (.string (strOfNums (xorK l wi))) ∧ Below w.heap.size w w' := by
  have hO := Aside0.mk (Owns.start w)
  have hsz : (strOfNums l).size = l.length := strOfNums_size l
  replace hb := Aside0.mk hb
  have hXl : Aside0 ((xorK l wi).length = 64) := Aside0.mk (by rw [xorK, List.length_map, pad64_len])
  have hX : Aside0 (∀ j, j < 64 → (xorK l wi).getD j 0 = xor8 (l.getD j 0) wi) := Aside0.mk (by
    intro j hj
    have h1 : (pad64 l).getD j 0 = l.getD j 0 := by
      rw [pad64]
      by_cases hjl : j < l.length
      · rw [List.getD_eq_getElem?_getD, List.getElem?_append_left (by rw [List.length_take]; omega), List.getElem?_take_of_lt hj, List.getD_eq_getElem?_getD]
      · have e0 : l.getD j 0 = 0 := by rw [List.getD_eq_getElem?_getD, List.getElem?_eq_none (by omega)]; rfl
        rw [e0, List.getD_eq_getElem?_getD, List.getElem?_append_right (by rw [List.length_take]; omega), List.getElem?_drop, List.getElem?_replicate]
        split <;> rfl
    rw [← h1, xorK]
    simp [List.getD_eq_getElem?_getD, show j < (pad64 l).length by rw [pad64_len]; exact hj])
  generalize xorK l wi = X at *
  go_enter Try.func46, Try.ntmps46
  go_wp2_with (first
    | (refine own_make hO.out rfl _ _ rfl 64 rfl rfl rfl (by decide) ?_; intro g w2 h2; have hO2 := Aside0.mk h2; clear h2))
  go_loopw [6] (RelXo w g X) (fun v _ => (64 - intOf v).toNat)
  case atStart => exact ⟨0, by omega, rfl, hO2.out⟩
  case round =>
    obtain ⟨j, hj, rfl, hJ⟩ := hrel
    by_cases hj64 : (j : Int) < 64
    · obtain ⟨g', o, e, hc1, hf1, hset⟩ := own_at hJ 0 rfl j (by omega) (by rw [List.length_append, List.length_take, List.length_replicate]; have := hXl.out; omega)
      injection e with e
      injection e with e1 e2
      subst e1
      subst e2
      rw [Nat.zero_add] at hc1 hf1
      have hnx := Aside0.mk (relXo_next (by omega) hXl.out (hset (X.getD j 0)))
      generalize (X.take j ++ List.replicate (64 - j) 0).getD j 0 = xj at *
      clear hset
      by_cases hjl : (j : Int) < (l.length : Int)
      · have hv : ∀ (h : j < (strOfNums l).size), (((strOfNums l)[j]'h).toNat : Int) = l.getD j 0 := fun h => by
          have h1 := bt_at (strOfNums l) (j : Int) (by simpa using h)
          rw [str_bt l hb.out j (by omega)] at h1
          simpa using h1
        have hxj := getD_byte hb.out j
        have hv' := Aside0.mk hv
        clear hv
        go_wp2
        refine ⟨⟨j + 1, by omega, by rfl, ?_⟩, by simp only [intOf]; omega⟩
        have h := hnx.out
        rw [hX.out j (by omega), ← xor_byte _ _ hxj hwi, Nat.zero_add] at h
        rw [hv'.out, wrap64_small _ (by omega)]
        exact h
      · have hx0 : l.getD j 0 = 0 := by rw [List.getD_eq_getElem?_getD, List.getElem?_eq_none (by omega)]; rfl
        go_wp2
        refine ⟨⟨j + 1, by omega, by rfl, ?_⟩, by simp only [intOf]; omega⟩
        have h := hnx.out
        rw [hX.out j (by omega), hx0, ← xor_byte 0 wi (by omega) hwi, Nat.zero_add] at h
        exact h
    · obtain rfl : j = 64 := by omega
      have e64 : X.take 64 ++ List.replicate (64 - 64) 0 = X := by rw [List.take_of_length_le (by have := hXl.out; omega)]; simp
      rw [e64] at hJ
      have hcv := conv_mac (c := 64) (own_reads hJ 0 rfl) hXl.out (by decide)
      replace hJ := Aside0.mk hJ
      clear e64
      go_wp2
      go_ret
      exact ⟨rfl, hJ.out.below⟩
theorem str_size_le (a : List Int) (n : Nat) (h : a.length ≤ n) : (strOfNums a).size ≤ n := by rw [strOfNums_size]; exact h
set_option maxHeartbeats 1000000 in
set_option maxRecDepth 100000 in
theorem refMac_calls (l m : List Int) (w : World) (hb : ∀ x ∈ l, 0 ≤ x ∧ x ≤ 255) (hmb : ∀ x ∈ m, 0 ≤ x ∧ x ≤ 255) (hl : l.length ≤ 90000) (hm : m.length ≤ 90000) :
    Calls Try.prog 32 #[.string (strOfNums l), .string (strOfNums m)] w fun e w' => e = .returned (.string (strOfNums (macF l m))) ∧ Below w.heap.size w w' := by
  have hsz : (strOfNums l).size = l.length := strOfNums_size l
  obtain ⟨k1, hk1⟩ := sum_ref l (by omega) hb
  have hkb : ∀ x ∈ key64 l, 0 ≤ x ∧ x ≤ 255 := by
    rw [key64]
    split
    · exact hb
    · exact digest_byte _
  have hkl : (key64 l).length ≤ 64 := by
    rw [key64]
    split
    · assumption
    · rw [digest_len]; decide
  have hXl : ∀ wi, (xorK (key64 l) wi).length = 64 := fun wi => by rw [xorK, List.length_map, pad64_len]
  obtain ⟨k2, hk2⟩ := sum_ref (xorK (key64 l) 54 ++ m) (by rw [List.length_append, hXl]; omega) (byte2 (xorK_byte _ _) hmb)
  obtain ⟨k3, hk3⟩ := sum_ref (xorK (key64 l) 92 ++ digest (xorK (key64 l) 54 ++ m)) (by rw [List.length_append, hXl, digest_len]; decide) (byte2 (xorK_byte _ _) (digest_byte _))
  have hres : macF l m = digest (xorK (key64 l) 92 ++ digest (xorK (key64 l) 54 ++ m)) := rfl
  rw [hres]
  have z1 : (strOfNums (xorK (key64 l) 54)).size + (strOfNums m).size ≤ 9223372036854775807 := by rw [strOfNums_size, strOfNums_size, hXl]; omega
  have z2 : (strOfNums (xorK (key64 l) 92)).size + (strOfNums (digest (xorK (key64 l) 54 ++ m))).size ≤ 9223372036854775807 := by rw [strOfNums_size, strOfNums_size, hXl, digest_len]; decide
  have x1 : ∀ w, Calls Try.prog 46 #[.string (strOfNums (key64 l)), .int .i64 54] w fun e w' => e = .returned (.string (strOfNums (xorK (key64 l) 54))) ∧ Below w.heap.size w w' := fun w => xored_calls (key64 l) 54 w hkb (by decide) (by omega)
  have x2 : ∀ w, Calls Try.prog 46 #[.string (strOfNums (key64 l)), .int .i64 92] w fun e w' => e = .returned (.string (strOfNums (xorK (key64 l) 92))) ∧ Below w.heap.size w w' := fun w => xored_calls (key64 l) 92 w hkb (by decide) (by omega)
  have hkey : (64 < (l.length : Int) → key64 l = digest l) ∧ (¬ 64 < (l.length : Int) → key64 l = l) := ⟨fun h => if_neg (by omega), fun h => if_pos (by omega)⟩
  clear hkb hkl hXl hres
  generalize xorK (key64 l) 54 = X1 at *
  generalize xorK (key64 l) 92 = X2 at *
  replace hk1 := Aside0.mk hk1
  replace hk2 := Aside0.mk hk2
  replace hk3 := Aside0.mk hk3
  replace x1 := Aside0.mk x1
  replace x2 := Aside0.mk x2
  clear hb hmb
  by_cases h64 : 64 < (l.length : Int)
  · have hkk := hkey.1 h64
    rw [hkk] at x1 x2
    clear hkey hkk
    have h0 := Aside0.mk (Below.refl w.heap.size w)
    go_enter Try.func32, Try.ntmps32
    go_wp2_with (first
      | (go_at_call 23; have hq := b4.out; rw [str_append]; refine (PShaLengths.sluicewayref02_Sum.calls k3 _ _ _ hk3.out).mono ?_; rintro e w5 ⟨rfl, h⟩; have b5 := Aside0.mk (below_step hq h); clear h hq)
      | (go_at_call 46; have hq := b3.out; refine (x2.out _).mono ?_; rintro e w4 ⟨rfl, h⟩; have b4 := Aside0.mk (below_step hq h); clear h hq)
      | (go_at_call 23; have hq := b2.out; rw [str_append]; refine (PShaLengths.sluicewayref02_Sum.calls k2 _ _ _ hk2.out).mono ?_; rintro e w3 ⟨rfl, h⟩; have b3 := Aside0.mk (below_step hq h); clear h hq)
      | (go_at_call 46; have hq := b1.out; refine (x1.out _).mono ?_; rintro e w2 ⟨rfl, h⟩; have b2 := Aside0.mk (below_step hq h); clear h hq)
      | (go_at_call 23; refine (PShaLengths.sluicewayref02_Sum.calls k1 _ _ _ hk1.out).mono ?_; rintro e w1 ⟨rfl, h⟩; have b1 := Aside0.mk (below_step h0.out h); clear h))
    go_ret
    exact ⟨rfl, b5.out⟩
  · have hkk := hkey.2 h64
    rw [hkk] at x1 x2
    clear hkey hkk
    have b1 := Aside0.mk (Below.refl w.heap.size w)
    go_enter Try.func32, Try.ntmps32
    go_wp2_with (first
      | (go_at_call 23; have hq := b4.out; rw [str_append]; refine (PShaLengths.sluicewayref02_Sum.calls k3 _ _ _ hk3.out).mono ?_; rintro e w5 ⟨rfl, h⟩; have b5 := Aside0.mk (below_step hq h); clear h hq)
      | (go_at_call 46; have hq := b3.out; refine (x2.out _).mono ?_; rintro e w4 ⟨rfl, h⟩; have b4 := Aside0.mk (below_step hq h); clear h hq)
      | (go_at_call 23; have hq := b2.out; rw [str_append]; refine (PShaLengths.sluicewayref02_Sum.calls k2 _ _ _ hk2.out).mono ?_; rintro e w3 ⟨rfl, h⟩; have b3 := Aside0.mk (below_step hq h); clear h hq)
      | (go_at_call 46; have hq := b1.out; refine (x1.out _).mono ?_; rintro e w2 ⟨rfl, h⟩; have b2 := Aside0.mk (below_step hq h); clear h hq))
    go_ret
    exact ⟨rfl, b5.out⟩
end Go.Proofs.Ytijnmoceafcamaa.Sha
