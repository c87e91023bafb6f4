/- MacEqual: for any bytes, place and turn the law returns true and changes nothing that was there. Condition: none but that the row lies in memory. -/
import Derived.Test.YtijnmoceafcamaaMacEq
namespace Go.Proofs.Ytijnmoceafcamaa.Sha
set_option linter.unusedVariables false
set_option linter.unusedSimpArgs false
open Go.RowKit
open Go.Proofs.YtijnmoceafcamaaW.PrintWords Go.Proofs.YtijnmoceafcamaaW.PrintMore
attribute [local go_sem] max2_int min2_int max_two min_two
theorem emptyAt {b w : World} {rs : List Res} (h : Owns b w rs) (g : Nat) (hg : g = w.heap.size) : Owns b (w.alloc (.cells #[] 5 (0, 0))) (rs ++ [rowR (.slice (some ⟨g, 0, none⟩) 0 0) [] (some g)]) := by
  subst hg
  exact h.empty
theorem set_byte {l : List Int} (h : ∀ x ∈ l, 0 ≤ x ∧ x ≤ 255) (k : Nat) {y : Int} (hy : 0 ≤ y ∧ y ≤ 255) : ∀ x ∈ l.set k y, 0 ≤ x ∧ x ≤ 255 := by
  intro x hx
  rcases List.mem_or_eq_of_mem_set hx with h1 | h1
  · exact h x h1
  · rw [h1]; exact hy
theorem eqfacts (p : List Int) (k : Nat) (x t : Int) (hk : k < p.length) (hx : p.getD k 0 = x) (hb : ∀ z ∈ p, 0 ≤ z ∧ z ≤ 255) (ht : 0 ≤ t ∧ t ≤ 255) : decide (p = p.set k (xor8 x t)) = (t == 0) ∧ decide (p.set k (xor8 x t) = p) = (t == 0) := by
  have hxb := getD_byte hb k
  rw [hx] at hxb
  have hget : p[k] = x := by simpa [List.getD_eq_getElem?_getD, hk] using hx
  have h0 : xor8 x t = x ↔ t = 0 := by
    obtain ⟨a, rfl⟩ := Int.eq_ofNat_of_zero_le hxb.1
    obtain ⟨b, rfl⟩ := Int.eq_ofNat_of_zero_le ht.1
    rw [xor8_nat a b (by omega) (by omega)]
    have h3 : (a ^^^ b) = a ↔ b = 0 := by
      constructor
      · intro h
        have h1 : a ^^^ (a ^^^ b) = a ^^^ a := by rw [h]
        rwa [← Nat.xor_assoc, Nat.xor_self, Nat.zero_xor] at h1
      · rintro rfl
        exact Nat.xor_zero _
    omega
  have h1 : p = p.set k (xor8 x t) ↔ t = 0 := by
    constructor
    · intro h
      have h2 : (p.set k (xor8 x t))[k]? = some (xor8 x t) := by rw [List.getElem?_set_self hk]
      rw [← h, List.getElem?_eq_getElem hk, hget] at h2
      exact h0.1 (Option.some.inj h2).symm
    · intro h
      rw [h0.2 h, ← hget, List.set_getElem_self]
  constructor
  · rw [Bool.eq_iff_iff]; simpa using h1
  · rw [Bool.eq_iff_iff]
    have h2 : p.set k (xor8 x t) = p ↔ t = 0 := eq_comm.trans h1
    simpa using h2
theorem equal_is {w : World} (x y : List Int) {A B : Option Addr} {n c m d : Nat} (hn : x.length = n) (hx : ReadsB w A x) (hxb : ∀ z ∈ x, 0 ≤ z ∧ z ≤ 255) (hm : y.length = m) (hy : ReadsB w B y) (hyb : ∀ z ∈ y, 0 ≤ z ∧ z ≤ 255) (hnc : n ≤ 1000000000) (r : Bool) (hr : decide (x = y) = r) :
    Calls Try.prog 31 #[.slice A n c, .slice B m d] w fun e w' => e = .returned (.bool r) ∧ w' = w := by
  subst hr
  exact equal_calls x y A B n c m d w hn hx hxb hm hy hyb hnc
set_option maxHeartbeats 2000000 in
set_option maxRecDepth 100000 in
theorem macEqual_calls (A0 : Option Addr) (c0 : Nat) (l0 : List Int) (a1 a2 : Int) (w : World)
    (hr0 : ReadsB w A0 l0) (hc0 : l0.length ≤ c0) (hb0 : ∀ x ∈ l0, 0 ≤ x ∧ x ≤ 255) (w1 : (Lit.int .i64 a1).wf = true) (w2 : (Lit.int .u8 a2).wf = true) :
    Calls Try.prog 13 #[.slice A0 l0.length c0, .int .i64 a1, .int .u8 a2] w fun e w' => e = .returned (.bool true) ∧ Below w.heap.size w w' := by
  have hu2 : 0 ≤ a2 ∧ a2 ≤ 255 := byte_of_wf (l := [a2]) (by intro x hx; rw [List.mem_singleton.1 hx]; exact w2) a2 (by simp)
  clear w1 w2
  by_cases hl0 : l0 = []
  · subst hl0
    have hrr1 : Aside0 (decide (([] : List Int) = []) = true) := Aside0.mk rfl
    have hrr2 := hrr1
    have hmb : Aside0 (∀ z ∈ ([] : List Int) ++ [] ++ [a2], 0 ≤ z ∧ z ≤ 255) := Aside0.mk (fun z hz => by rw [List.mem_singleton.1 hz]; exact hu2)
    have hne1 : Aside0 (decide (([] : List Int) = [] ++ [] ++ [a2]) = false) := Aside0.mk rfl
    have hne2 : Aside0 (decide ([] ++ [] ++ [a2] = ([] : List Int)) = false) := Aside0.mk rfl
    replace hu2 := Aside0.mk hu2
    clear hr0 hb0
    go_enter Try.func13, Try.ntmps13
    go_wp2_with (first
      | (go_at_call 31; have hq4 := hd3.out; clear hq4; refine (own_equal h5.out _ [] hN5.out (own_reads h5.out 1 rfl) hmb.out rfl (fun h => absurd h (by decide)) (by simp) (by have h : 1 = N5 := hN5.out; omega) false hne2.out).mono ?_; rintro e we4 ⟨rfl, he4⟩; subst he4; have hd4 : Aside0 True := Aside0.mk trivial)
      | (go_at_call 31; have hq3 := hd2.out; clear hq3; refine (own_equal h5.out [] _ rfl (fun h => absurd h (by decide)) (by simp) hN5.out (own_reads h5.out 1 rfl) hmb.out (by decide) false hne1.out).mono ?_; rintro e we3 ⟨rfl, he3⟩; subst he3; have hd3 : Aside0 True := Aside0.mk trivial)
      | (go_at_call 31; have hq2 := hd1.out; clear hq2; refine (own_equal h5.out [] [] rfl (fun h => absurd h (by decide)) (by simp) rfl (fun h => absurd h (by decide)) (by simp) (by decide) true hrr2.out).mono ?_; rintro e we2 ⟨rfl, he2⟩; subst he2; have hd2 : Aside0 True := Aside0.mk trivial)
      | (go_at_call 31; refine (own_equal h5.out [] [] rfl (fun h => absurd h (by decide)) (by simp) rfl (fun h => absurd h (by decide)) (by simp) (by decide) true hrr1.out).mono ?_; rintro e we1 ⟨rfl, he1⟩; subst he1; have hd1 : Aside0 True := Aside0.mk trivial)
      | (refine own_append h4L.out 1 rfl rfl _ _ rfl rfl rfl rfl [a2] rfl (reads_new w4 [a2] (0, 0)) (by decide) ?_; intro A5 c5 N5 w5 gl5 hN5 hc5 h50; have h5 := Aside0.mk h50; replace hN5 := Aside0.mk hN5; clear h50)
      | (refine own_append hsE.out 1 rfl rfl _ _ rfl rfl rfl rfl [] rfl (fun h => absurd h (by decide)) (by decide) ?_; intro A4 c4 N4 w4 gl4 hN4 hc4 h40; have h4 := Aside0.mk h40; have h4L := Aside0.mk (h40.laid (.cells (bcells [a2]) 5 (0, 0))); replace hN4 := Aside0.mk hN4; clear h40)
      | (refine own_append he.out 0 rfl rfl _ _ rfl rfl rfl rfl [] rfl (fun h => absurd h (by decide)) (by decide) ?_; intro A2 c2 N2 w2 gl2 hN2 hc2 h20; have hN2e : 0 = N2 := hN2; subst hN2e; have hs := Aside0.mk h20; have hsE := Aside0.mk h20.empty; replace hN2 := Aside0.mk hN2; clear h20)
      | (go_at_call 29; refine (macShown_calls w).mono ?_; rintro e w1 ⟨rfl, h10⟩; have h1 := Aside0.mk ((Owns.start w).stay (Keeps.of_below h10 _)); have he := Aside0.mk ((Owns.start w).stay (Keeps.of_below h10 _)).empty; clear h10))
    go_ret
    exact ⟨rfl, h5.out.below⟩
  · obtain ⟨n0, p0, hm0, hn0, hk0, hnc0, hnl0, hpe, hp0, hpb0⟩ := cutB 300 (by decide) hr0 hc0 hb0
    replace hp0 := Aside0.mk hp0
    replace hpb0 := Aside0.mk hpb0
    replace hn0 := Aside0.mk hn0
    clear hr0 hb0 hpe
    replace hk0 : (n0 : Int) ≤ 300 := by omega
    have hmb : Aside0 (∀ z ∈ [] ++ p0 ++ [a2], 0 ≤ z ∧ z ≤ 255) := Aside0.mk (by rw [List.nil_append]; exact byte2 hpb0.out (fun z hz => by rw [List.mem_singleton.1 hz]; exact hu2))
    have hne1 : Aside0 (decide (p0 = [] ++ p0 ++ [a2]) = false) := Aside0.mk (by
      apply decide_eq_false
      intro h
      have := congrArg List.length h
      simp at this)
    have hne2 : Aside0 (decide ([] ++ p0 ++ [a2] = p0) = false) := Aside0.mk (by
      apply decide_eq_false
      intro h
      have := congrArg List.length h
      simp at this)
    have hll : 0 < l0.length := List.length_pos_iff.2 hl0
    have hpos : 0 < n0 := by split at hm0 <;> omega
    have hposI : (0 : Int) < n0 := by omega
    have hn0z : ((n0 : Int) == 0) = false := by rw [beq_eq_false_iff_ne]; omega
    obtain ⟨q, hq, hq0, hq1⟩ : ∃ q : Int, Int.tmod (Go.bits .and .i64 a1 65535) (n0 : Int) = q ∧ 0 ≤ q ∧ q ≤ n0 - 1 := and_low_mod a1 65535 (n0 : Int) (by decide) hposI
    obtain ⟨k, rfl⟩ := Int.eq_ofNat_of_zero_le hq0
    have hkn : k < n0 := by omega
    have hkI : (k : Int) < n0 := by omega
    go_enter Try.func13, Try.ntmps13
    go_wp2_with (first
      | (refine own_append h4L.out 1 rfl rfl _ _ rfl rfl rfl rfl [a2] rfl (reads_new w4 [a2] (0, 0)) (by have := hn0.out; simp; omega) ?_; intro A5 c5 N5 w5 gl5 hN5 hc5 h50; have h5 : Aside0 (Owns w w5 [rowR (.slice (some ⟨g, o, none⟩) N2 c2) (p0.set k (xor8 x a2)) gl2, rowR (.slice A5 N5 c5) (p0 ++ [a2]) gl5]) := Aside0.mk h50; replace hN5 : Aside0 ((p0 ++ [a2]).length = N5) := Aside0.mk hN5; clear h50 h4 h4L hsE hs h2 he h1 hf1 hc1' hN4 hN2)
      | (refine own_append hsE.out 1 rfl rfl _ _ rfl rfl rfl rfl p0 hn0.out (hp0.out.below hsE.out.below) (by simp; omega) ?_; intro A4 c4 N4 w4 gl4 hN4 hc4 h40; have h4 := Aside0.mk h40; have h4L := Aside0.mk (h40.laid (.cells (bcells [a2]) 5 (0, 0))); replace hN4 := Aside0.mk hN4; clear h40)
      | (refine own_append he.out 0 rfl rfl _ _ rfl rfl rfl rfl p0 hn0.out (hp0.out.below he.out.below) (by simp; omega) ?_; intro A2 c2 N2 w2 gl2 hN2 hc2 h20; have hN2e : N2 = n0 := (by have := hN2; have := hn0.out; rw [List.nil_append] at *; omega); subst hN2e; obtain ⟨g, o, rfl, hc1', hf1, hset⟩ := own_at h20 0 rfl k hkn hN2; obtain ⟨x, hx⟩ : ∃ x, p0.getD k 0 = x := ⟨_, rfl⟩; rw [List.nil_append, hx] at hc1'; replace hx := Aside0.mk hx; have hs : Aside0 (Owns w (w2.setCell ⟨g, o + k, none⟩ (.int .u8 (xor8 x a2))) [rowR (.slice (some ⟨g, o, none⟩) N2 c2) (p0.set k (xor8 x a2)) gl2]) := Aside0.mk (hset (xor8 x a2)); have hsE := Aside0.mk (emptyAt hs.out w2.heap.size (by simp)); obtain ⟨eq1, eq2⟩ := eqfacts p0 k x a2 (by have := hn0.out; omega) hx.out hpb0.out hu2; have hql : Aside0 ((p0.set k (xor8 x a2)).length = N2) := Aside0.mk (by rw [List.length_set]; exact hn0.out); have hrr1 := Aside0.mk eq1; have hrr2 := Aside0.mk eq2; have h2 := Aside0.mk h20; replace hN2 := Aside0.mk hN2; clear h20 hset eq1 eq2)
      | (go_at_call 29; refine (macShown_calls w).mono ?_; rintro e w1 ⟨rfl, h10⟩; have h1 := Aside0.mk ((Owns.start w).stay (Keeps.of_below h10 _)); have he := Aside0.mk ((Owns.start w).stay (Keeps.of_below h10 _)).empty; clear h10))
    have hsb : Aside0 (∀ z ∈ p0.set k (xor8 x a2), 0 ≤ z ∧ z ≤ 255) := Aside0.mk (set_byte hpb0.out _ (xor8_byte _ _))
    have hmb2 : Aside0 (∀ z ∈ p0 ++ [a2], 0 ≤ z ∧ z ≤ 255) := Aside0.mk (by have h := hmb.out; rw [List.nil_append] at h; exact h)
    have hm1 : Aside0 (decide (p0 = p0 ++ [a2]) = false) := Aside0.mk (by have h := hne1.out; rw [List.nil_append] at h; exact h)
    have hm2 : Aside0 (decide (p0 ++ [a2] = p0) = false) := Aside0.mk (by have h := hne2.out; rw [List.nil_append] at h; exact h)
    have r0 : Aside0 (ReadsB w5 A0 p0) := Aside0.mk (hp0.out.below h5.out.below)
    have r1 : Aside0 (ReadsB w5 (some ⟨g, o, none⟩) (p0.set k (xor8 x a2))) := Aside0.mk (own_reads h5.out 0 rfl)
    have r2 : Aside0 (ReadsB w5 A5 (p0 ++ [a2])) := Aside0.mk (own_reads h5.out 1 rfl)
    have hbl := h5.out.below
    have hN9 : Aside0 (N5 ≤ 1000) := Aside0.mk (by have := hN5.out; have := hn0.out; rw [List.length_append, List.length_singleton] at *; omega)
    replace hbl := Aside0.mk hbl
    clear hmb hne1 hne2 hq hq0 hq1 hkI hposI hn0z h5
    generalize p0.set k (xor8 x a2) = q0 at *
    generalize p0 ++ [a2] = q1 at *
    generalize hr : (a2 == 0) = r at *
    replace hr := Aside0.mk hr
    go_at_call 31
    refine (equal_is p0 q0 hn0.out r0.out hpb0.out hql.out r1.out hsb.out (by omega) r hrr1.out).mono ?_
    rintro e we1 ⟨rfl, rfl⟩
    go_wp2_with (first
      | (go_at_call 31; have hq := hd3.out; clear hq; refine (equal_is q1 p0 hN5.out r2.out hmb2.out hn0.out r0.out hpb0.out (by have := hd3.out; omega) false hm2.out).mono ?_; rintro e we4 ⟨rfl, he4⟩; subst he4)
      | (go_at_call 31; have hq := hd2.out; clear hq; refine (equal_is p0 q1 hn0.out r0.out hpb0.out hN5.out r2.out hmb2.out (by omega) false hm1.out).mono ?_; rintro e we3 ⟨rfl, he3⟩; subst he3; have hd3 : Aside0 (N5 ≤ 1000) := hN9)
      | (go_at_call 31; refine (equal_is q0 p0 hql.out r1.out hsb.out hn0.out r0.out hpb0.out (by omega) r hrr2.out).mono ?_; rintro e we2 ⟨rfl, he2⟩; subst he2; have hd2 : Aside0 True := Aside0.mk trivial))
    go_ret
    exact ⟨rfl, hbl.out⟩
end Go.Proofs.Ytijnmoceafcamaa.Sha
