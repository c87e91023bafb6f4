/- der.plain. -/
import Derived.Test.YtpphoifjhhidfaaSame
namespace Go.Proofs.Ytpphoifjhhidfaa.Der
set_option linter.unusedVariables false
set_option linter.unusedSimpArgs false
open Go.RowKit
open Go.Proofs.YtpphoifjhhidfaaW.PrintWords
open Go.Proofs.YtpphoifjhhidfaaW.PrintLast
open Go.Proofs.YtpphoifjhhidfaaW.PrintMore
def plainB (x : Int) : Bool := decide (32 ≤ x) && decide (x ≤ 126)
def plainL (l : List Int) : Bool := l.all plainB
def plainS (s : ByteArray) : Bool := plainL (bytesOf s)
set_option maxHeartbeats 1000000 in
theorem plain1_calls (x : Int) (w : World) : Calls Try.prog 54 #[.int .u8 x] w fun e w' => e = .returned (.bool (!plainB x)) ∧ Below w.heap.size w w' := by
  by_cases h1 : x < 32
  · have hd : decide (x < 32) = true := by simpa using h1
    go_enter Try.func54, Try.ntmps54
    go_wp2
    go_ret
    refine ⟨?_, Below.refl _ _⟩
    have : plainB x = false := by unfold plainB; simp; omega
    rw [this]; rfl
  · have hd : decide (x < 32) = false := by simpa using h1
    go_enter Try.func54, Try.ntmps54
    go_wp2
    go_ret
    refine ⟨?_, Below.refl _ _⟩
    unfold plainB
    by_cases h2 : x ≤ 126
    · have h3 : ¬ (126 < x) := by omega
      simp [h2, h3, show (32:Int) ≤ x by omega]
    · have h3 : 126 < x := by omega
      simp [h2, h3]
def RelP (w : World) (l : List Int) (v : Value) (W : World) : Prop := ∃ j : Nat, j ≤ l.length ∧ v = .int .i64 j ∧ (∀ i : Nat, i < j → plainB (l.getD i 0) = true) ∧ Below w.heap.size w W
theorem plainL_iff : ∀ l : List Int, plainL l = true ↔ ∀ j : Nat, j < l.length → plainB (l.getD j 0) = true
  | [] => by simp [plainL]
  | x :: r => by
    rw [plainL, List.all_cons, Bool.and_eq_true, show r.all plainB = plainL r from rfl, plainL_iff r]
    constructor
    · rintro ⟨h1, h2⟩ j hj
      cases j with
      | zero => simpa using h1
      | succ j => simpa using h2 j (by simpa using hj)
    · intro h
      refine ⟨by simpa using h 0 (by simp), fun j hj => ?_⟩
      simpa using h (j + 1) (by simpa using hj)
set_option maxHeartbeats 1000000 in
set_option maxRecDepth 100000 in
theorem index_plain (l : List Int) (A : Option Addr) (c : Nat) (w : World) (hk : Kd.C (Kd.int .u8) w A l.length l) (hc : l.length ≤ c) (hl : l.length < 9223372036854775807) :
    Calls Try.prog 56 #[.slice A l.length c, .func (.func 54) #[] #[]] w fun e w' => (∃ r : Int, e = .returned (.int .i64 r) ∧ (decide (0 ≤ r)) = !plainL l) ∧ Below w.heap.size w w' := by
  replace hk := Aside0.mk hk
  go_enter Try.func56, Try.ntmps56
  go_wp2
  go_loopw [8] (RelP w l) (fun v _ => (l.length - intOf v).toNat)
  case atStart => exact ⟨0, by omega, rfl, fun i hi => absurd hi (by omega), Below.refl _ _⟩
  case round =>
    obtain ⟨j, hj, rfl, hs, hb⟩ := hrel
    replace hb := Aside0.mk hb
    replace hs := Aside0.mk hs
    by_cases hjl : (j : Int) < l.length
    · obtain ⟨ad, e1, hx⟩ := Kd.at_int hk.out j (by omega) hjl
      subst e1
      replace hx := (hb.out.cell (World.block_lt_of_cell? w _ hx)).trans hx
      have e1 : rd l (j : Int) = l.getD j 0 := rfl
      rw [e1] at hx
      clear e1
      simp only [Int.toNat_natCast] at hx
      generalize hq : l.getD j 0 = x at *
      have hz := fun o => ((below_alloc (Below.refl wr.heap.size wr) o).cell (World.block_lt_of_cell? wr _ hx)).trans hx
      generalize hqq : plainB x = q
      go_wp2_with (go_at_call 54; refine (plain1_calls x _).mono ?_; rintro e w3 ⟨rfl, hb2⟩; rw [hqq]; have hb3 := Aside0.mk (below_step (by repeat (first | (with_reducible first | exact hb.out | apply below_alloc | apply pw_below_drewN | apply below_drew1) | exact hb.out)) hb2); clear hb2)
      · go_ret
        refine ⟨⟨_, rfl, ?_⟩, hb3.out⟩
        have hf : plainL l = false := by
          cases hq3 : plainL l with
          | false => rfl
          | true =>
            have h1 := (plainL_iff l).1 hq3 j (by omega)
            rw [hq, hqq] at h1
            simp_all
        rw [hf]
        simp
      · try rw [show wrap64 ((j : Int) + 1) = (j : Int) + 1 by unfold wrap64; omega]
        refine ⟨⟨j + 1, by omega, rfl, fun i hi => ?_, hb3.out⟩, ?_⟩
        · rcases Nat.lt_succ_iff_lt_or_eq.1 hi with h1 | h1
          · exact hs.out i h1
          · subst h1
            rw [hq, hqq]
            simp_all
        · simp only [intOf]
          omega
    · have hf : plainL l = true := (plainL_iff l).2 (fun i hi => hs.out i (by omega))
      go_wp2
      go_ret
      refine ⟨⟨_, rfl, ?_⟩, hb.out⟩
      first | decide | (rw [hf]; rfl)
set_option maxHeartbeats 1000000 in
theorem contains_plain (l : List Int) (A : Option Addr) (c : Nat) (w : World) (hk : Kd.C (Kd.int .u8) w A l.length l) (hc : l.length ≤ c) (hl : l.length < 9223372036854775807) :
    Calls Try.prog 53 #[.slice A l.length c, .func (.func 54) #[] #[]] w fun e w' => e = .returned (.bool (!plainL l)) ∧ Below w.heap.size w w' := by
  replace hk := Aside0.mk hk
  go_enter Try.func53, Try.ntmps53
  go_wp2_with (go_at_call 56; refine (index_plain l A c _ hk.out hc hl).mono ?_; rintro e w3 ⟨⟨r, rfl, hr⟩, hb⟩; have hb3 := Aside0.mk hb; clear hb)
  go_ret
  refine ⟨?_, hb3.out⟩
  rw [← hr]; rfl
set_option maxHeartbeats 1000000 in
theorem plain_calls (s : ByteArray) (w : World) (hs : s.size < 9223372036854775807) : Calls Try.prog 39 #[.string s] w fun e w' => e = .returned (.bool (plainS s)) ∧ Below w.heap.size w w' := by
  have kb := fun W => print_bytes (P := Try.prog) 9 27 5 Try.underlying9 Try.underlying27 Try.underlying5 s W
  have hl : (bytesOf s).length = s.size := bytesOf_length s
  have hcp := Aside0.mk (contains_plain (bytesOf s))
  have hrd := Aside0.mk (Kd.C_of_reads (h1 := fun _ => rfl) (readsInt_of.1 (bytes_reads w 5 s (by omega))))
  rw [hl] at hcp
  go_enter Try.func39, Try.ntmps39
  go_wp2_with (go_at_call 53; refine (hcp.out _ _ _ hrd.out (grownCap_ge ..) (by omega)).mono ?_; rintro e w3 ⟨rfl, hb⟩; have hb3 := Aside0.mk hb; clear hb)
  go_ret
  refine ⟨?_, ?_⟩
  · rfl
  · exact below_step (bytes_below (Below.refl _ _) (Nat.le_refl _) _ _) hb3.out
end Go.Proofs.Ytpphoifjhhidfaa.Der
