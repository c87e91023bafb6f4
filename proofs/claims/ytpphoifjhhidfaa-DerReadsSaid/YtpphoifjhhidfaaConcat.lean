/- slices.Grow and slices.Concat of byte slices; der.idents. -/
import Derived.Test.YtpphoifjhhidfaaRight
import Derived.Lib.AppendZeros
namespace Go.Proofs.Ytpphoifjhhidfaa.Der
set_option linter.unusedVariables false
set_option linter.unusedSimpArgs false
open Go.RowKit
open Go.Proofs.YtpphoifjhhidfaaW.PrintWords
open Go.Proofs.YtpphoifjhhidfaaW.PrintLast
open Go.Proofs.YtpphoifjhhidfaaW.PrintMore
theorem info5 : (Try.prog.info? 5).map (fun i => (i.zero, i.size, i.bytes)) = some (some (.int .u8 0), 1, 1) := by kernel_rfl
set_option maxHeartbeats 2000000 in
set_option maxRecDepth 100000 in
theorem grow_calls (n : Nat) (h0 : 0 < n) (hn : n ≤ 140737488355328) (w : World) :
    Calls Try.prog 50 #[.slice none 0 0, .int .i64 n] w fun e w' => ∃ v : Value, e = .returned v ∧ Kd.R (Kd.int .u8) 5 w' w.heap.size (fun _ => True) v [] ∧ Below w.heap.size w w' := by
  obtain ⟨i0, hi, hzz⟩ := Option.map_eq_some_iff.1 info5
  simp only [Prod.mk.injEq] at hzz
  obtain ⟨hz0, hz1, hz2⟩ := hzz
  have hrz : ∀ ty, (Builtin.append_ #[27, 3] ty #[.slice none 0 0, .int .i64 n]).run Try.prog w = .ok (.slice (some ⟨w.heap.size, 0, none⟩) n (grownCap w n 0 5)) (w.drew.alloc (.cells (Builtin.zeroCells (Value.int .u8 0).cells n ++ Builtin.zeroCells (Value.int .u8 0).cells (grownCap w n 0 5 - n)) 5)) := fun ty => by
    exact Lib.run_append_nil_zeros (P := Try.prog) w 27 3 ty 5 i0 (.int .u8 0) .i64 .i64 Try.underlying27 Try.underlying3 hi hz0 n h0 (by omega) (by omega) (by rw [hz2]; omega)
  have hG : n ≤ grownCap w n 0 5 := grownCap_ge ..
  have hG2 : grownCap w n 0 5 ≤ maxLen := grownCap_le_maxLen w n 0 5 (by unfold maxLen; omega)
  have hG3 : grownCap w n 0 5 ≤ 9223372036854775807 := by unfold maxLen at hG2; omega
  generalize grownCap w n 0 5 = G at *
  have h1 : ¬ ((n : Int) < 0) := by omega
  have h2 : (0 : Int) < n := by omega
  have h3 : wrap64 ((n : Int) - 0) = n := by unfold wrap64; omega
  have hsz : (Builtin.zeroCells (Value.int .u8 0).cells n ++ Builtin.zeroCells (Value.int .u8 0).cells (G - n)).size = G := by
    simp [Builtin.zeroCells, Value.cells]; omega
  generalize (Builtin.zeroCells (Value.int .u8 0).cells n ++ Builtin.zeroCells (Value.int .u8 0).cells (G - n)) = Z at *
  replace hG2 := Aside0.mk hG2
  replace hsz := Aside0.mk hsz
  have fin : Kd.R (Kd.int .u8) 5 (w.drew.alloc (.cells Z 5)) w.heap.size (fun _ => True) (.slice (some ⟨w.heap.size, 0, none⟩) 0 G) [] := by
    refine ⟨fun _ _ => trivial, [], ⟨rfl, .inr ⟨w.heap.size, G, Z, rfl, Nat.le_refl _, blk_new w.drew _, Nat.zero_le _, hG2.out, by rw [hsz.out]; simp [Kd.int, Kd.scalar], by simp⟩⟩, ?_⟩
    exact (Kd.R_nil (Kd.int .u8) 5 (w.drew.alloc (.cells Z 5)) w.heap.size (fun _ => True)).2.choose_spec.2.elim (fun a b => ⟨rfl, fun j p hj => by simp at hj⟩)
  go_enter Try.func50, Try.ntmps50
  go_wp2_with (at_builtin; refine Lib.wpList_append_run _ rfl _ _ _ _ rfl _ _ rfl rfl _ _ (hrz _) ?_)
  all_goals (
    go_ret
    exact ⟨_, rfl, fin, below_alloc (below_drew1 (Below.refl _ _)) _⟩)
abbrev Part := Option Addr × Nat × List Int
def pz : Part := (none, 0, [])
def catP (ps : List Part) : List Int := ps.flatMap (·.2.2)
theorem catP_take (ps : List Part) (j : Nat) (h : j < ps.length) : catP (ps.take (j + 1)) = catP (ps.take j) ++ (ps.getD j pz).2.2 := by
  rw [List.take_add_one, catP, List.flatMap_append, show ps[j]?.toList = [ps.getD j pz] by simp [List.getD_eq_getElem?_getD, List.getElem?_eq_getElem h]]
  simp [catP]
theorem catP_le (ps : List Part) (j : Nat) : (catP (ps.take j)).length ≤ (catP ps).length := by
  have h : catP ps = catP (ps.take j) ++ catP (ps.drop j) := by
    rw [catP, catP, catP, ← List.flatMap_append, List.take_append_drop]
  rw [h, List.length_append]; omega
def PartsAt (w : World) (B : Nat) (ps : List Part) : Prop := ∀ j : Nat, j < ps.length → w.cell? ⟨B, j, none⟩ = some (.slice (ps.getD j pz).1 (ps.getD j pz).2.2.length (ps.getD j pz).2.1) ∧ (ps.getD j pz).2.2.length ≤ (ps.getD j pz).2.1 ∧ Kd.C (Kd.int .u8) w (ps.getD j pz).1 (ps.getD j pz).2.2.length (ps.getD j pz).2.2
def Rel1 (w : World) (ps : List Part) (v3 v11 : Value) (W : World) : Prop := ∃ j : Nat, j ≤ ps.length ∧ v3 = .int .i64 ((catP (ps.take j)).length : Int) ∧ v11 = .int .i64 j ∧ Below w.heap.size w W
def Rel2 (w : World) (ps : List Part) (v6 v27 : Value) (W : World) : Prop := ∃ j : Nat, j ≤ ps.length ∧ v27 = .int .i64 j ∧ Kd.R (Kd.int .u8) 5 W w.heap.size (fun _ => True) v6 (catP (ps.take j)) ∧ Below w.heap.size w W
set_option maxHeartbeats 2000000 in
set_option maxRecDepth 100000 in
theorem concat_calls (ps : List Part) (B : Nat) (w : World) (hp : PartsAt w B ps) (hl : ps.length < 1000000) (h0 : 0 < (catP ps).length) (hn : (catP ps).length ≤ 140737488355328) :
    Calls Try.prog 34 #[.slice (some ⟨B, 0, none⟩) ps.length ps.length] w fun e w' => ∃ v : Value, e = .returned v ∧ Kd.R (Kd.int .u8) 5 w' w.heap.size (fun _ => True) v (catP ps) ∧ Below w.heap.size w w' := by
  have hu27 := Try.underlying27
  replace hp := Aside0.mk hp
  go_enter Try.func34, Try.ntmps34
  go_wp2
  go_loopw [3, 11] (Rel1 w ps) (fun _ v _ => (ps.length - intOf v).toNat)
  case atStart => exact ⟨0, by omega, by simp [catP], rfl, Below.refl _ _⟩
  case round =>
    obtain ⟨j, hj, rfl, rfl, hb⟩ := hrel
    replace hb := Aside0.mk hb
    by_cases hjl : (j : Int) < ps.length
    · obtain ⟨hx, hle, hC⟩ := hp.out j (by omega)
      have hs := catP_take ps j (by omega)
      have hle2 := catP_le ps (j + 1)
      rw [hs] at hle2
      rw [List.length_append] at hle2
      have hs2 : (catP (ps.take (j + 1))).length = (catP (ps.take j)).length + (ps.getD j pz).2.2.length := by rw [hs, List.length_append]
      replace hs2 := Aside0.mk hs2
      clear hs
      replace hx := (hb.out.cell (World.block_lt_of_cell? w _ hx)).trans hx
      generalize (catP (ps.take j)).length = m at *
      generalize ps.getD j pz = p at *
      have hw1 : wrap64 ((m : Int) + (p.2.2.length : Int)) = (m : Int) + (p.2.2.length : Int) := by unfold wrap64; omega
      have hw2 : ¬ ((m : Int) + (p.2.2.length : Int) < 0) := by omega
      clear hC
      go_wp2
      try rw [show wrap64 ((j : Int) + 1) = (j : Int) + 1 by unfold wrap64; omega]
      refine ⟨⟨j + 1, by omega, ?_, rfl, hb.out⟩, ?_⟩
      · rw [hs2.out]; simp
      · simp only [intOf]; omega
    · obtain rfl : j = ps.length := by omega
      rw [List.take_length]
      have h0' : (0 : Int) < ((catP ps).length : Int) := by omega
      go_wp2_with (go_at_call 50; refine (grow_calls (catP ps).length h0 hn _).mono ?_; rintro e w3 ⟨v, rfl, hR, hb2⟩; have m1 := Aside0.mk (Kd.R_lower hR hb.out.size); have hb3 := Aside0.mk (below_step hb.out hb2); clear hb2 hR)
      clear hb
      go_loopw [6, 27] (Rel2 w ps) (fun _ v _ => (ps.length - intOf v).toNat)
      case atStart => exact ⟨0, by omega, rfl, by simpa [catP] using m1.out, hb3.out⟩
      case round =>
        clear m1 hb3
        obtain ⟨j, hj, rfl, hR, hb⟩ := hrel
        replace hb := Aside0.mk hb
        replace hR := Aside0.mk hR
        by_cases hjl : (j : Int) < ps.length
        · obtain ⟨hx, hle, hC⟩ := hp.out j (by omega)
          have hs := catP_take ps j (by omega)
          have hle2 := catP_le ps (j + 1)
          rw [hs] at hle2
          rw [List.length_append] at hle2
          replace hs := Aside0.mk hs
          replace hx := (hb.out.cell (World.block_lt_of_cell? w _ hx)).trans hx
          replace hC := Aside0.mk hC
          generalize ps.getD j pz = p at *
          go_wp2_with ((with_reducible refine gate_builtin (b := .append) (xs := #[.tmp 31, .tmp 32]) rfl ?_); (try (refine gate_guard (by rfl) ?_; dsimp only)); at_builtin; refine Kd.R_append_row (Value.int .u8) (0 : Int) (w0 := w) w.heap.size rfl (.tmp 31) (.tmp 32) 27 5 (.int .u8 0) 1 rfl Try.underlying27 info5 rfl (by omega) _ (catP (ps.take j)) p.2.2 p.1 p.2.2.length p.2.1 (fun _ => True) rfl rfl (fun _ _ => trivial) hR.out (Kd.C_below hC.out hb.out) hb.out hb.out.size (by omega) ?_; intro v1 w1 ho hb1 hg hat; have m2 := Aside0.mk ho; have hb4 := Aside0.mk hb1; clear ho hb1 hg hat)
          try rw [show wrap64 ((j : Int) + 1) = (j : Int) + 1 by unfold wrap64; omega]
          refine ⟨⟨j + 1, by omega, rfl, ?_, hb4.out⟩, ?_⟩
          · rw [hs.out]; exact m2.out
          · simp only [intOf]; omega
        · obtain rfl : j = ps.length := by omega
          rw [List.take_length] at hR
          go_wp2
          go_ret
          exact ⟨_, rfl, hR.out, hb.out⟩
end Go.Proofs.Ytpphoifjhhidfaa.Der
