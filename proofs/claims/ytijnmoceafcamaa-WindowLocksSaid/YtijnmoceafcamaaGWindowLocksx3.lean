-- Printed by a program of this session's own (the kit's print, patched: wip/scripts/patch.py), for this claim. Not trusted: Lean checks it.
import Derived.Test.YtijnmoceafcamaaGWindowLocksx0
import Derived.Test.YtijnmoceafcamaaGWindowLocksx1
import Derived.Test.YtijnmoceafcamaaGWindowLocksx2
namespace Go.Proofs.Ytijnmoceafcamaa.GWindowLocks
open Go.RowKit Go.Proofs.YtijnmoceafcamaaW.PrintWords Go.Proofs.YtijnmoceafcamaaW.PrintLast Go.Proofs.YtijnmoceafcamaaW.PrintMore
attribute [local go_sem] max2_int min2_int max_two min_two max_three min_three max_four min_four   -- for this text's walks alone
set_option linter.unusedVariables false
set_option linter.unusedSimpArgs false

attribute [local go_sem high] eqA48
/-! ### sluicewaylaw05_WindowLocks: function 16 -/
mutual
def sluicewaylaw05_WindowLocks.l0 : Nat → List Int → Bool → Int → Int → Int → Int → Int → Int → Int → Option (Bool)
  | 0, _, _, _, _, _, _, _, _, _ => none
  | k + 1, x1, x5, x6, x154000, x154001, x154002, x154003, x154004, x154005 => if x6 < 100 then (sluicewaylaw05_WindowLocks.j1 k x1 x5 x6 (decide (x154004 < x154005)) x154000 x154001 x154002 x154003 x154004 x154005) else (sluicewaylaw05_WindowLocks.j1 k x1 x5 x6 false x154000 x154001 x154002 x154003 x154004 x154005)
def sluicewaylaw05_WindowLocks.j1 : Nat → List Int → Bool → Int → Bool → Int → Int → Int → Int → Int → Int → Option (Bool)
  | 0, _, _, _, _, _, _, _, _, _, _ => none
  | k + 1, x1, x5, x6, x26, x154000, x154001, x154002, x154003, x154004, x154005 => if x26 = true then ((window_Accept.f k x154000 x154001 x154002 x154003 x154004 x154005 ([] : List Int)).bind fun bt156 => (if bt156.2.2.2.2.2.2.2 = 6 then (if bt156.2.2.2.2.1 = (wrap64 (x154004 + 1)) then (if bt156.1 = x154000 then (if bt156.2.2.2.1 = 0 then (sluicewaylaw05_WindowLocks.l0 k x1 x5 (wrap64 (x6 + 1)) bt156.1 bt156.2.1 bt156.2.2.1 bt156.2.2.2.1 bt156.2.2.2.2.1 bt156.2.2.2.2.2.1) else (none)) else (none)) else (none)) else (none))) else (if 0 ≤ (mn (x1.length : Int) 20) then (if (mn (x1.length : Int) 20) ≤ (x1.length : Int) then ((window_Accept.f k x154000 x154001 x154002 x154003 x154004 x154005 (x1.take ((mn (x1.length : Int) 20) : Int).toNat)).bind fun bt166 => (if x5 = true then (if x154004 ≥ x154005 then (if bt166.2.2.2.2.2.2.2 = 7 then (if (bt166.1 == x154000 && (bt166.2.1 == x154001 && (bt166.2.2.1 == x154002 && (bt166.2.2.2.1 == x154003 && (bt166.2.2.2.2.1 == x154004 && (bt166.2.2.2.2.2.1 == x154005)))))) = true then (some (bt166.2.2.2.2.2.2.1 == 0)) else (none)) else (none)) else (none)) else (none))) else (none)) else (none))
end
def sluicewaylaw05_WindowLocks.f (k : Nat) (a0_0 : Int) (a0_1 : Int) (a0_2 : Int) (a0_3 : Int) (a0_4 : Int) (a0_5 : Int) (l1 : List Int) : Option (Bool) := (sluicewaylaw05_shown.f k).bind fun t154 => ((window_Right.f a0_0 a0_1 a0_2 a0_3 a0_4 a0_5).bind fun t155 => (if t155 = true then (sluicewaylaw05_WindowLocks.l0 k l1 t154 0 a0_0 a0_1 a0_2 a0_3 a0_4 a0_5) else (some t154)))
theorem sluicewaylaw05_WindowLocks.mono_l : ∀ k, (∀ y0 y1 y2 y3 y4 y5 y6 y7 y8, LeO (sluicewaylaw05_WindowLocks.l0 k y0 y1 y2 y3 y4 y5 y6 y7 y8) (sluicewaylaw05_WindowLocks.l0 (k + 1) y0 y1 y2 y3 y4 y5 y6 y7 y8)) ∧ (∀ y0 y1 y2 y3 y4 y5 y6 y7 y8 y9, LeO (sluicewaylaw05_WindowLocks.j1 k y0 y1 y2 y3 y4 y5 y6 y7 y8 y9) (sluicewaylaw05_WindowLocks.j1 (k + 1) y0 y1 y2 y3 y4 y5 y6 y7 y8 y9))
  | 0 => ⟨fun _ _ _ _ _ _ _ _ _ r h => by simp [sluicewaylaw05_WindowLocks.l0] at h, fun _ _ _ _ _ _ _ _ _ _ r h => by simp [sluicewaylaw05_WindowLocks.j1] at h⟩
  | k + 1 => by
    obtain ⟨ih0, ih1⟩ := sluicewaylaw05_WindowLocks.mono_l k
    refine ⟨?_, ?_⟩
    · intro y0 y1 y2 y3 y4 y5 y6 y7 y8
      unfold sluicewaylaw05_WindowLocks.l0
      repeat' first
      | (with_reducible exact ih0 _ _ _ _ _ _ _ _ _)
      | (with_reducible exact ih1 _ _ _ _ _ _ _ _ _ _)
      | (with_reducible exact sluicewaylaw05_shown.mono _)
      | (with_reducible exact window_Accept.mono _ _ _ _ _ _ _ _)
      | (with_reducible exact LeO.refl _)
      | (with_reducible exact LeO.none _)
      | (with_reducible refine LeO.ite ?_ ?_)
      | (with_reducible refine LeO.bind ?_ (fun _ => ?_))
      | exact ih0 _ _ _ _ _ _ _ _ _
      | exact ih1 _ _ _ _ _ _ _ _ _ _
      | exact sluicewaylaw05_shown.mono _
      | exact window_Accept.mono _ _ _ _ _ _ _ _
      | exact LeO.none _
      | refine LeO.ite ?_ ?_
      | refine LeO.bind ?_ (fun _ => ?_)
    · intro y0 y1 y2 y3 y4 y5 y6 y7 y8 y9
      unfold sluicewaylaw05_WindowLocks.j1
      repeat' first
      | (with_reducible exact ih0 _ _ _ _ _ _ _ _ _)
      | (with_reducible exact ih1 _ _ _ _ _ _ _ _ _ _)
      | (with_reducible exact sluicewaylaw05_shown.mono _)
      | (with_reducible exact window_Accept.mono _ _ _ _ _ _ _ _)
      | (with_reducible exact LeO.refl _)
      | (with_reducible exact LeO.none _)
      | (with_reducible refine LeO.ite ?_ ?_)
      | (with_reducible refine LeO.bind ?_ (fun _ => ?_))
      | exact ih0 _ _ _ _ _ _ _ _ _
      | exact ih1 _ _ _ _ _ _ _ _ _ _
      | exact sluicewaylaw05_shown.mono _
      | exact window_Accept.mono _ _ _ _ _ _ _ _
      | exact LeO.none _
      | refine LeO.ite ?_ ?_
      | refine LeO.bind ?_ (fun _ => ?_)
theorem sluicewaylaw05_WindowLocks.mono : ∀ a0 a1 a2 a3 a4 a5 a6 k, LeO (sluicewaylaw05_WindowLocks.f k a0 a1 a2 a3 a4 a5 a6) (sluicewaylaw05_WindowLocks.f (k + 1) a0 a1 a2 a3 a4 a5 a6) := by
  intro a0 a1 a2 a3 a4 a5 a6 k
  obtain ⟨ih0, ih1⟩ := sluicewaylaw05_WindowLocks.mono_l k
  unfold sluicewaylaw05_WindowLocks.f
  repeat' first
      | (with_reducible exact ih0 _ _ _ _ _ _ _ _ _)
      | (with_reducible exact ih1 _ _ _ _ _ _ _ _ _ _)
      | (with_reducible exact sluicewaylaw05_shown.mono _)
      | (with_reducible exact window_Accept.mono _ _ _ _ _ _ _ _)
      | (with_reducible exact LeO.refl _)
      | (with_reducible exact LeO.none _)
      | (with_reducible refine LeO.ite ?_ ?_)
      | (with_reducible refine LeO.bind ?_ (fun _ => ?_))
      | exact ih0 _ _ _ _ _ _ _ _ _
      | exact ih1 _ _ _ _ _ _ _ _ _ _
      | exact sluicewaylaw05_shown.mono _
      | exact window_Accept.mono _ _ _ _ _ _ _ _
      | exact LeO.none _
      | refine LeO.ite ?_ ?_
      | refine LeO.bind ?_ (fun _ => ?_)
def sluicewaylaw05_WindowLocks.T11 : Bool × List (List Nat × List Nat) := (true, [([], []), ([], []), ([], []), ([2], [2]), ([3], [3]), ([1, 4], [1, 4]), ([0, 5], [0, 5]), ([6], [6]), ([7], [7]), ([7], [7]), ([7], [7]), ([], []), ([11, 8, 6, 0, 1, 2, 3, 4, 5, 6, 7, 8, 11], [8, 11]), ([9, 12, 0, 1, 2, 3, 4, 5, 6, 7, 8, 9, 11, 12], [9]), ([10, 13, 0, 1, 2, 3, 4, 5, 6, 7, 8, 9, 10, 11, 12, 13], [10])])
def sluicewaylaw05_WindowLocks.B11 : List Nat := [0, 0, 0, 4, 12, 30, 63, 127, 255, 255, 255, 0, 2559, 7167, 16383]
theorem sluicewaylaw05_WindowLocks.tab11 : rtab .any (opsOf Try.f16 11) = sluicewaylaw05_WindowLocks.T11 := by kernel_rfl
theorem sluicewaylaw05_WindowLocks.bits11 : waitsOk sluicewaylaw05_WindowLocks.T11.2 sluicewaylaw05_WindowLocks.B11 = true := by kernel_rfl
set_option maxHeartbeats 8000000 in
set_option maxRecDepth 100000 in
theorem sluicewaylaw05_WindowLocks.calls (k : Nat) (a0_0 : Int) (a0_1 : Int) (a0_2 : Int) (a0_3 : Int) (a0_4 : Int) (a0_5 : Int) (A1 : Option Addr) (c1 : Nat) (l1 : List Int) (r : Bool) (w : World) (hr1 : Kd.C (Kd.int .i64) w A1 l1.length l1) (hc1 : l1.length ≤ c1) (h : sluicewaylaw05_WindowLocks.f k a0_0 a0_1 a0_2 a0_3 a0_4 a0_5 l1 = some r) :
    Calls Try.prog 16 #[.agg #[.int .i64 a0_0, .int .i64 a0_1, .int .i64 a0_2, .int .i64 a0_3, .int .i64 a0_4, .int .i64 a0_5], .slice A1 l1.length c1] w fun e w' => e = .returned (.bool r) ∧ Below w.heap.size w w' := by
  have hu48 := Try.underlying48
  have HR1 := Aside0.mk hr1
  have HC1 := Aside0.mk hc1
  clear hr1 hc1
  have HB := Aside0.mk (Below.refl w.heap.size w)
  have H : ((sluicewaylaw05_shown.f k).bind fun t154 => ((window_Right.f a0_0 a0_1 a0_2 a0_3 a0_4 a0_5).bind fun t155 => (if t155 = true then (sluicewaylaw05_WindowLocks.l0 k l1 t154 0 a0_0 a0_1 a0_2 a0_3 a0_4 a0_5) else (some t154)))) = some r := h
  clear h
  replace H := Option.bind_eq_some_iff.mp H
  obtain ⟨t154, A30, H⟩ := H
  replace H : ((window_Right.f a0_0 a0_1 a0_2 a0_3 a0_4 a0_5).bind fun t155 => (if t155 = true then (sluicewaylaw05_WindowLocks.l0 k l1 t154 0 a0_0 a0_1 a0_2 a0_3 a0_4 a0_5) else (some t154))) = some r := H
  have A3 := Aside0.mk A30
  clear A30
  replace H := Option.bind_eq_some_iff.mp H
  obtain ⟨t155, A40, H⟩ := H
  replace H : (if t155 = true then (sluicewaylaw05_WindowLocks.l0 k l1 t154 0 a0_0 a0_1 a0_2 a0_3 a0_4 a0_5) else (some t154)) = some r := H
  have A4 := Aside0.mk A40
  clear A40
  by_cases c5 : t155 = true
  · subst c5
    have H1 : (sluicewaylaw05_WindowLocks.l0 k l1 t154 0 a0_0 a0_1 a0_2 a0_3 a0_4 a0_5) = some r := by rw [if_pos rfl] at H; exact H
    clear H
    have H := H1
    clear H1
    have H' := Aside0.mk H
    clear H
    go_enter Try.func16, Try.ntmps16
    go_wp2_with (first | ((with_reducible refine gate_dst (N := 2) rfl ?_); refine box_event ?hg (N := 2) ?hd (cs := #[.int .i64 a0_0, .int .i64 a0_1, .int .i64 a0_2, .int .i64 a0_3, .int .i64 a0_4, .int .i64 a0_5]) (t := 48) ?hr ?_; (case hd => rfl); (case hg => rfl); (case hr => first | (go_simp; done) | (go_simp; rfl)); intro gb153 hg w6 hbox hb; have n0_ := Aside0.mk (below_step (by repeat (first | (with_reducible first | exact HB.out | apply below_alloc | apply pw_below_drewN | apply below_drew1) | exact HB.out)) hb); have n1_ := Aside0.mk (hbox); have n2_ := Aside0.mk ((by rw [hg]; exact (below_size (by repeat (first | (with_reducible first | exact HB.out | apply below_alloc | apply pw_below_drewN | apply below_drew1) | exact HB.out))) : w.heap.size ≤ gb153)); have n3_ := Aside0.mk ((by rw [hg]; exact (below_size (by repeat (first | (with_reducible first | exact HB.out | apply below_alloc | apply pw_below_drewN | apply below_drew1) | exact HB.out))) : w.heap.size ≤ gb153)); clear HB; have HB := n0_; have BK153 := n1_; have GW153 := n2_; have GE153 := n3_; clear n0_ n1_ n2_ n3_; clear hb hbox hg) | ((with_reducible refine gate_callee (f := 33) rfl ?_); refine goesL_ (some 13) rfl rfl Try.func33 (by kernel_rfl) rfl #[] rfl (by (try simp only [List.map_toArray, List.map_cons, List.map_nil]); first | done | rfl | (simp only [List.length_drop, List.length_take]; rfl)) ?_; (with_reducible refine (sluicewaylaw05_shown.calls k  t154 _ A3.out).mono ?_); rintro e w7 ⟨rfl, hb⟩; refine ⟨_, rfl, ?_⟩; have n0_ := Aside0.mk (blk_below (g := gb153) (o := .cells #[.int .i64 a0_0, .int .i64 a0_1, .int .i64 a0_2, .int .i64 a0_3, .int .i64 a0_4, .int .i64 a0_5] 48 (0, 0)) (by (with_reducible repeat (first | refine blk_drewN ?_ _ | refine blk_drew ?_ | refine blk_alloc ?_ _)); exact BK153.out) hb); have n1_ := Aside0.mk (below_step (by repeat (first | (with_reducible first | exact HB.out | apply below_alloc | apply pw_below_drewN | apply below_drew1 | refine below_set ?_ GE153.out) | exact HB.out)) hb); clear BK153; clear HB; have BK153 := n0_; have HB := n1_; clear n0_ n1_; (try clear hb); (try clear hb2); (try clear hk); (try clear hi); have hcz8_0 : w7.cell? ⟨gb153, 0, none⟩ = some (.int .i64 a0_0) := (blk_cell BK153.out 0).trans rfl; have hcz8_1 : w7.cell? ⟨gb153, 1, none⟩ = some (.int .i64 a0_1) := (blk_cell BK153.out 1).trans rfl; have hcz8_2 : w7.cell? ⟨gb153, 2, none⟩ = some (.int .i64 a0_2) := (blk_cell BK153.out 2).trans rfl; have hcz8_3 : w7.cell? ⟨gb153, 3, none⟩ = some (.int .i64 a0_3) := (blk_cell BK153.out 3).trans rfl; have hcz8_4 : w7.cell? ⟨gb153, 4, none⟩ = some (.int .i64 a0_4) := (blk_cell BK153.out 4).trans rfl; have hcz8_5 : w7.cell? ⟨gb153, 5, none⟩ = some (.int .i64 a0_5) := (blk_cell BK153.out 5).trans rfl; have hfz8_0 := blk_frozen BK153.out 0; have hfz8_1 := blk_frozen BK153.out 1; have hfz8_2 := blk_frozen BK153.out 2; have hfz8_3 := blk_frozen BK153.out 3; have hfz8_4 := blk_frozen BK153.out 4; have hfz8_5 := blk_frozen BK153.out 5) | ((with_reducible refine gate_callee (f := 34) rfl ?_); refine goesL_ (some 15) rfl rfl Try.func34 (by kernel_rfl) rfl #[.agg #[.int .i64 a0_0, .int .i64 a0_1, .int .i64 a0_2, .int .i64 a0_3, .int .i64 a0_4, .int .i64 a0_5]] rfl (by (try simp only [List.map_toArray, List.map_cons, List.map_nil]); first | done | rfl | (simp only [List.length_drop, List.length_take]; rfl)) ?_; (with_reducible refine (window_Right.calls a0_0 a0_1 a0_2 a0_3 a0_4 a0_5 true _ A4.out).mono ?_); rintro e w9 ⟨rfl, hb⟩; refine ⟨_, rfl, ?_⟩; have n0_ := Aside0.mk (blk_below (g := gb153) (o := .cells #[.int .i64 a0_0, .int .i64 a0_1, .int .i64 a0_2, .int .i64 a0_3, .int .i64 a0_4, .int .i64 a0_5] 48 (0, 0)) (by (with_reducible repeat (first | refine blk_drewN ?_ _ | refine blk_drew ?_ | refine blk_alloc ?_ _)); exact BK153.out) hb); have n1_ := Aside0.mk (below_step (by repeat (first | (with_reducible first | exact HB.out | apply below_alloc | apply pw_below_drewN | apply below_drew1 | refine below_set ?_ GE153.out) | exact HB.out)) hb); clear BK153; clear HB; have BK153 := n0_; have HB := n1_; clear n0_ n1_; (try clear hb); (try clear hb2); (try clear hk); (try clear hi)))
    go_loopg [6] k (fun kq v6 w' => ∃ (x6_1 : Int) (x154000_1 : Int) (x154001_1 : Int) (x154002_1 : Int) (x154003_1 : Int) (x154004_1 : Int) (x154005_1 : Int), v6 = .int .i64 x6_1 ∧ Aside0 (sluicewaylaw05_WindowLocks.l0 kq l1 t154 x6_1 x154000_1 x154001_1 x154002_1 x154003_1 x154004_1 x154005_1 = some r) ∧ Aside0 (kq ≤ k) ∧ Aside0 (w'.heap[gb153]? = some (.cells #[.int .i64 x154000_1, .int .i64 x154001_1, .int .i64 x154002_1, .int .i64 x154003_1, .int .i64 x154004_1, .int .i64 x154005_1] 48 (0, 0))) ∧ Aside0 (Below w.heap.size w w'))
    case atStart => exact ⟨(0), (a0_0), (a0_1), (a0_2), (a0_3), (a0_4), (a0_5), (by first | rfl | (simp; done) | (simp [*]; done)), H', ⟨Nat.le_refl _⟩, ⟨by (with_reducible repeat (first | refine blk_drewN ?_ _ | refine blk_drew ?_ | refine blk_alloc ?_ _)); exact BK153.out⟩, ⟨by repeat (first | (with_reducible first | exact HB.out | apply below_alloc | apply pw_below_drewN | apply below_drew1 | refine below_set ?_ GE153.out) | exact HB.out)⟩⟩
    case round =>
      clear H'
      try clear c1
      try clear p2
      try clear c3
      try clear c5
      try clear hcz8_0
      try clear hcz8_1
      try clear hcz8_2
      try clear hcz8_3
      try clear hcz8_4
      try clear hcz8_5
      try clear hfz8_0
      try clear hfz8_1
      try clear hfz8_2
      try clear hfz8_3
      try clear hfz8_4
      try clear hfz8_5
      obtain ⟨x6_1, x154000_1, x154001_1, x154002_1, x154003_1, x154004_1, x154005_1, rfl, HA, HK1, BK153, HB⟩ := hrel
      cases gk with
      | zero => exact absurd HA.out (by simp [sluicewaylaw05_WindowLocks.l0])
      | succ k1 =>
        have H := HA.out
        clear HA
        simp only [sluicewaylaw05_WindowLocks.l0] at H
        have HC10 := Aside0.mk H
        clear H
        go_upto_region 5 with (fail)
        go_cut [26] (fun v26 wc => ∃ (kq : Nat) (x26_9 : Bool), v26 = .bool x26_9 ∧ Aside0 (sluicewaylaw05_WindowLocks.j1 kq l1 t154 x6_1 x26_9 x154000_1 x154001_1 x154002_1 x154003_1 x154004_1 x154005_1 = some r) ∧ Aside0 (kq ≤ k1) ∧ Aside0 (wc.heap[gb153]? = some (.cells #[.int .i64 x154000_1, .int .i64 x154001_1, .int .i64 x154002_1, .int .i64 x154003_1, .int .i64 x154004_1, .int .i64 x154005_1] 48 (0, 0))) ∧ Aside0 (Below w.heap.size w wc))
        case first =>
          have H := HC10.out
          clear HC10
          by_cases c11 : x6_1 < 100
          · rw [if_pos c11] at H
            have c11b0 : decide (x6_1 < 100) = true := decide_eq_true c11
            clear c11
            (first | rw [c11b0] | (simp only [i64_w, i32_w]; rw [c11b0]) | skip)
            have H' := Aside0.mk H
            clear H
            have hcz12_0 : wr.cell? ⟨gb153, 0, none⟩ = some (.int .i64 x154000_1) := (blk_cell BK153.out 0).trans rfl
            have hcz12_1 : wr.cell? ⟨gb153, 1, none⟩ = some (.int .i64 x154001_1) := (blk_cell BK153.out 1).trans rfl
            have hcz12_2 : wr.cell? ⟨gb153, 2, none⟩ = some (.int .i64 x154002_1) := (blk_cell BK153.out 2).trans rfl
            have hcz12_3 : wr.cell? ⟨gb153, 3, none⟩ = some (.int .i64 x154003_1) := (blk_cell BK153.out 3).trans rfl
            have hcz12_4 : wr.cell? ⟨gb153, 4, none⟩ = some (.int .i64 x154004_1) := (blk_cell BK153.out 4).trans rfl
            have hcz12_5 : wr.cell? ⟨gb153, 5, none⟩ = some (.int .i64 x154005_1) := (blk_cell BK153.out 5).trans rfl
            have hfz12_0 := blk_frozen BK153.out 0
            have hfz12_1 := blk_frozen BK153.out 1
            have hfz12_2 := blk_frozen BK153.out 2
            have hfz12_3 := blk_frozen BK153.out 3
            have hfz12_4 := blk_frozen BK153.out 4
            have hfz12_5 := blk_frozen BK153.out 5
            go_wp2
            go_meet
            case rel => exact ⟨_, (decide (x154004_1 < x154005_1)), (by first | rfl | (simp; done) | (simp [*]; done)), H', ⟨by have := HK1.out; first | omega | exact Nat.le_refl _⟩, ⟨by (with_reducible repeat (first | refine blk_drewN ?_ _ | refine blk_drew ?_ | refine blk_alloc ?_ _)); exact BK153.out⟩, ⟨by repeat (first | (with_reducible first | exact HB.out | apply below_alloc | apply pw_below_drewN | apply below_drew1 | refine below_set ?_ GE153.out) | exact HB.out)⟩⟩
          · rw [if_neg c11] at H
            have c11b0 : decide (x6_1 < 100) = false := decide_eq_false c11
            clear c11
            (first | rw [c11b0] | (simp only [i64_w, i32_w]; rw [c11b0]) | skip)
            have H' := Aside0.mk H
            clear H
            go_wp2
            go_meet
            case rel => exact ⟨_, (false), (by first | rfl | (simp; done) | (simp [*]; done)), H', ⟨by have := HK1.out; first | omega | exact Nat.le_refl _⟩, ⟨by (with_reducible repeat (first | refine blk_drewN ?_ _ | refine blk_drew ?_ | refine blk_alloc ?_ _)); exact BK153.out⟩, ⟨by repeat (first | (with_reducible first | exact HB.out | apply below_alloc | apply pw_below_drewN | apply below_drew1 | refine below_set ?_ GE153.out) | exact HB.out)⟩⟩
        case rest =>
          clear HC10
          try clear c1
          try clear p2
          try clear c3
          try clear c5
          try clear c11
          try clear c11b0
          try clear hcz12_0
          try clear hcz12_1
          try clear hcz12_2
          try clear hcz12_3
          try clear hcz12_4
          try clear hcz12_5
          try clear hcz8_0
          try clear hcz8_1
          try clear hcz8_2
          try clear hcz8_3
          try clear hcz8_4
          try clear hcz8_5
          try clear hfz12_0
          try clear hfz12_1
          try clear hfz12_2
          try clear hfz12_3
          try clear hfz12_4
          try clear hfz12_5
          try clear hfz8_0
          try clear hfz8_1
          try clear hfz8_2
          try clear hfz8_3
          try clear hfz8_4
          try clear hfz8_5
          try clear p2
          obtain ⟨kq, x26_9, rfl, HA, HJ9, BK153, HB⟩ := hcut
          cases kq with
          | zero => exact absurd HA.out (by simp [sluicewaylaw05_WindowLocks.j1])
          | succ kj9 =>
            have H := HA.out
            clear HA
            simp only [sluicewaylaw05_WindowLocks.j1] at H
            by_cases c13 : x26_9 = true
            · subst c13
              have H1 : ((window_Accept.f kj9 x154000_1 x154001_1 x154002_1 x154003_1 x154004_1 x154005_1 ([] : List Int)).bind fun bt156 => (if bt156.2.2.2.2.2.2.2 = 6 then (if bt156.2.2.2.2.1 = (wrap64 (x154004_1 + 1)) then (if bt156.1 = x154000_1 then (if bt156.2.2.2.1 = 0 then (sluicewaylaw05_WindowLocks.l0 kj9 l1 t154 (wrap64 (x6_1 + 1)) bt156.1 bt156.2.1 bt156.2.2.1 bt156.2.2.2.1 bt156.2.2.2.2.1 bt156.2.2.2.2.2.1) else (none)) else (none)) else (none)) else (none))) = some r := by rw [if_pos rfl] at H; exact H
              clear H
              have H := H1
              clear H1
              replace H := Option.bind_eq_some_iff.mp H
              obtain ⟨⟨t156, t157, t158, t159, t160, t161, t162, t163⟩, A140, H⟩ := H
              replace H : (if t163 = 6 then (if t160 = (wrap64 (x154004_1 + 1)) then (if t156 = x154000_1 then (if t159 = 0 then (sluicewaylaw05_WindowLocks.l0 kj9 l1 t154 (wrap64 (x6_1 + 1)) t156 t157 t158 t159 t160 t161) else (none)) else (none)) else (none)) else (none)) = some r := H
              have A14 := Aside0.mk A140
              clear A140
              by_cases c15 : t163 = 6
              · rw [if_pos c15] at H
                have c15b0 : (t163 == 6) = true := beq_iff_eq.mpr c15
                have c15b1 : (t163 != 6) = false := bne_eq_false_iff_eq.mpr c15
                clear c15
                by_cases c16 : t160 = (wrap64 (x154004_1 + 1))
                · rw [if_pos c16] at H
                  have c16b0 : (t160 == (wrap64 (x154004_1 + 1))) = true := beq_iff_eq.mpr c16
                  have c16b1 : (t160 != (wrap64 (x154004_1 + 1))) = false := bne_eq_false_iff_eq.mpr c16
                  clear c16
                  by_cases c17 : t156 = x154000_1
                  · rw [if_pos c17] at H
                    have c17b0 : (t156 == x154000_1) = true := beq_iff_eq.mpr c17
                    have c17b1 : (t156 != x154000_1) = false := bne_eq_false_iff_eq.mpr c17
                    clear c17
                    by_cases c18 : t159 = 0
                    · rw [if_pos c18] at H
                      have c18b0 : (t159 == 0) = true := beq_iff_eq.mpr c18
                      have c18b1 : (t159 != 0) = false := bne_eq_false_iff_eq.mpr c18
                      clear c18
                      have H' := Aside0.mk H
                      clear H
                      have hcz19_0 : wc.cell? ⟨gb153, 0, none⟩ = some (.int .i64 x154000_1) := (blk_cell BK153.out 0).trans rfl
                      have hcz19_1 : wc.cell? ⟨gb153, 1, none⟩ = some (.int .i64 x154001_1) := (blk_cell BK153.out 1).trans rfl
                      have hcz19_2 : wc.cell? ⟨gb153, 2, none⟩ = some (.int .i64 x154002_1) := (blk_cell BK153.out 2).trans rfl
                      have hcz19_3 : wc.cell? ⟨gb153, 3, none⟩ = some (.int .i64 x154003_1) := (blk_cell BK153.out 3).trans rfl
                      have hcz19_4 : wc.cell? ⟨gb153, 4, none⟩ = some (.int .i64 x154004_1) := (blk_cell BK153.out 4).trans rfl
                      have hcz19_5 : wc.cell? ⟨gb153, 5, none⟩ = some (.int .i64 x154005_1) := (blk_cell BK153.out 5).trans rfl
                      have hfz19_0 := blk_frozen BK153.out 0
                      have hfz19_1 := blk_frozen BK153.out 1
                      have hfz19_2 := blk_frozen BK153.out 2
                      have hfz19_3 := blk_frozen BK153.out 3
                      have hfz19_4 := blk_frozen BK153.out 4
                      have hfz19_5 := blk_frozen BK153.out 5
                      go_wp2_with (first | ((with_reducible refine gate_callee (f := 35) rfl ?_); refine goesL_ (some 31) rfl rfl Try.func35 (by kernel_rfl) rfl #[.agg #[.int .i64 x154000_1, .int .i64 x154001_1, .int .i64 x154002_1, .int .i64 x154003_1, .int .i64 x154004_1, .int .i64 x154005_1], .slice none 0 0] rfl (by (try simp only [List.map_toArray, List.map_cons, List.map_nil]); first | done | rfl | (simp only [List.length_drop, List.length_take]; rfl)) ?_; (refine (window_Accept.calls kj9 x154000_1 x154001_1 x154002_1 x154003_1 x154004_1 x154005_1 _ _ ([] : List Int) t156 t157 t158 t159 t160 t161 t162 t163 _ ?side1 ?side2 A14.out).mono ?_); (case side1 => exact Kd.C_nil _ _); (case side2 => exact Nat.le_refl _); rintro e w20 ⟨rfl, hb⟩; refine ⟨_, rfl, ?_⟩; have n0_ := Aside0.mk (blk_below (g := gb153) (o := .cells #[.int .i64 x154000_1, .int .i64 x154001_1, .int .i64 x154002_1, .int .i64 x154003_1, .int .i64 x154004_1, .int .i64 x154005_1] 48 (0, 0)) (by (with_reducible repeat (first | refine blk_drewN ?_ _ | refine blk_drew ?_ | refine blk_alloc ?_ _)); exact BK153.out) hb); have n1_ := Aside0.mk (below_step (by repeat (first | (with_reducible first | exact HB.out | apply below_alloc | apply pw_below_drewN | apply below_drew1 | refine below_set ?_ GE153.out) | exact HB.out)) hb); clear BK153; clear HB; have BK153 := n0_; have HB := n1_; clear n0_ n1_; (try clear hb); (try clear hb2); (try clear hk); (try clear hi)) | ((with_reducible refine gate_dst (N := 7) rfl ?_); refine box_event ?hg (N := 7) ?hd (cs := #[.int .i64 0, .int .i64 0, .int .i64 0, .int .i64 0, .int .i64 0, .int .i64 0]) (t := 48) ?hr ?_; (case hd => rfl); (case hg => rfl); (case hr => first | (go_simp; done) | (go_simp; rfl)); intro gb164 hg w21 hbox hb; have n0_ := Aside0.mk (blk_below (g := gb153) (o := .cells #[.int .i64 x154000_1, .int .i64 x154001_1, .int .i64 x154002_1, .int .i64 x154003_1, .int .i64 x154004_1, .int .i64 x154005_1] 48 (0, 0)) (by (with_reducible repeat (first | refine blk_drewN ?_ _ | refine blk_drew ?_ | refine blk_alloc ?_ _)); exact BK153.out) hb); have n1_ := Aside0.mk (below_step (by repeat (first | (with_reducible first | exact HB.out | apply below_alloc | apply pw_below_drewN | apply below_drew1 | refine below_set ?_ GE153.out) | exact HB.out)) hb); have n2_ := Aside0.mk (hbox); have n3_ := Aside0.mk ((by rw [hg]; exact (below_size (by repeat (first | (with_reducible first | exact HB.out | apply below_alloc | apply pw_below_drewN | apply below_drew1 | refine below_set ?_ GE153.out) | exact HB.out))) : w.heap.size ≤ gb164)); have n4_ := Aside0.mk ((by rw [hg]; exact (below_size (by repeat (first | (with_reducible first | exact HB.out | apply below_alloc | apply pw_below_drewN | apply below_drew1 | refine below_set ?_ GE153.out) | exact HB.out))) : w.heap.size ≤ gb164)); have n5_ := Aside0.mk ((by rw [hg]; exact Nat.ne_of_lt (blk_lt (g := gb153) (o := .cells #[.int .i64 x154000_1, .int .i64 x154001_1, .int .i64 x154002_1, .int .i64 x154003_1, .int .i64 x154004_1, .int .i64 x154005_1] 48 (0, 0)) (by (with_reducible repeat (first | refine blk_drewN ?_ _ | refine blk_drew ?_ | refine blk_alloc ?_ _)); exact BK153.out)) : gb153 ≠ gb164)); have n6_ := Aside0.mk ((by rw [hg]; exact Nat.ne_of_gt (blk_lt (g := gb153) (o := .cells #[.int .i64 x154000_1, .int .i64 x154001_1, .int .i64 x154002_1, .int .i64 x154003_1, .int .i64 x154004_1, .int .i64 x154005_1] 48 (0, 0)) (by (with_reducible repeat (first | refine blk_drewN ?_ _ | refine blk_drew ?_ | refine blk_alloc ?_ _)); exact BK153.out)) : gb164 ≠ gb153)); clear BK153; clear HB; have BK153 := n0_; have HB := n1_; have BK164 := n2_; have GW164 := n3_; have GE164 := n4_; have NB153_164 := n5_; have NB164_153 := n6_; clear n0_ n1_ n2_ n3_ n4_ n5_ n6_; clear hb hbox hg; have hnb22 := NB164_153.out; have hnc22 := NB153_164.out; have hcz23_0 : w21.cell? ⟨gb164, 0, none⟩ = some (.int .i64 0) := (blk_cell BK164.out 0).trans rfl; have hcz23_1 : w21.cell? ⟨gb164, 1, none⟩ = some (.int .i64 0) := (blk_cell BK164.out 1).trans rfl; have hcz23_2 : w21.cell? ⟨gb164, 2, none⟩ = some (.int .i64 0) := (blk_cell BK164.out 2).trans rfl; have hcz23_3 : w21.cell? ⟨gb164, 3, none⟩ = some (.int .i64 0) := (blk_cell BK164.out 3).trans rfl; have hcz23_4 : w21.cell? ⟨gb164, 4, none⟩ = some (.int .i64 0) := (blk_cell BK164.out 4).trans rfl; have hcz23_5 : w21.cell? ⟨gb164, 5, none⟩ = some (.int .i64 0) := (blk_cell BK164.out 5).trans rfl; have hfz23_0 := blk_frozen BK164.out 0; have hfz23_1 := blk_frozen BK164.out 1; have hfz23_2 := blk_frozen BK164.out 2; have hfz23_3 := blk_frozen BK164.out 3; have hfz23_4 := blk_frozen BK164.out 4; have hfz23_5 := blk_frozen BK164.out 5; have hcz24_0 : w21.cell? ⟨gb153, 0, none⟩ = some (.int .i64 x154000_1) := (blk_cell BK153.out 0).trans rfl; have hcz24_1 : w21.cell? ⟨gb153, 1, none⟩ = some (.int .i64 x154001_1) := (blk_cell BK153.out 1).trans rfl; have hcz24_2 : w21.cell? ⟨gb153, 2, none⟩ = some (.int .i64 x154002_1) := (blk_cell BK153.out 2).trans rfl; have hcz24_3 : w21.cell? ⟨gb153, 3, none⟩ = some (.int .i64 x154003_1) := (blk_cell BK153.out 3).trans rfl; have hcz24_4 : w21.cell? ⟨gb153, 4, none⟩ = some (.int .i64 x154004_1) := (blk_cell BK153.out 4).trans rfl; have hcz24_5 : w21.cell? ⟨gb153, 5, none⟩ = some (.int .i64 x154005_1) := (blk_cell BK153.out 5).trans rfl; have hfz24_0 := blk_frozen BK153.out 0; have hfz24_1 := blk_frozen BK153.out 1; have hfz24_2 := blk_frozen BK153.out 2; have hfz24_3 := blk_frozen BK153.out 3; have hfz24_4 := blk_frozen BK153.out 4; have hfz24_5 := blk_frozen BK153.out 5))
                      go_roundg kj9
                      case measure => have := HK1.out; have := HJ9.out; omega
                      case rel => exact ⟨(wrap64 (x6_1 + 1)), (t156), (t157), (t158), (t159), (t160), (t161), (by first | rfl | (simp; done) | (simp [*]; done)), H', ⟨by have := HK1.out; have := HJ9.out; omega⟩, ⟨by (with_reducible repeat (first | refine blk_drewN ?_ _ | refine blk_drew ?_ | refine blk_alloc ?_ _)); refine blk_put (cs := #[.int .i64 t156, .int .i64 t157, .int .i64 t158, .int .i64 t159, .int .i64 t160, .int .i64 x154005_1]) ?_ 5 _ rfl; (with_reducible repeat (first | refine blk_drewN ?_ _ | refine blk_drew ?_ | refine blk_alloc ?_ _)); refine blk_put (cs := #[.int .i64 t156, .int .i64 t157, .int .i64 t158, .int .i64 t159, .int .i64 x154004_1, .int .i64 x154005_1]) ?_ 4 _ rfl; (with_reducible repeat (first | refine blk_drewN ?_ _ | refine blk_drew ?_ | refine blk_alloc ?_ _)); refine blk_put (cs := #[.int .i64 t156, .int .i64 t157, .int .i64 t158, .int .i64 x154003_1, .int .i64 x154004_1, .int .i64 x154005_1]) ?_ 3 _ rfl; (with_reducible repeat (first | refine blk_drewN ?_ _ | refine blk_drew ?_ | refine blk_alloc ?_ _)); refine blk_put (cs := #[.int .i64 t156, .int .i64 t157, .int .i64 x154002_1, .int .i64 x154003_1, .int .i64 x154004_1, .int .i64 x154005_1]) ?_ 2 _ rfl; (with_reducible repeat (first | refine blk_drewN ?_ _ | refine blk_drew ?_ | refine blk_alloc ?_ _)); refine blk_put (cs := #[.int .i64 t156, .int .i64 x154001_1, .int .i64 x154002_1, .int .i64 x154003_1, .int .i64 x154004_1, .int .i64 x154005_1]) ?_ 1 _ rfl; (with_reducible repeat (first | refine blk_drewN ?_ _ | refine blk_drew ?_ | refine blk_alloc ?_ _)); refine blk_put (cs := #[.int .i64 x154000_1, .int .i64 x154001_1, .int .i64 x154002_1, .int .i64 x154003_1, .int .i64 x154004_1, .int .i64 x154005_1]) ?_ 0 _ rfl; (with_reducible repeat (first | refine blk_drewN ?_ _ | refine blk_drew ?_ | refine blk_alloc ?_ _)); refine blk_far ?_ NB153_164.out _; (with_reducible repeat (first | refine blk_drewN ?_ _ | refine blk_drew ?_ | refine blk_alloc ?_ _)); refine blk_far ?_ NB153_164.out _; (with_reducible repeat (first | refine blk_drewN ?_ _ | refine blk_drew ?_ | refine blk_alloc ?_ _)); refine blk_far ?_ NB153_164.out _; (with_reducible repeat (first | refine blk_drewN ?_ _ | refine blk_drew ?_ | refine blk_alloc ?_ _)); refine blk_far ?_ NB153_164.out _; (with_reducible repeat (first | refine blk_drewN ?_ _ | refine blk_drew ?_ | refine blk_alloc ?_ _)); refine blk_far ?_ NB153_164.out _; (with_reducible repeat (first | refine blk_drewN ?_ _ | refine blk_drew ?_ | refine blk_alloc ?_ _)); refine blk_far ?_ NB153_164.out _; (with_reducible repeat (first | refine blk_drewN ?_ _ | refine blk_drew ?_ | refine blk_alloc ?_ _)); exact BK153.out⟩, ⟨by repeat (first | (with_reducible first | exact HB.out | apply below_alloc | apply pw_below_drewN | apply below_drew1 | refine below_set ?_ GE153.out | refine below_set ?_ GE164.out) | exact HB.out)⟩⟩
                    · rw [if_neg c18] at H
                      exact absurd H (by simp)
                  · rw [if_neg c17] at H
                    exact absurd H (by simp)
                · rw [if_neg c16] at H
                  exact absurd H (by simp)
              · rw [if_neg c15] at H
                exact absurd H (by simp)
            · replace c13 := Bool.eq_false_iff.mpr c13
              subst c13
              have H1 : (if 0 ≤ (mn (l1.length : Int) 20) then (if (mn (l1.length : Int) 20) ≤ (l1.length : Int) then ((window_Accept.f kj9 x154000_1 x154001_1 x154002_1 x154003_1 x154004_1 x154005_1 (l1.take ((mn (l1.length : Int) 20) : Int).toNat)).bind fun bt166 => (if t154 = true then (if x154004_1 ≥ x154005_1 then (if bt166.2.2.2.2.2.2.2 = 7 then (if (bt166.1 == x154000_1 && (bt166.2.1 == x154001_1 && (bt166.2.2.1 == x154002_1 && (bt166.2.2.2.1 == x154003_1 && (bt166.2.2.2.2.1 == x154004_1 && (bt166.2.2.2.2.2.1 == x154005_1)))))) = true then (some (bt166.2.2.2.2.2.2.1 == 0)) else (none)) else (none)) else (none)) else (none))) else (none)) else (none)) = some r := by rw [if_neg (show ¬ (false = true) by decide)] at H; exact H
              clear H
              have H := H1
              clear H1
              obtain ⟨ji25, hji25⟩ : ∃ j_ : Int, (mn (l1.length : Int) 20) = j_ := ⟨_, rfl⟩
              replace H : (if 0 ≤ (ji25) then (if (ji25) ≤ (l1.length : Int) then ((window_Accept.f kj9 x154000_1 x154001_1 x154002_1 x154003_1 x154004_1 x154005_1 (l1.take ((ji25) : Int).toNat)).bind fun bt166 => (if t154 = true then (if x154004_1 ≥ x154005_1 then (if bt166.2.2.2.2.2.2.2 = 7 then (if (bt166.1 == x154000_1 && (bt166.2.1 == x154001_1 && (bt166.2.2.1 == x154002_1 && (bt166.2.2.2.1 == x154003_1 && (bt166.2.2.2.2.1 == x154004_1 && (bt166.2.2.2.2.2.1 == x154005_1)))))) = true then (some (bt166.2.2.2.2.2.2.1 == 0)) else (none)) else (none)) else (none)) else (none))) else (none)) else (none)) = some r := by first | (rw [hji25] at H; exact H) | (simp only [hji25] at H ⊢; exact H)
              have hji25_ : (if 20 < (l1.length : Int) then 20 else (l1.length : Int)) = ji25 := hji25
              by_cases c26 : 0 ≤ (ji25)
              · rw [if_pos c26] at H
                have c26b0 := eq_true c26
                have c26b1 : decide (0 ≤ (ji25)) = true := decide_eq_true c26
                clear c26
                by_cases c27 : (ji25) ≤ (l1.length : Int)
                · rw [if_pos c27] at H
                  have c27b0 := eq_true c27
                  have c27b1 : decide ((ji25) ≤ (l1.length : Int)) = true := decide_eq_true c27
                  clear c27
                  replace H := Option.bind_eq_some_iff.mp H
                  obtain ⟨⟨t166, t167, t168, t169, t170, t171, t172, t173⟩, A280, H⟩ := H
                  replace H : (if t154 = true then (if x154004_1 ≥ x154005_1 then (if t173 = 7 then (if (t166 == x154000_1 && (t167 == x154001_1 && (t168 == x154002_1 && (t169 == x154003_1 && (t170 == x154004_1 && (t171 == x154005_1)))))) = true then (some (t172 == 0)) else (none)) else (none)) else (none)) else (none)) = some r := H
                  have A28 := Aside0.mk A280
                  clear A280
                  by_cases c29 : t154 = true
                  · subst c29
                    have H1 : (if x154004_1 ≥ x154005_1 then (if t173 = 7 then (if (t166 == x154000_1 && (t167 == x154001_1 && (t168 == x154002_1 && (t169 == x154003_1 && (t170 == x154004_1 && (t171 == x154005_1)))))) = true then (some (t172 == 0)) else (none)) else (none)) else (none)) = some r := by rw [if_pos rfl] at H; exact H
                    clear H
                    have H := H1
                    clear H1
                    by_cases c30 : x154004_1 ≥ x154005_1
                    · rw [if_pos c30] at H
                      have c30b0 : decide (x154005_1 ≤ x154004_1) = true := decide_eq_true c30
                      clear c30
                      by_cases c31 : t173 = 7
                      · rw [if_pos c31] at H
                        have c31b0 : (t173 == 7) = true := beq_iff_eq.mpr c31
                        have c31b1 : (t173 != 7) = false := bne_eq_false_iff_eq.mpr c31
                        clear c31
                        by_cases c32 : (t166 == x154000_1 && (t167 == x154001_1 && (t168 == x154002_1 && (t169 == x154003_1 && (t170 == x154004_1 && (t171 == x154005_1)))))) = true
                        · rw [if_pos c32] at H
                          have c32b0 : (t166 == x154000_1 && (t167 == x154001_1 && (t168 == x154002_1 && (t169 == x154003_1 && (t170 == x154004_1 && (t171 == x154005_1)))))) = true := c32
                          (try (have c32b1 : decide (t166 = x154000_1 && (t167 == x154001_1 && (t168 == x154002_1 && (t169 == x154003_1 && (t170 == x154004_1 && (t171 == x154005_1)))))) = true := by simpa using c32))
                          (try (have c32b2 : (t166 == x154000_1 && (t167 == x154001_1 && (t168 == x154002_1 && (t169 == x154003_1 && (t170 == x154004_1 && (t171 == x154005_1)))))) = true := by simpa using c32))
                          clear c32
                          obtain rfl := Option.some.inj H
                          try go_wp2
                          have n0_ := Aside0.mk (blk_drew BK153.out)
                          have n1_ := Aside0.mk (below_drew1 HB.out)
                          clear BK153
                          clear HB
                          have BK153 := n0_
                          have HB := n1_
                          clear n0_ n1_
                          obtain ⟨i034, hi034, _, hsz34, _⟩ := info_parts info3
                          obtain ⟨hcut34, hA34, hC34⟩ := print_take_of (P := Try.prog) (Value.int .i64) 0 54 3 .i64 Try.underlying54 hi034 hsz34 A1 c1 l1 (ji25) (of_decide_eq_true (by first | (with_reducible assumption) | assumption)) (of_decide_eq_true (by first | (with_reducible assumption) | assumption)) HC1.out
                          have HR165 := Aside0.mk (Kd.C_of_reads (h1 := fun _ => rfl) (hA34 _ (Kd.reads_of_C HR1.out)))
                          have HC165 := Aside0.mk hC34
                          clear hA34 hC34 hi034 hsz34
                          refine start_ (n := 15) (S := fun w' => w'.cell? ⟨gb153, 0, none⟩ = some (.int .i64 x154000_1) ∧ w'.cell? ⟨gb153, 1, none⟩ = some (.int .i64 x154001_1) ∧ w'.cell? ⟨gb153, 2, none⟩ = some (.int .i64 x154002_1) ∧ w'.cell? ⟨gb153, 3, none⟩ = some (.int .i64 x154003_1) ∧ w'.cell? ⟨gb153, 4, none⟩ = some (.int .i64 x154004_1) ∧ w'.cell? ⟨gb153, 5, none⟩ = some (.int .i64 x154005_1)) (ds := []) #[false, false, false, false, false, false, false, false, false, false, false, false, false, false, false] (by kernel_rfl) rfl rfl ⟨(blk_cell BK153.out 0).trans rfl, (blk_cell BK153.out 1).trans rfl, (blk_cell BK153.out 2).trans rfl, (blk_cell BK153.out 3).trans rfl, (blk_cell BK153.out 4).trans rfl, (blk_cell BK153.out 5).trans rfl⟩ (fun hHeld => ?_); refine with_tabW sluicewaylaw05_WindowLocks.tab11 sluicewaylaw05_WindowLocks.bits11 (fun HT_ HW_ => ?_)
                          generalize wc.drew = w33 at BK153 HB HR165 hHeld ⊢
                          refine pure_ (i := 1) (N := some 60) (v := ?_) (a' := ?_) #[false, true, false, false, false, false, false, false, false, false, false, false, false, false, false] rfl rfl (any_of HT_.out (by kernel_rfl)) (fun _ _ _ h => h) (Or.inl ⟨by rfl, ?_⟩) ?_ ?_
                          rotate_left
                          · intro w'
                            go_simp
                            with_reducible rfl
                          rotate_left
                          · simp only [Act.put, List.setIfInBounds_toArray, List.set_cons_zero, List.set_cons_succ, i64_w, i32_w]
                            rfl
                          refine pure_ (i := 2) (N := some 61) (v := ?_) (a' := ?_) #[false, true, true, false, false, false, false, false, false, false, false, false, false, false, false] rfl rfl (any_of HT_.out (by kernel_rfl)) (fun _ _ _ h => h) (Or.inl ⟨by rfl, ?_⟩) ?_ ?_
                          rotate_left
                          · intro w'
                            go_simp
                            with_reducible rfl
                          rotate_left
                          · simp only [Act.put, List.setIfInBounds_toArray, List.set_cons_zero, List.set_cons_succ, i64_w, i32_w]
                            rfl
                          refine pure_ (i := 3) (N := some 62) (v := ?_) (a' := ?_) #[false, true, true, true, false, false, false, false, false, false, false, false, false, false, false] rfl rfl (any_of HT_.out (by kernel_rfl)) (fun _ _ _ h => h) (Or.inl ⟨by rfl, ?_⟩) ?_ ?_
                          rotate_left
                          · intro w'
                            go_simp
                            with_reducible rfl
                          rotate_left
                          · simp only [Act.put, List.setIfInBounds_toArray, List.set_cons_zero, List.set_cons_succ, i64_w, i32_w]
                            rfl
                          refine pure_ (i := 4) (N := some 63) (v := ?_) (a' := ?_) #[false, true, true, true, true, false, false, false, false, false, false, false, false, false, false] rfl rfl (any_of HT_.out (by kernel_rfl)) (fun _ _ _ h => h) (Or.inl ⟨by rfl, ?_⟩) ?_ ?_
                          rotate_left
                          · intro w'
                            go_simp
                            with_reducible rfl
                          rotate_left
                          · simp only [Act.put, List.setIfInBounds_toArray, List.set_cons_zero, List.set_cons_succ, i64_w, i32_w]
                            rfl
                          refine pure_ (i := 5) (N := some 64) (v := ?_) (a' := ?_) #[false, true, true, true, true, true, false, false, false, false, false, false, false, false, false] rfl rfl (any_of HT_.out (by kernel_rfl)) (fun _ _ _ h => h) (Or.inl ⟨by rfl, ?_⟩) ?_ ?_
                          rotate_left
                          · intro w'
                            go_simp
                            with_reducible rfl
                          rotate_left
                          · simp only [Act.put, List.setIfInBounds_toArray, List.set_cons_zero, List.set_cons_succ, i64_w, i32_w]
                            rfl
                          refine take_ (i := 0) (N := some 59) (v := ?_) (a' := ?_) #[true, true, true, true, true, true, false, false, false, false, false, false, false, false, false] rfl rfl (take_ofW HT_.out HW_.out (by kernel_rfl)) (fun _ _ _ h => h) (Or.inl ⟨by rfl, ?_⟩) hHeld ?_ ?_
                          rotate_left
                          · rintro w' ⟨s0, s1, s2, s3, s4, s5⟩
                            go_simp
                            with_reducible rfl
                          rotate_left
                          · simp only [Act.put, List.setIfInBounds_toArray, List.set_cons_zero, List.set_cons_succ, i64_w, i32_w]
                            rfl
                          refine join_ (σ := Nat) 3 #[true, true, true, true, true, true, true, true, true, true, true, true, false, false, false] (fun s_ => [(65, .tuple #[.agg #[.int .i64 t166, .int .i64 t167, .int .i64 t168, .int .i64 t169, .int .i64 t170, .int .i64 t171], .int .i64 t172, .int .i64 t173]), (10, .pointer (some ⟨s_, 0, none⟩)), (58, .tuple #[.agg #[.int .i64 t166, .int .i64 t167, .int .i64 t168, .int .i64 t169, .int .i64 t170, .int .i64 t171], .int .i64 t172, .int .i64 t173]), (66, .agg #[.int .i64 t166, .int .i64 t167, .int .i64 t168, .int .i64 t169, .int .i64 t170, .int .i64 t171]), (67, .int .i64 t172), (68, .int .i64 t173)]) (fun s_ w' => (w'.cell? ⟨gb153, 0, none⟩ = some (.int .i64 x154000_1) ∧ w'.cell? ⟨gb153, 1, none⟩ = some (.int .i64 x154001_1) ∧ w'.cell? ⟨gb153, 2, none⟩ = some (.int .i64 x154002_1) ∧ w'.cell? ⟨gb153, 3, none⟩ = some (.int .i64 x154003_1) ∧ w'.cell? ⟨gb153, 4, none⟩ = some (.int .i64 x154004_1) ∧ w'.cell? ⟨gb153, 5, none⟩ = some (.int .i64 x154005_1)) ∧ (w'.heap[gb153]? = some (.cells #[.int .i64 x154000_1, .int .i64 x154001_1, .int .i64 x154002_1, .int .i64 x154003_1, .int .i64 x154004_1, .int .i64 x154005_1] 48 (0, 0))) ∧ (w'.heap[s_]? = some (.cells #[.int .i64 0, .int .i64 0, .int .i64 0, .int .i64 0, .int .i64 0, .int .i64 0] 48 (0, 0))) ∧ (w.heap.size ≤ s_) ∧ (w.heap.size ≤ s_) ∧ (gb153 ≠ s_) ∧ (s_ ≠ gb153) ∧ (Below w.heap.size w w')) ?_ ?_
                          rotate_left
                          · intro hCont
                            refine two_ (i := 6) (j := 11) (Ni := some 65) (Nj := some 10) #[true, true, true, true, true, true, true, false, false, false, false, false, false, false, false] #[true, true, true, true, true, true, false, false, false, false, false, true, false, false, false] rfl rfl rfl rfl (two_of HT_.out (by kernel_rfl)) (by decide) (by decide) (fun K hK => ?_) (fun K hK => ?_)
                            · skip
                              refine goes_ Try.func35 (by kernel_rfl) rfl #[.agg #[.int .i64 x154000_1, .int .i64 x154001_1, .int .i64 x154002_1, .int .i64 x154003_1, .int .i64 x154004_1, .int .i64 x154005_1], .slice A1 (l1.take ((ji25) : Int).toNat).length c1] (by rfl) rfl rfl (by (try simp only [List.map_toArray, List.map_cons, List.map_nil]); first | done | (rw [show (l1.take ((ji25) : Int).toNat).length = (ji25).toNat from (by rw [List.length_take]; have h_ : ((ji25) : Int) ≤ (l1.length : Int) := of_decide_eq_true (by first | (with_reducible assumption) | assumption); omega)] <;> rfl) | (simp only [hji25]; rfl) | rfl | (simp only [List.length_drop, List.length_take]; rfl)) ?_
                              with_reducible refine (window_Accept.calls kj9 x154000_1 x154001_1 x154002_1 x154003_1 x154004_1 x154005_1 _ _ (l1.take ((ji25) : Int).toNat) t166 t167 t168 t169 t170 t171 t172 t173 _ ?side1 ?side2 A28.out).mono ?_
                              (case side1 => repeat (first | exact (Kd.C_below HR165.out HB.out) | (with_reducible refine Kd.C_alloc ?_ _) | (with_reducible refine Kd.C_drewN ?_ _) | (with_reducible refine Kd.C_drew ?_)))
                              (case side2 => exact HC165.out)
                              rintro e w35 ⟨rfl, hb⟩
                              refine ⟨_, rfl, ?_⟩
                              have n0_ := Aside0.mk (blk_below (g := gb153) (o := .cells #[.int .i64 x154000_1, .int .i64 x154001_1, .int .i64 x154002_1, .int .i64 x154003_1, .int .i64 x154004_1, .int .i64 x154005_1] 48 (0, 0)) (by (with_reducible repeat (first | refine blk_drewN ?_ _ | refine blk_drew ?_ | refine blk_alloc ?_ _)); exact BK153.out) hb)
                              have n1_ := Aside0.mk (below_step (by repeat (first | (with_reducible first | exact HB.out | apply below_alloc | apply pw_below_drewN | apply below_drew1 | refine below_set ?_ GE153.out) | exact HB.out)) hb)
                              clear BK153
                              clear HB
                              have BK153 := n0_
                              have HB := n1_
                              clear n0_ n1_
                              (try clear hb)
                              (try clear hb2)
                              (try clear hk)
                              (try clear hi)
                              refine hK.out _ _ ⟨(blk_cell BK153.out 0).trans rfl, (blk_cell BK153.out 1).trans rfl, (blk_cell BK153.out 2).trans rfl, (blk_cell BK153.out 3).trans rfl, (blk_cell BK153.out 4).trans rfl, (blk_cell BK153.out 5).trans rfl⟩ (fun hHeld => ?_)
                              clear hK K
                              refine norm_ (a' := ?_) ?_ ?_
                              rotate_left
                              · show Act.put _ (some 65) _ = _
                                simp only [Act.put, List.setIfInBounds_toArray, List.set_cons_zero, List.set_cons_succ, i64_w, i32_w]
                                rfl
                              refine pure_ (i := 7) (N := some 58) (v := ?_) (a' := ?_) #[true, true, true, true, true, true, true, true, false, false, false, false, false, false, false] rfl rfl (any_of HT_.out (by kernel_rfl)) (fun _ _ _ h => h) (Or.inl ⟨by rfl, ?_⟩) ?_ ?_
                              rotate_left
                              · intro w'
                                go_simp
                                with_reducible rfl
                              rotate_left
                              · simp only [Act.put, List.setIfInBounds_toArray, List.set_cons_zero, List.set_cons_succ, i64_w, i32_w]
                                rfl
                              refine pure_ (i := 8) (N := some 66) (v := ?_) (a' := ?_) #[true, true, true, true, true, true, true, true, true, false, false, false, false, false, false] rfl rfl (any_of HT_.out (by kernel_rfl)) (fun _ _ _ h => h) (Or.inl ⟨by rfl, ?_⟩) ?_ ?_
                              rotate_left
                              · intro w'
                                go_simp
                                with_reducible rfl
                              rotate_left
                              · simp only [Act.put, List.setIfInBounds_toArray, List.set_cons_zero, List.set_cons_succ, i64_w, i32_w]
                                rfl
                              refine pure_ (i := 9) (N := some 67) (v := ?_) (a' := ?_) #[true, true, true, true, true, true, true, true, true, true, false, false, false, false, false] rfl rfl (any_of HT_.out (by kernel_rfl)) (fun _ _ _ h => h) (Or.inl ⟨by rfl, ?_⟩) ?_ ?_
                              rotate_left
                              · intro w'
                                go_simp
                                with_reducible rfl
                              rotate_left
                              · simp only [Act.put, List.setIfInBounds_toArray, List.set_cons_zero, List.set_cons_succ, i64_w, i32_w]
                                rfl
                              refine pure_ (i := 10) (N := some 68) (v := ?_) (a' := ?_) #[true, true, true, true, true, true, true, true, true, true, true, false, false, false, false] rfl rfl (any_of HT_.out (by kernel_rfl)) (fun _ _ _ h => h) (Or.inl ⟨by rfl, ?_⟩) ?_ ?_
                              rotate_left
                              · intro w'
                                go_simp
                                with_reducible rfl
                              rotate_left
                              · simp only [Act.put, List.setIfInBounds_toArray, List.set_cons_zero, List.set_cons_succ, i64_w, i32_w]
                                rfl
                              refine one_ (i := 11) (N := some 10) #[true, true, true, true, true, true, true, true, true, true, true, true, false, false, false] rfl rfl (one_of HT_.out (by kernel_rfl)) (by decide) (fun K hK => ?_)
                              refine box_step ?hg (N := 10) ?hd (cs := #[.int .i64 0, .int .i64 0, .int .i64 0, .int .i64 0, .int .i64 0, .int .i64 0]) (t := 48) ?hr ?_; (case hd => rfl); (case hg => rfl); (case hr => first | (go_simp; done) | (go_simp; rfl))
                              intro gb174 hg w36 hbox hb
                              have n0_ := Aside0.mk (blk_below (g := gb153) (o := .cells #[.int .i64 x154000_1, .int .i64 x154001_1, .int .i64 x154002_1, .int .i64 x154003_1, .int .i64 x154004_1, .int .i64 x154005_1] 48 (0, 0)) (by (with_reducible repeat (first | refine blk_drewN ?_ _ | refine blk_drew ?_ | refine blk_alloc ?_ _)); exact BK153.out) hb)
                              have n1_ := Aside0.mk (below_step (by repeat (first | (with_reducible first | exact HB.out | apply below_alloc | apply pw_below_drewN | apply below_drew1 | refine below_set ?_ GE153.out) | exact HB.out)) hb)
                              have n2_ := Aside0.mk (hbox)
                              have n3_ := Aside0.mk ((by rw [hg]; exact (below_size (by repeat (first | (with_reducible first | exact HB.out | apply below_alloc | apply pw_below_drewN | apply below_drew1 | refine below_set ?_ GE153.out) | exact HB.out))) : w.heap.size ≤ gb174))
                              have n4_ := Aside0.mk ((by rw [hg]; exact (below_size (by repeat (first | (with_reducible first | exact HB.out | apply below_alloc | apply pw_below_drewN | apply below_drew1 | refine below_set ?_ GE153.out) | exact HB.out))) : w.heap.size ≤ gb174))
                              have n5_ := Aside0.mk ((by rw [hg]; exact Nat.ne_of_lt (blk_lt (g := gb153) (o := .cells #[.int .i64 x154000_1, .int .i64 x154001_1, .int .i64 x154002_1, .int .i64 x154003_1, .int .i64 x154004_1, .int .i64 x154005_1] 48 (0, 0)) (by (with_reducible repeat (first | refine blk_drewN ?_ _ | refine blk_drew ?_ | refine blk_alloc ?_ _)); exact BK153.out)) : gb153 ≠ gb174))
                              have n6_ := Aside0.mk ((by rw [hg]; exact Nat.ne_of_gt (blk_lt (g := gb153) (o := .cells #[.int .i64 x154000_1, .int .i64 x154001_1, .int .i64 x154002_1, .int .i64 x154003_1, .int .i64 x154004_1, .int .i64 x154005_1] 48 (0, 0)) (by (with_reducible repeat (first | refine blk_drewN ?_ _ | refine blk_drew ?_ | refine blk_alloc ?_ _)); exact BK153.out)) : gb174 ≠ gb153))
                              clear BK153
                              clear HB
                              have BK153 := n0_
                              have HB := n1_
                              have BK174 := n2_
                              have GW174 := n3_
                              have GE174 := n4_
                              have NB153_174 := n5_
                              have NB174_153 := n6_
                              clear n0_ n1_ n2_ n3_ n4_ n5_ n6_
                              clear hb hbox hg
                              refine hK.out _ _ ⟨(blk_cell BK153.out 0).trans rfl, (blk_cell BK153.out 1).trans rfl, (blk_cell BK153.out 2).trans rfl, (blk_cell BK153.out 3).trans rfl, (blk_cell BK153.out 4).trans rfl, (blk_cell BK153.out 5).trans rfl⟩ (fun hHeld => ?_)
                              clear hK K
                              refine norm_ (a' := ?_) ?_ ?_
                              rotate_left
                              · show Act.put _ (some 10) _ = _
                                simp only [Act.put, List.setIfInBounds_toArray, List.set_cons_zero, List.set_cons_succ, i64_w, i32_w]
                                rfl
                              exact norm_ (by simp only [putAll, Act.put, List.setIfInBounds_toArray, List.set_cons_zero, List.set_cons_succ]) (hCont (gb174) _ ⟨hHeld, (by (with_reducible repeat (first | refine blk_drewN ?_ _ | refine blk_drew ?_ | refine blk_alloc ?_ _)); exact BK153.out), (by (with_reducible repeat (first | refine blk_drewN ?_ _ | refine blk_drew ?_ | refine blk_alloc ?_ _)); exact BK174.out), GW174.out, GE174.out, NB153_174.out, NB174_153.out, (by repeat (first | (with_reducible first | exact HB.out | apply below_alloc | apply pw_below_drewN | apply below_drew1 | refine below_set ?_ GE153.out | refine below_set ?_ GE174.out) | exact HB.out))⟩)
                            · skip
                              refine box_step ?hg (N := 10) ?hd (cs := #[.int .i64 0, .int .i64 0, .int .i64 0, .int .i64 0, .int .i64 0, .int .i64 0]) (t := 48) ?hr ?_; (case hd => rfl); (case hg => rfl); (case hr => first | (go_simp; done) | (go_simp; rfl))
                              intro gb174 hg w35 hbox hb
                              have n0_ := Aside0.mk (blk_below (g := gb153) (o := .cells #[.int .i64 x154000_1, .int .i64 x154001_1, .int .i64 x154002_1, .int .i64 x154003_1, .int .i64 x154004_1, .int .i64 x154005_1] 48 (0, 0)) (by (with_reducible repeat (first | refine blk_drewN ?_ _ | refine blk_drew ?_ | refine blk_alloc ?_ _)); exact BK153.out) hb)
                              have n1_ := Aside0.mk (below_step (by repeat (first | (with_reducible first | exact HB.out | apply below_alloc | apply pw_below_drewN | apply below_drew1 | refine below_set ?_ GE153.out) | exact HB.out)) hb)
                              have n2_ := Aside0.mk (hbox)
                              have n3_ := Aside0.mk ((by rw [hg]; exact (below_size (by repeat (first | (with_reducible first | exact HB.out | apply below_alloc | apply pw_below_drewN | apply below_drew1 | refine below_set ?_ GE153.out) | exact HB.out))) : w.heap.size ≤ gb174))
                              have n4_ := Aside0.mk ((by rw [hg]; exact (below_size (by repeat (first | (with_reducible first | exact HB.out | apply below_alloc | apply pw_below_drewN | apply below_drew1 | refine below_set ?_ GE153.out) | exact HB.out))) : w.heap.size ≤ gb174))
                              have n5_ := Aside0.mk ((by rw [hg]; exact Nat.ne_of_lt (blk_lt (g := gb153) (o := .cells #[.int .i64 x154000_1, .int .i64 x154001_1, .int .i64 x154002_1, .int .i64 x154003_1, .int .i64 x154004_1, .int .i64 x154005_1] 48 (0, 0)) (by (with_reducible repeat (first | refine blk_drewN ?_ _ | refine blk_drew ?_ | refine blk_alloc ?_ _)); exact BK153.out)) : gb153 ≠ gb174))
                              have n6_ := Aside0.mk ((by rw [hg]; exact Nat.ne_of_gt (blk_lt (g := gb153) (o := .cells #[.int .i64 x154000_1, .int .i64 x154001_1, .int .i64 x154002_1, .int .i64 x154003_1, .int .i64 x154004_1, .int .i64 x154005_1] 48 (0, 0)) (by (with_reducible repeat (first | refine blk_drewN ?_ _ | refine blk_drew ?_ | refine blk_alloc ?_ _)); exact BK153.out)) : gb174 ≠ gb153))
                              clear BK153
                              clear HB
                              have BK153 := n0_
                              have HB := n1_
                              have BK174 := n2_
                              have GW174 := n3_
                              have GE174 := n4_
                              have NB153_174 := n5_
                              have NB174_153 := n6_
                              clear n0_ n1_ n2_ n3_ n4_ n5_ n6_
                              clear hb hbox hg
                              refine hK.out _ _ ⟨(blk_cell BK153.out 0).trans rfl, (blk_cell BK153.out 1).trans rfl, (blk_cell BK153.out 2).trans rfl, (blk_cell BK153.out 3).trans rfl, (blk_cell BK153.out 4).trans rfl, (blk_cell BK153.out 5).trans rfl⟩ (fun hHeld => ?_)
                              clear hK K
                              refine norm_ (a' := ?_) ?_ ?_
                              rotate_left
                              · show Act.put _ (some 10) _ = _
                                simp only [Act.put, List.setIfInBounds_toArray, List.set_cons_zero, List.set_cons_succ, i64_w, i32_w]
                                rfl
                              refine one_ (i := 6) (N := some 65) #[true, true, true, true, true, true, true, false, false, false, false, true, false, false, false] rfl rfl (one_of HT_.out (by kernel_rfl)) (by decide) (fun K hK => ?_)
                              refine goes_ Try.func35 (by kernel_rfl) rfl #[.agg #[.int .i64 x154000_1, .int .i64 x154001_1, .int .i64 x154002_1, .int .i64 x154003_1, .int .i64 x154004_1, .int .i64 x154005_1], .slice A1 (l1.take ((ji25) : Int).toNat).length c1] (by rfl) rfl rfl (by (try simp only [List.map_toArray, List.map_cons, List.map_nil]); first | done | (rw [show (l1.take ((ji25) : Int).toNat).length = (ji25).toNat from (by rw [List.length_take]; have h_ : ((ji25) : Int) ≤ (l1.length : Int) := of_decide_eq_true (by first | (with_reducible assumption) | assumption); omega)] <;> rfl) | (simp only [hji25]; rfl) | rfl | (simp only [List.length_drop, List.length_take]; rfl)) ?_
                              with_reducible refine (window_Accept.calls kj9 x154000_1 x154001_1 x154002_1 x154003_1 x154004_1 x154005_1 _ _ (l1.take ((ji25) : Int).toNat) t166 t167 t168 t169 t170 t171 t172 t173 _ ?side1 ?side2 A28.out).mono ?_
                              (case side1 => repeat (first | exact (Kd.C_below HR165.out HB.out) | (with_reducible refine Kd.C_alloc ?_ _) | (with_reducible refine Kd.C_drewN ?_ _) | (with_reducible refine Kd.C_drew ?_)))
                              (case side2 => exact HC165.out)
                              rintro e w36 ⟨rfl, hb⟩
                              refine ⟨_, rfl, ?_⟩
                              have n0_ := Aside0.mk (blk_below (g := gb153) (o := .cells #[.int .i64 x154000_1, .int .i64 x154001_1, .int .i64 x154002_1, .int .i64 x154003_1, .int .i64 x154004_1, .int .i64 x154005_1] 48 (0, 0)) (by (with_reducible repeat (first | refine blk_drewN ?_ _ | refine blk_drew ?_ | refine blk_alloc ?_ _)); exact BK153.out) hb)
                              have n1_ := Aside0.mk (blk_below (g := gb174) (o := .cells #[.int .i64 0, .int .i64 0, .int .i64 0, .int .i64 0, .int .i64 0, .int .i64 0] 48 (0, 0)) (by (with_reducible repeat (first | refine blk_drewN ?_ _ | refine blk_drew ?_ | refine blk_alloc ?_ _)); exact BK174.out) hb)
                              have n2_ := Aside0.mk (below_step (by repeat (first | (with_reducible first | exact HB.out | apply below_alloc | apply pw_below_drewN | apply below_drew1 | refine below_set ?_ GE153.out | refine below_set ?_ GE174.out) | exact HB.out)) hb)
                              clear BK153
                              clear BK174
                              clear HB
                              have BK153 := n0_
                              have BK174 := n1_
                              have HB := n2_
                              clear n0_ n1_ n2_
                              (try clear hb)
                              (try clear hb2)
                              (try clear hk)
                              (try clear hi)
                              refine hK.out _ _ ⟨(blk_cell BK153.out 0).trans rfl, (blk_cell BK153.out 1).trans rfl, (blk_cell BK153.out 2).trans rfl, (blk_cell BK153.out 3).trans rfl, (blk_cell BK153.out 4).trans rfl, (blk_cell BK153.out 5).trans rfl⟩ (fun hHeld => ?_)
                              clear hK K
                              refine norm_ (a' := ?_) ?_ ?_
                              rotate_left
                              · show Act.put _ (some 65) _ = _
                                simp only [Act.put, List.setIfInBounds_toArray, List.set_cons_zero, List.set_cons_succ, i64_w, i32_w]
                                rfl
                              refine pure_ (i := 7) (N := some 58) (v := ?_) (a' := ?_) #[true, true, true, true, true, true, true, true, false, false, false, true, false, false, false] rfl rfl (any_of HT_.out (by kernel_rfl)) (fun _ _ _ h => h) (Or.inl ⟨by rfl, ?_⟩) ?_ ?_
                              rotate_left
                              · intro w'
                                go_simp
                                with_reducible rfl
                              rotate_left
                              · simp only [Act.put, List.setIfInBounds_toArray, List.set_cons_zero, List.set_cons_succ, i64_w, i32_w]
                                rfl
                              refine pure_ (i := 8) (N := some 66) (v := ?_) (a' := ?_) #[true, true, true, true, true, true, true, true, true, false, false, true, false, false, false] rfl rfl (any_of HT_.out (by kernel_rfl)) (fun _ _ _ h => h) (Or.inl ⟨by rfl, ?_⟩) ?_ ?_
                              rotate_left
                              · intro w'
                                go_simp
                                with_reducible rfl
                              rotate_left
                              · simp only [Act.put, List.setIfInBounds_toArray, List.set_cons_zero, List.set_cons_succ, i64_w, i32_w]
                                rfl
                              refine pure_ (i := 9) (N := some 67) (v := ?_) (a' := ?_) #[true, true, true, true, true, true, true, true, true, true, false, true, false, false, false] rfl rfl (any_of HT_.out (by kernel_rfl)) (fun _ _ _ h => h) (Or.inl ⟨by rfl, ?_⟩) ?_ ?_
                              rotate_left
                              · intro w'
                                go_simp
                                with_reducible rfl
                              rotate_left
                              · simp only [Act.put, List.setIfInBounds_toArray, List.set_cons_zero, List.set_cons_succ, i64_w, i32_w]
                                rfl
                              refine pure_ (i := 10) (N := some 68) (v := ?_) (a' := ?_) #[true, true, true, true, true, true, true, true, true, true, true, true, false, false, false] rfl rfl (any_of HT_.out (by kernel_rfl)) (fun _ _ _ h => h) (Or.inl ⟨by rfl, ?_⟩) ?_ ?_
                              rotate_left
                              · intro w'
                                go_simp
                                with_reducible rfl
                              rotate_left
                              · simp only [Act.put, List.setIfInBounds_toArray, List.set_cons_zero, List.set_cons_succ, i64_w, i32_w]
                                rfl
                              exact norm_ (by simp only [putAll, Act.put, List.setIfInBounds_toArray, List.set_cons_zero, List.set_cons_succ]) (hCont (gb174) _ ⟨hHeld, (by (with_reducible repeat (first | refine blk_drewN ?_ _ | refine blk_drew ?_ | refine blk_alloc ?_ _)); exact BK153.out), (by (with_reducible repeat (first | refine blk_drewN ?_ _ | refine blk_drew ?_ | refine blk_alloc ?_ _)); exact BK174.out), GW174.out, GE174.out, NB153_174.out, NB174_153.out, (by repeat (first | (with_reducible first | exact HB.out | apply below_alloc | apply pw_below_drewN | apply below_drew1 | refine below_set ?_ GE153.out | refine below_set ?_ GE174.out) | exact HB.out))⟩)
                          rintro gb174 w37 ⟨hS_, h0_, h1_, h2_, h3_, h4_, h5_, h6_⟩
                          have n0_ : Aside0 (w37.heap[gb153]? = some (.cells #[.int .i64 x154000_1, .int .i64 x154001_1, .int .i64 x154002_1, .int .i64 x154003_1, .int .i64 x154004_1, .int .i64 x154005_1] 48 (0, 0))) := ⟨h0_⟩
                          have n1_ : Aside0 (w37.heap[gb174]? = some (.cells #[.int .i64 0, .int .i64 0, .int .i64 0, .int .i64 0, .int .i64 0, .int .i64 0] 48 (0, 0))) := ⟨h1_⟩
                          have n2_ : Aside0 (w.heap.size ≤ gb174) := ⟨h2_⟩
                          have n3_ : Aside0 (w.heap.size ≤ gb174) := ⟨h3_⟩
                          have n4_ : Aside0 (gb153 ≠ gb174) := ⟨h4_⟩
                          have n5_ : Aside0 (gb174 ≠ gb153) := ⟨h5_⟩
                          have n6_ : Aside0 (Below w.heap.size w w37) := ⟨h6_⟩
                          clear BK153
                          clear HB
                          clear h0_ h1_ h2_ h3_ h4_ h5_ h6_
                          have BK153 := n0_
                          have BK174 := n1_
                          have GW174 := n2_
                          have GE174 := n3_
                          have NB153_174 := n4_
                          have NB174_153 := n5_
                          have HB := n6_
                          clear n0_ n1_ n2_ n3_ n4_ n5_ n6_
                          have hHeld : w37.cell? ⟨gb153, 0, none⟩ = some (.int .i64 x154000_1) ∧ w37.cell? ⟨gb153, 1, none⟩ = some (.int .i64 x154001_1) ∧ w37.cell? ⟨gb153, 2, none⟩ = some (.int .i64 x154002_1) ∧ w37.cell? ⟨gb153, 3, none⟩ = some (.int .i64 x154003_1) ∧ w37.cell? ⟨gb153, 4, none⟩ = some (.int .i64 x154004_1) ∧ w37.cell? ⟨gb153, 5, none⟩ = some (.int .i64 x154005_1) := hS_
                          refine norm_ (a' := ?_) ?_ ?_
                          rotate_left
                          · simp only [putAll, Act.put, List.setIfInBounds_toArray, List.set_cons_zero, List.set_cons_succ]
                            rfl
                          refine one_ (i := 12) (N := none) #[true, true, true, true, true, true, true, true, true, true, true, true, true, false, false] rfl rfl (one_of HT_.out (by kernel_rfl)) (by decide) (fun K hK => ?_)
                          have hs38 : w37.cell? ⟨gb174, 0, none⟩ = some (.int .i64 0) := (blk_cell BK174.out 0).trans rfl
                          have hfs38 := blk_frozen BK174.out 0
                          have hns38_0 := NB153_174.out
                          have hms38_0 := NB174_153.out
                          have hs39 : w37.cell? ⟨gb174, 1, none⟩ = some (.int .i64 0) := (blk_cell BK174.out 1).trans rfl
                          have hfs39 := blk_frozen BK174.out 1
                          have hns39_0 := NB153_174.out
                          have hms39_0 := NB174_153.out
                          have hs40 : w37.cell? ⟨gb174, 2, none⟩ = some (.int .i64 0) := (blk_cell BK174.out 2).trans rfl
                          have hfs40 := blk_frozen BK174.out 2
                          have hns40_0 := NB153_174.out
                          have hms40_0 := NB174_153.out
                          have hs41 : w37.cell? ⟨gb174, 3, none⟩ = some (.int .i64 0) := (blk_cell BK174.out 3).trans rfl
                          have hfs41 := blk_frozen BK174.out 3
                          have hns41_0 := NB153_174.out
                          have hms41_0 := NB174_153.out
                          have hs42 : w37.cell? ⟨gb174, 4, none⟩ = some (.int .i64 0) := (blk_cell BK174.out 4).trans rfl
                          have hfs42 := blk_frozen BK174.out 4
                          have hns42_0 := NB153_174.out
                          have hms42_0 := NB174_153.out
                          have hs43 : w37.cell? ⟨gb174, 5, none⟩ = some (.int .i64 0) := (blk_cell BK174.out 5).trans rfl
                          have hfs43 := blk_frozen BK174.out 5
                          have hns43_0 := NB153_174.out
                          have hms43_0 := NB174_153.out
                          refine skip_ (w1 := ?_) (by rfl) rfl ?_ ?_
                          rotate_left
                          · go_simp
                            rfl
                          refine hK.out _ _ ⟨((cell_far (p := ⟨gb174, _, none⟩) NB153_174.out _).trans (((cell_far (p := ⟨gb174, _, none⟩) NB153_174.out _).trans (((cell_far (p := ⟨gb174, _, none⟩) NB153_174.out _).trans (((cell_far (p := ⟨gb174, _, none⟩) NB153_174.out _).trans (((cell_far (p := ⟨gb174, _, none⟩) NB153_174.out _).trans (((cell_far (p := ⟨gb174, _, none⟩) NB153_174.out _).trans (hHeld.1)))))))))))), ((cell_far (p := ⟨gb174, _, none⟩) NB153_174.out _).trans (((cell_far (p := ⟨gb174, _, none⟩) NB153_174.out _).trans (((cell_far (p := ⟨gb174, _, none⟩) NB153_174.out _).trans (((cell_far (p := ⟨gb174, _, none⟩) NB153_174.out _).trans (((cell_far (p := ⟨gb174, _, none⟩) NB153_174.out _).trans (((cell_far (p := ⟨gb174, _, none⟩) NB153_174.out _).trans (hHeld.2.1)))))))))))), ((cell_far (p := ⟨gb174, _, none⟩) NB153_174.out _).trans (((cell_far (p := ⟨gb174, _, none⟩) NB153_174.out _).trans (((cell_far (p := ⟨gb174, _, none⟩) NB153_174.out _).trans (((cell_far (p := ⟨gb174, _, none⟩) NB153_174.out _).trans (((cell_far (p := ⟨gb174, _, none⟩) NB153_174.out _).trans (((cell_far (p := ⟨gb174, _, none⟩) NB153_174.out _).trans (hHeld.2.2.1)))))))))))), ((cell_far (p := ⟨gb174, _, none⟩) NB153_174.out _).trans (((cell_far (p := ⟨gb174, _, none⟩) NB153_174.out _).trans (((cell_far (p := ⟨gb174, _, none⟩) NB153_174.out _).trans (((cell_far (p := ⟨gb174, _, none⟩) NB153_174.out _).trans (((cell_far (p := ⟨gb174, _, none⟩) NB153_174.out _).trans (((cell_far (p := ⟨gb174, _, none⟩) NB153_174.out _).trans (hHeld.2.2.2.1)))))))))))), ((cell_far (p := ⟨gb174, _, none⟩) NB153_174.out _).trans (((cell_far (p := ⟨gb174, _, none⟩) NB153_174.out _).trans (((cell_far (p := ⟨gb174, _, none⟩) NB153_174.out _).trans (((cell_far (p := ⟨gb174, _, none⟩) NB153_174.out _).trans (((cell_far (p := ⟨gb174, _, none⟩) NB153_174.out _).trans (((cell_far (p := ⟨gb174, _, none⟩) NB153_174.out _).trans (hHeld.2.2.2.2.1)))))))))))), ((cell_far (p := ⟨gb174, _, none⟩) NB153_174.out _).trans (((cell_far (p := ⟨gb174, _, none⟩) NB153_174.out _).trans (((cell_far (p := ⟨gb174, _, none⟩) NB153_174.out _).trans (((cell_far (p := ⟨gb174, _, none⟩) NB153_174.out _).trans (((cell_far (p := ⟨gb174, _, none⟩) NB153_174.out _).trans (((cell_far (p := ⟨gb174, _, none⟩) NB153_174.out _).trans (hHeld.2.2.2.2.2))))))))))))⟩ (fun hHeld => ?_)
                          clear hK K
                          refine pure_ (i := 13) (N := some 11) (v := ?_) (a' := ?_) #[true, true, true, true, true, true, true, true, true, true, true, true, true, true, false] rfl rfl (any_of HT_.out (by kernel_rfl)) (fun _ _ _ h => h) (Or.inl ⟨by rfl, ?_⟩) ?_ ?_
                          rotate_left
                          · intro w'
                            go_simp
                            with_reducible rfl
                          rotate_left
                          · simp only [Act.put, List.setIfInBounds_toArray, List.set_cons_zero, List.set_cons_succ, i64_w, i32_w]
                            rfl
                          refine pure_ (i := 14) (N := some 12) (v := ?_) (a' := ?_) #[true, true, true, true, true, true, true, true, true, true, true, true, true, true, true] rfl rfl (any_of HT_.out (by kernel_rfl)) (fun _ _ _ h => h) (Or.inl ⟨by rfl, ?_⟩) ?_ ?_
                          rotate_left
                          · intro w'
                            go_simp
                            with_reducible rfl
                          rotate_left
                          · simp only [Act.put, List.setIfInBounds_toArray, List.set_cons_zero, List.set_cons_succ, i64_w, i32_w]
                            rfl
                          refine done_ (done_of HT_.out (by kernel_rfl)) ?_
                          have hnb44 := NB153_174.out
                          have hnc44 := NB174_153.out
                          have hcz45_0 : w37.cell? ⟨gb153, 0, none⟩ = some (.int .i64 x154000_1) := (blk_cell BK153.out 0).trans rfl
                          have hcz45_1 : w37.cell? ⟨gb153, 1, none⟩ = some (.int .i64 x154001_1) := (blk_cell BK153.out 1).trans rfl
                          have hcz45_2 : w37.cell? ⟨gb153, 2, none⟩ = some (.int .i64 x154002_1) := (blk_cell BK153.out 2).trans rfl
                          have hcz45_3 : w37.cell? ⟨gb153, 3, none⟩ = some (.int .i64 x154003_1) := (blk_cell BK153.out 3).trans rfl
                          have hcz45_4 : w37.cell? ⟨gb153, 4, none⟩ = some (.int .i64 x154004_1) := (blk_cell BK153.out 4).trans rfl
                          have hcz45_5 : w37.cell? ⟨gb153, 5, none⟩ = some (.int .i64 x154005_1) := (blk_cell BK153.out 5).trans rfl
                          have hfz45_0 := blk_frozen BK153.out 0
                          have hfz45_1 := blk_frozen BK153.out 1
                          have hfz45_2 := blk_frozen BK153.out 2
                          have hfz45_3 := blk_frozen BK153.out 3
                          have hfz45_4 := blk_frozen BK153.out 4
                          have hfz45_5 := blk_frozen BK153.out 5
                          have hcz46_0 : w37.cell? ⟨gb174, 0, none⟩ = some (.int .i64 0) := (blk_cell BK174.out 0).trans rfl
                          have hcz46_1 : w37.cell? ⟨gb174, 1, none⟩ = some (.int .i64 0) := (blk_cell BK174.out 1).trans rfl
                          have hcz46_2 : w37.cell? ⟨gb174, 2, none⟩ = some (.int .i64 0) := (blk_cell BK174.out 2).trans rfl
                          have hcz46_3 : w37.cell? ⟨gb174, 3, none⟩ = some (.int .i64 0) := (blk_cell BK174.out 3).trans rfl
                          have hcz46_4 : w37.cell? ⟨gb174, 4, none⟩ = some (.int .i64 0) := (blk_cell BK174.out 4).trans rfl
                          have hcz46_5 : w37.cell? ⟨gb174, 5, none⟩ = some (.int .i64 0) := (blk_cell BK174.out 5).trans rfl
                          have hfz46_0 := blk_frozen BK174.out 0
                          have hfz46_1 := blk_frozen BK174.out 1
                          have hfz46_2 := blk_frozen BK174.out 2
                          have hfz46_3 := blk_frozen BK174.out 3
                          have hfz46_4 := blk_frozen BK174.out 4
                          have hfz46_5 := blk_frozen BK174.out 5
                          try go_wp2
                          go_ret
                          exact ⟨by first | rfl | (simp [errW_none, errW_some] <;> rfl) | (simp only [← hji25]; first | rfl | (simp [errW_none, errW_some] <;> rfl)) | (simp [*, errW_none, errW_some] <;> rfl), by repeat (first | (with_reducible first | exact HB.out | apply below_alloc | apply pw_below_drewN | apply below_drew1 | refine below_set ?_ GE153.out | refine below_set ?_ GE174.out) | exact HB.out)⟩
                        · rw [if_neg c32] at H
                          exact absurd H (by simp)
                      · rw [if_neg c31] at H
                        exact absurd H (by simp)
                    · rw [if_neg c30] at H
                      exact absurd H (by simp)
                  · replace c29 := Bool.eq_false_iff.mpr c29
                    subst c29
                    have H1 : (none) = some r := by rw [if_neg (show ¬ (false = true) by decide)] at H; exact H
                    clear H
                    have H := H1
                    clear H1
                    exact absurd H (by simp)
                · rw [if_neg c27] at H
                  exact absurd H (by simp)
              · rw [if_neg c26] at H
                exact absurd H (by simp)
  · replace c5 := Bool.eq_false_iff.mpr c5
    subst c5
    have H1 : (some t154) = some r := by rw [if_neg (show ¬ (false = true) by decide)] at H; exact H
    clear H
    have H := H1
    clear H1
    obtain rfl := Option.some.inj H
    go_enter Try.func16, Try.ntmps16
    go_wp2_with (first | ((with_reducible refine gate_dst (N := 2) rfl ?_); refine box_event ?hg (N := 2) ?hd (cs := #[.int .i64 a0_0, .int .i64 a0_1, .int .i64 a0_2, .int .i64 a0_3, .int .i64 a0_4, .int .i64 a0_5]) (t := 48) ?hr ?_; (case hd => rfl); (case hg => rfl); (case hr => first | (go_simp; done) | (go_simp; rfl)); intro gb153 hg w47 hbox hb; have n0_ := Aside0.mk (below_step (by repeat (first | (with_reducible first | exact HB.out | apply below_alloc | apply pw_below_drewN | apply below_drew1) | exact HB.out)) hb); have n1_ := Aside0.mk (hbox); have n2_ := Aside0.mk ((by rw [hg]; exact (below_size (by repeat (first | (with_reducible first | exact HB.out | apply below_alloc | apply pw_below_drewN | apply below_drew1) | exact HB.out))) : w.heap.size ≤ gb153)); have n3_ := Aside0.mk ((by rw [hg]; exact (below_size (by repeat (first | (with_reducible first | exact HB.out | apply below_alloc | apply pw_below_drewN | apply below_drew1) | exact HB.out))) : w.heap.size ≤ gb153)); clear HB; have HB := n0_; have BK153 := n1_; have GW153 := n2_; have GE153 := n3_; clear n0_ n1_ n2_ n3_; clear hb hbox hg) | ((with_reducible refine gate_callee (f := 33) rfl ?_); refine goesL_ (some 13) rfl rfl Try.func33 (by kernel_rfl) rfl #[] rfl (by (try simp only [List.map_toArray, List.map_cons, List.map_nil]); first | done | rfl | (simp only [List.length_drop, List.length_take]; rfl)) ?_; (with_reducible refine (sluicewaylaw05_shown.calls k  t154 _ A3.out).mono ?_); rintro e w48 ⟨rfl, hb⟩; refine ⟨_, rfl, ?_⟩; have n0_ := Aside0.mk (blk_below (g := gb153) (o := .cells #[.int .i64 a0_0, .int .i64 a0_1, .int .i64 a0_2, .int .i64 a0_3, .int .i64 a0_4, .int .i64 a0_5] 48 (0, 0)) (by (with_reducible repeat (first | refine blk_drewN ?_ _ | refine blk_drew ?_ | refine blk_alloc ?_ _)); exact BK153.out) hb); have n1_ := Aside0.mk (below_step (by repeat (first | (with_reducible first | exact HB.out | apply below_alloc | apply pw_below_drewN | apply below_drew1 | refine below_set ?_ GE153.out) | exact HB.out)) hb); clear BK153; clear HB; have BK153 := n0_; have HB := n1_; clear n0_ n1_; (try clear hb); (try clear hb2); (try clear hk); (try clear hi); have hcz49_0 : w48.cell? ⟨gb153, 0, none⟩ = some (.int .i64 a0_0) := (blk_cell BK153.out 0).trans rfl; have hcz49_1 : w48.cell? ⟨gb153, 1, none⟩ = some (.int .i64 a0_1) := (blk_cell BK153.out 1).trans rfl; have hcz49_2 : w48.cell? ⟨gb153, 2, none⟩ = some (.int .i64 a0_2) := (blk_cell BK153.out 2).trans rfl; have hcz49_3 : w48.cell? ⟨gb153, 3, none⟩ = some (.int .i64 a0_3) := (blk_cell BK153.out 3).trans rfl; have hcz49_4 : w48.cell? ⟨gb153, 4, none⟩ = some (.int .i64 a0_4) := (blk_cell BK153.out 4).trans rfl; have hcz49_5 : w48.cell? ⟨gb153, 5, none⟩ = some (.int .i64 a0_5) := (blk_cell BK153.out 5).trans rfl; have hfz49_0 := blk_frozen BK153.out 0; have hfz49_1 := blk_frozen BK153.out 1; have hfz49_2 := blk_frozen BK153.out 2; have hfz49_3 := blk_frozen BK153.out 3; have hfz49_4 := blk_frozen BK153.out 4; have hfz49_5 := blk_frozen BK153.out 5) | ((with_reducible refine gate_callee (f := 34) rfl ?_); refine goesL_ (some 15) rfl rfl Try.func34 (by kernel_rfl) rfl #[.agg #[.int .i64 a0_0, .int .i64 a0_1, .int .i64 a0_2, .int .i64 a0_3, .int .i64 a0_4, .int .i64 a0_5]] rfl (by (try simp only [List.map_toArray, List.map_cons, List.map_nil]); first | done | rfl | (simp only [List.length_drop, List.length_take]; rfl)) ?_; (with_reducible refine (window_Right.calls a0_0 a0_1 a0_2 a0_3 a0_4 a0_5 false _ A4.out).mono ?_); rintro e w50 ⟨rfl, hb⟩; refine ⟨_, rfl, ?_⟩; have n0_ := Aside0.mk (blk_below (g := gb153) (o := .cells #[.int .i64 a0_0, .int .i64 a0_1, .int .i64 a0_2, .int .i64 a0_3, .int .i64 a0_4, .int .i64 a0_5] 48 (0, 0)) (by (with_reducible repeat (first | refine blk_drewN ?_ _ | refine blk_drew ?_ | refine blk_alloc ?_ _)); exact BK153.out) hb); have n1_ := Aside0.mk (below_step (by repeat (first | (with_reducible first | exact HB.out | apply below_alloc | apply pw_below_drewN | apply below_drew1 | refine below_set ?_ GE153.out) | exact HB.out)) hb); clear BK153; clear HB; have BK153 := n0_; have HB := n1_; clear n0_ n1_; (try clear hb); (try clear hb2); (try clear hk); (try clear hi)))
    go_ret
    exact ⟨by first | rfl | (simp [errW_none, errW_some] <;> rfl) | (simp [*, errW_none, errW_some] <;> rfl), by repeat (first | (with_reducible first | exact HB.out | apply below_alloc | apply pw_below_drewN | apply below_drew1 | refine below_set ?_ GE153.out) | exact HB.out)⟩

end Go.Proofs.Ytijnmoceafcamaa.GWindowLocks
