-- Printed by a program of this session's own (the kit's print, patched: wip/scripts/patch.py), for this claim. Not trusted: Lean checks it.
import Derived.Test.YtnlcgibbonbniaaGDriftTurnsx0
import Derived.Test.YtnlcgibbonbniaaGDriftTurnsx1
namespace Go.Proofs.Ytnlcgibbonbniaa.GDriftTurns
open Go.RowKit Go.Proofs.YtnlcgibbonbniaaW.PrintWords Go.Proofs.YtnlcgibbonbniaaW.PrintLast Go.Proofs.YtnlcgibbonbniaaW.PrintMore
attribute [local go_sem] max2_int min2_int max_two min_two max_three min_three max_four min_four   -- for this text's walks alone
set_option linter.unusedVariables false
set_option linter.unusedSimpArgs false

/-! ### sluicewaylaw06_DriftTurns: function 5 -/
def sluicewaylaw06_DriftTurns.f (k : Nat) (l0 : List Int) (a1 : Int) (a2 : Int) : Option (Bool) := (sluicewaylaw06_shown.f k).bind fun t139 => ((sluicewaylaw06_of.f k l0).bind fun bt140 => ((drift_Drift_Shift.f bt140.1 bt140.2.1 (Go.bits .and .i64 a1 65535)).bind fun bt146 => ((drift_Drift_Shift.f bt146.1 bt146.2 (Go.bits .and .i64 a2 65535)).bind fun bt148 => ((drift_Drift_Shift.f bt140.1 bt140.2.1 (wrap64 ((Go.bits .and .i64 a1 65535) + (Go.bits .and .i64 a2 65535)))).bind fun bt151 => ((drift_Drift_Shift.f bt140.1 bt140.2.1 1).bind fun bt154 => ((drift_Drift_Shift.f bt154.1 bt154.2 1).bind fun bt156 => ((drift_Drift_Shift.f bt156.1 bt156.2 1).bind fun bt158 => ((drift_Drift_Shift.f bt158.1 bt158.2 1).bind fun bt160 => (if t139 = true then (if (FloatKind.f64.format.order bt148.1.re bt151.1.re == some .eq && FloatKind.f64.format.order bt148.1.im bt151.1.im == some .eq) = true then (if bt148.2 = bt151.2 then (if (FloatKind.f64.format.order bt160.1.re bt140.1.re == some .eq && FloatKind.f64.format.order bt160.1.im bt140.1.im == some .eq) = true then ((drift_Drift_Shift.f bt140.1 bt140.2.1 (Go.bits .and .i64 a1 65535)).bind fun bt163 => ((drift_Drift_Shift.f bt163.1 bt163.2 (wrap64 (-(Go.bits .and .i64 a1 65535)))).bind fun bt165 => (if (FloatKind.f64.format.order bt165.1.re bt140.1.re == some .eq && FloatKind.f64.format.order bt165.1.im bt140.1.im == some .eq) = true then ((drift_Drift_Shift.f bt140.1 bt140.2.1 (wrap64 (4 * (Go.bits .and .i64 a1 65535)))).bind fun bt167 => (if (FloatKind.f64.format.order bt167.1.re bt140.1.re == some .eq && FloatKind.f64.format.order bt167.1.im bt140.1.im == some .eq) = true then ((drift_Turn.f (Go.bits .and .i64 a1 65535)).bind fun t169 => ((drift_Turn.f (Go.bits .and .i64 a2 65535)).bind fun t170 => (if cmulOk t169 t170 = true then ((drift_Turn.f (wrap64 ((Go.bits .and .i64 a1 65535) + (Go.bits .and .i64 a2 65535)))).bind fun t171 => (some (FloatKind.f64.format.order ((cmul t169 t170).re) t171.re == some .eq && FloatKind.f64.format.order ((cmul t169 t170).im) t171.im == some .eq))) else (none)))) else (none))) else (none)))) else (none)) else (none)) else (none)) else (none))))))))))
theorem sluicewaylaw06_DriftTurns.mono : ∀ a0 a1 a2 k, LeO (sluicewaylaw06_DriftTurns.f k a0 a1 a2) (sluicewaylaw06_DriftTurns.f (k + 1) a0 a1 a2) := by
  intro a0 a1 a2 k
  unfold sluicewaylaw06_DriftTurns.f
  repeat' first
      | (with_reducible exact sluicewaylaw06_of.mono _ _)
      | (with_reducible exact sluicewaylaw06_shown.mono _)
      | (with_reducible exact LeO.refl _)
      | (with_reducible exact LeO.none _)
      | (with_reducible refine LeO.ite ?_ ?_)
      | (with_reducible refine LeO.bind ?_ (fun _ => ?_))
      | exact sluicewaylaw06_of.mono _ _
      | exact sluicewaylaw06_shown.mono _
      | exact LeO.none _
      | refine LeO.ite ?_ ?_
      | refine LeO.bind ?_ (fun _ => ?_)
def sluicewaylaw06_DriftTurns.T8 : Bool × List (List Nat × List Nat) := (true, [([], []), ([0], [0]), ([1], [1]), ([2, 1], [1, 2]), ([1], [1]), ([4, 1], [1, 4]), ([3, 5, 1], [1, 3, 5]), ([1, 6], [1, 6]), ([7, 1], [7]), ([8], [8]), ([9, 8], [8, 9]), ([8], [8]), ([11, 8], [8, 11]), ([10, 12, 8], [8, 10, 12]), ([8, 13], [8, 13]), ([14, 8], [14]), ([15], [15]), ([16, 15], [15, 16]), ([15], [15]), ([18, 15], [15, 18]), ([17, 19, 15], [15, 17, 19]), ([15, 20], [15, 20]), ([21, 15], [21]), ([22], [22]), ([22], [22]), ([23, 24, 22, 22], [22, 23, 24]), ([22], [22]), ([26, 22], [22, 26]), ([25, 27, 25, 22], [22, 25, 27]), ([28, 22], [22, 28]), ([22], [22]), ([30, 22], [22, 30]), ([29, 31, 22], [22, 29, 31]), ([22, 32], [22, 32]), ([33, 28], [33]), ([34], [34]), ([34], [34]), ([36, 34], [34, 36]), ([35, 37, 34, 34], [34, 35, 37]), ([38, 34], [34, 38]), ([34], [34]), ([40, 34], [34, 40]), ([39, 41, 34], [34, 39, 41]), ([34, 42], [34, 42]), ([43, 38], [43]), ([44], [44]), ([45, 44, 44], [44, 45]), ([44], [44]), ([47, 46, 44], [44, 47]), ([46, 48, 44], [44, 46, 48]), ([44], [44]), ([44], [44]), ([50, 51, 44], [44, 50, 51]), ([52, 48, 44], [44, 52]), ([49, 53, 44], [44, 49, 53]), ([44, 54], [44, 54]), ([55, 53, 0, 1, 2, 3, 4, 5, 6, 7, 8, 9, 10, 11, 12, 13, 14, 15, 16, 17, 18, 19, 20, 21, 22, 23, 24, 25, 26, 27, 28, 29, 30, 31, 32, 33, 34, 35, 36, 37, 38, 39, 40, 41, 42, 43, 44, 45, 46, 47, 48, 49, 50, 51, 52, 53, 54, 55], [55])])
def sluicewaylaw06_DriftTurns.B8 : List Nat := [0, 1, 3, 7, 3, 19, 63, 127, 255, 511, 1023, 511, 2559, 8191, 16383, 32767, 65535, 131071, 65535, 327679, 1048575, 2097151, 4194303, 8388607, 8388607, 33554431, 8388607, 75497471, 268435455, 536870911, 8388607, 1082130431, 4294967295, 8589934591, 17179869183, 34359738367, 34359738367, 103079215103, 274877906943, 549755813887, 34359738367, 1133871366143, 4398046511103, 8796093022207, 17592186044415, 35184372088831, 70368744177663, 35184372088831, 281474976710655, 562949953421311, 35184372088831, 35184372088831, 3412884092616703, 8444249301319679, 18014398509481983, 36028797018963967, 72057594037927935]
theorem sluicewaylaw06_DriftTurns.tab8 : rtab .any (opsOf Try.f5 8) = sluicewaylaw06_DriftTurns.T8 := by kernel_rfl
theorem sluicewaylaw06_DriftTurns.bits8 : waitsOk sluicewaylaw06_DriftTurns.T8.2 sluicewaylaw06_DriftTurns.B8 = true := by kernel_rfl
set_option maxHeartbeats 8000000 in
set_option maxRecDepth 100000 in
theorem sluicewaylaw06_DriftTurns.calls (k : Nat) (A0 : Option Addr) (c0 : Nat) (l0 : List Int) (a1 : Int) (a2 : Int) (r : Bool) (w : World) (hr0 : Kd.C (Kd.int .i64) w A0 l0.length l0) (hc0 : l0.length ≤ c0) (h : sluicewaylaw06_DriftTurns.f k l0 a1 a2 = some r) :
    Calls Try.prog 5 #[.slice A0 l0.length c0, .int .i64 a1, .int .i64 a2] w fun e w' => e = .returned (.bool r) ∧ Below w.heap.size w w' := by
  have hu26 := Try.underlying26
  have HR0 := Aside0.mk hr0
  have HC0 := Aside0.mk hc0
  clear hr0 hc0
  have HB := Aside0.mk (Below.refl w.heap.size w)
  have H : ((sluicewaylaw06_shown.f k).bind fun t139 => ((sluicewaylaw06_of.f k l0).bind fun bt140 => ((drift_Drift_Shift.f bt140.1 bt140.2.1 (Go.bits .and .i64 a1 65535)).bind fun bt146 => ((drift_Drift_Shift.f bt146.1 bt146.2 (Go.bits .and .i64 a2 65535)).bind fun bt148 => ((drift_Drift_Shift.f bt140.1 bt140.2.1 (wrap64 ((Go.bits .and .i64 a1 65535) + (Go.bits .and .i64 a2 65535)))).bind fun bt151 => ((drift_Drift_Shift.f bt140.1 bt140.2.1 1).bind fun bt154 => ((drift_Drift_Shift.f bt154.1 bt154.2 1).bind fun bt156 => ((drift_Drift_Shift.f bt156.1 bt156.2 1).bind fun bt158 => ((drift_Drift_Shift.f bt158.1 bt158.2 1).bind fun bt160 => (if t139 = true then (if (FloatKind.f64.format.order bt148.1.re bt151.1.re == some .eq && FloatKind.f64.format.order bt148.1.im bt151.1.im == some .eq) = true then (if bt148.2 = bt151.2 then (if (FloatKind.f64.format.order bt160.1.re bt140.1.re == some .eq && FloatKind.f64.format.order bt160.1.im bt140.1.im == some .eq) = true then ((drift_Drift_Shift.f bt140.1 bt140.2.1 (Go.bits .and .i64 a1 65535)).bind fun bt163 => ((drift_Drift_Shift.f bt163.1 bt163.2 (wrap64 (-(Go.bits .and .i64 a1 65535)))).bind fun bt165 => (if (FloatKind.f64.format.order bt165.1.re bt140.1.re == some .eq && FloatKind.f64.format.order bt165.1.im bt140.1.im == some .eq) = true then ((drift_Drift_Shift.f bt140.1 bt140.2.1 (wrap64 (4 * (Go.bits .and .i64 a1 65535)))).bind fun bt167 => (if (FloatKind.f64.format.order bt167.1.re bt140.1.re == some .eq && FloatKind.f64.format.order bt167.1.im bt140.1.im == some .eq) = true then ((drift_Turn.f (Go.bits .and .i64 a1 65535)).bind fun t169 => ((drift_Turn.f (Go.bits .and .i64 a2 65535)).bind fun t170 => (if cmulOk t169 t170 = true then ((drift_Turn.f (wrap64 ((Go.bits .and .i64 a1 65535) + (Go.bits .and .i64 a2 65535)))).bind fun t171 => (some (FloatKind.f64.format.order ((cmul t169 t170).re) t171.re == some .eq && FloatKind.f64.format.order ((cmul t169 t170).im) t171.im == some .eq))) else (none)))) else (none))) else (none)))) else (none)) else (none)) else (none)) else (none))))))))))) = some r := h
  clear h
  replace H := Option.bind_eq_some_iff.mp H
  obtain ⟨t139, A40, H⟩ := H
  replace H : ((sluicewaylaw06_of.f k l0).bind fun bt140 => ((drift_Drift_Shift.f bt140.1 bt140.2.1 (Go.bits .and .i64 a1 65535)).bind fun bt146 => ((drift_Drift_Shift.f bt146.1 bt146.2 (Go.bits .and .i64 a2 65535)).bind fun bt148 => ((drift_Drift_Shift.f bt140.1 bt140.2.1 (wrap64 ((Go.bits .and .i64 a1 65535) + (Go.bits .and .i64 a2 65535)))).bind fun bt151 => ((drift_Drift_Shift.f bt140.1 bt140.2.1 1).bind fun bt154 => ((drift_Drift_Shift.f bt154.1 bt154.2 1).bind fun bt156 => ((drift_Drift_Shift.f bt156.1 bt156.2 1).bind fun bt158 => ((drift_Drift_Shift.f bt158.1 bt158.2 1).bind fun bt160 => (if t139 = true then (if (FloatKind.f64.format.order bt148.1.re bt151.1.re == some .eq && FloatKind.f64.format.order bt148.1.im bt151.1.im == some .eq) = true then (if bt148.2 = bt151.2 then (if (FloatKind.f64.format.order bt160.1.re bt140.1.re == some .eq && FloatKind.f64.format.order bt160.1.im bt140.1.im == some .eq) = true then ((drift_Drift_Shift.f bt140.1 bt140.2.1 (Go.bits .and .i64 a1 65535)).bind fun bt163 => ((drift_Drift_Shift.f bt163.1 bt163.2 (wrap64 (-(Go.bits .and .i64 a1 65535)))).bind fun bt165 => (if (FloatKind.f64.format.order bt165.1.re bt140.1.re == some .eq && FloatKind.f64.format.order bt165.1.im bt140.1.im == some .eq) = true then ((drift_Drift_Shift.f bt140.1 bt140.2.1 (wrap64 (4 * (Go.bits .and .i64 a1 65535)))).bind fun bt167 => (if (FloatKind.f64.format.order bt167.1.re bt140.1.re == some .eq && FloatKind.f64.format.order bt167.1.im bt140.1.im == some .eq) = true then ((drift_Turn.f (Go.bits .and .i64 a1 65535)).bind fun t169 => ((drift_Turn.f (Go.bits .and .i64 a2 65535)).bind fun t170 => (if cmulOk t169 t170 = true then ((drift_Turn.f (wrap64 ((Go.bits .and .i64 a1 65535) + (Go.bits .and .i64 a2 65535)))).bind fun t171 => (some (FloatKind.f64.format.order ((cmul t169 t170).re) t171.re == some .eq && FloatKind.f64.format.order ((cmul t169 t170).im) t171.im == some .eq))) else (none)))) else (none))) else (none)))) else (none)) else (none)) else (none)) else (none)))))))))) = some r := H
  have A4 := Aside0.mk A40
  clear A40
  replace H := Option.bind_eq_some_iff.mp H
  obtain ⟨⟨t140, t141, t142⟩, A50, H⟩ := H
  replace H : ((drift_Drift_Shift.f t140 t141 (Go.bits .and .i64 a1 65535)).bind fun bt146 => ((drift_Drift_Shift.f bt146.1 bt146.2 (Go.bits .and .i64 a2 65535)).bind fun bt148 => ((drift_Drift_Shift.f t140 t141 (wrap64 ((Go.bits .and .i64 a1 65535) + (Go.bits .and .i64 a2 65535)))).bind fun bt151 => ((drift_Drift_Shift.f t140 t141 1).bind fun bt154 => ((drift_Drift_Shift.f bt154.1 bt154.2 1).bind fun bt156 => ((drift_Drift_Shift.f bt156.1 bt156.2 1).bind fun bt158 => ((drift_Drift_Shift.f bt158.1 bt158.2 1).bind fun bt160 => (if t139 = true then (if (FloatKind.f64.format.order bt148.1.re bt151.1.re == some .eq && FloatKind.f64.format.order bt148.1.im bt151.1.im == some .eq) = true then (if bt148.2 = bt151.2 then (if (FloatKind.f64.format.order bt160.1.re t140.re == some .eq && FloatKind.f64.format.order bt160.1.im t140.im == some .eq) = true then ((drift_Drift_Shift.f t140 t141 (Go.bits .and .i64 a1 65535)).bind fun bt163 => ((drift_Drift_Shift.f bt163.1 bt163.2 (wrap64 (-(Go.bits .and .i64 a1 65535)))).bind fun bt165 => (if (FloatKind.f64.format.order bt165.1.re t140.re == some .eq && FloatKind.f64.format.order bt165.1.im t140.im == some .eq) = true then ((drift_Drift_Shift.f t140 t141 (wrap64 (4 * (Go.bits .and .i64 a1 65535)))).bind fun bt167 => (if (FloatKind.f64.format.order bt167.1.re t140.re == some .eq && FloatKind.f64.format.order bt167.1.im t140.im == some .eq) = true then ((drift_Turn.f (Go.bits .and .i64 a1 65535)).bind fun t169 => ((drift_Turn.f (Go.bits .and .i64 a2 65535)).bind fun t170 => (if cmulOk t169 t170 = true then ((drift_Turn.f (wrap64 ((Go.bits .and .i64 a1 65535) + (Go.bits .and .i64 a2 65535)))).bind fun t171 => (some (FloatKind.f64.format.order ((cmul t169 t170).re) t171.re == some .eq && FloatKind.f64.format.order ((cmul t169 t170).im) t171.im == some .eq))) else (none)))) else (none))) else (none)))) else (none)) else (none)) else (none)) else (none))))))))) = some r := H
  have A5 := Aside0.mk A50
  clear A50
  replace H := Option.bind_eq_some_iff.mp H
  obtain ⟨⟨t146, t147⟩, A60, H⟩ := H
  replace H : ((drift_Drift_Shift.f t146 t147 (Go.bits .and .i64 a2 65535)).bind fun bt148 => ((drift_Drift_Shift.f t140 t141 (wrap64 ((Go.bits .and .i64 a1 65535) + (Go.bits .and .i64 a2 65535)))).bind fun bt151 => ((drift_Drift_Shift.f t140 t141 1).bind fun bt154 => ((drift_Drift_Shift.f bt154.1 bt154.2 1).bind fun bt156 => ((drift_Drift_Shift.f bt156.1 bt156.2 1).bind fun bt158 => ((drift_Drift_Shift.f bt158.1 bt158.2 1).bind fun bt160 => (if t139 = true then (if (FloatKind.f64.format.order bt148.1.re bt151.1.re == some .eq && FloatKind.f64.format.order bt148.1.im bt151.1.im == some .eq) = true then (if bt148.2 = bt151.2 then (if (FloatKind.f64.format.order bt160.1.re t140.re == some .eq && FloatKind.f64.format.order bt160.1.im t140.im == some .eq) = true then ((drift_Drift_Shift.f t140 t141 (Go.bits .and .i64 a1 65535)).bind fun bt163 => ((drift_Drift_Shift.f bt163.1 bt163.2 (wrap64 (-(Go.bits .and .i64 a1 65535)))).bind fun bt165 => (if (FloatKind.f64.format.order bt165.1.re t140.re == some .eq && FloatKind.f64.format.order bt165.1.im t140.im == some .eq) = true then ((drift_Drift_Shift.f t140 t141 (wrap64 (4 * (Go.bits .and .i64 a1 65535)))).bind fun bt167 => (if (FloatKind.f64.format.order bt167.1.re t140.re == some .eq && FloatKind.f64.format.order bt167.1.im t140.im == some .eq) = true then ((drift_Turn.f (Go.bits .and .i64 a1 65535)).bind fun t169 => ((drift_Turn.f (Go.bits .and .i64 a2 65535)).bind fun t170 => (if cmulOk t169 t170 = true then ((drift_Turn.f (wrap64 ((Go.bits .and .i64 a1 65535) + (Go.bits .and .i64 a2 65535)))).bind fun t171 => (some (FloatKind.f64.format.order ((cmul t169 t170).re) t171.re == some .eq && FloatKind.f64.format.order ((cmul t169 t170).im) t171.im == some .eq))) else (none)))) else (none))) else (none)))) else (none)) else (none)) else (none)) else (none)))))))) = some r := H
  have A6 := Aside0.mk A60
  clear A60
  replace H := Option.bind_eq_some_iff.mp H
  obtain ⟨⟨t148, t149⟩, A70, H⟩ := H
  replace H : ((drift_Drift_Shift.f t140 t141 (wrap64 ((Go.bits .and .i64 a1 65535) + (Go.bits .and .i64 a2 65535)))).bind fun bt151 => ((drift_Drift_Shift.f t140 t141 1).bind fun bt154 => ((drift_Drift_Shift.f bt154.1 bt154.2 1).bind fun bt156 => ((drift_Drift_Shift.f bt156.1 bt156.2 1).bind fun bt158 => ((drift_Drift_Shift.f bt158.1 bt158.2 1).bind fun bt160 => (if t139 = true then (if (FloatKind.f64.format.order t148.re bt151.1.re == some .eq && FloatKind.f64.format.order t148.im bt151.1.im == some .eq) = true then (if t149 = bt151.2 then (if (FloatKind.f64.format.order bt160.1.re t140.re == some .eq && FloatKind.f64.format.order bt160.1.im t140.im == some .eq) = true then ((drift_Drift_Shift.f t140 t141 (Go.bits .and .i64 a1 65535)).bind fun bt163 => ((drift_Drift_Shift.f bt163.1 bt163.2 (wrap64 (-(Go.bits .and .i64 a1 65535)))).bind fun bt165 => (if (FloatKind.f64.format.order bt165.1.re t140.re == some .eq && FloatKind.f64.format.order bt165.1.im t140.im == some .eq) = true then ((drift_Drift_Shift.f t140 t141 (wrap64 (4 * (Go.bits .and .i64 a1 65535)))).bind fun bt167 => (if (FloatKind.f64.format.order bt167.1.re t140.re == some .eq && FloatKind.f64.format.order bt167.1.im t140.im == some .eq) = true then ((drift_Turn.f (Go.bits .and .i64 a1 65535)).bind fun t169 => ((drift_Turn.f (Go.bits .and .i64 a2 65535)).bind fun t170 => (if cmulOk t169 t170 = true then ((drift_Turn.f (wrap64 ((Go.bits .and .i64 a1 65535) + (Go.bits .and .i64 a2 65535)))).bind fun t171 => (some (FloatKind.f64.format.order ((cmul t169 t170).re) t171.re == some .eq && FloatKind.f64.format.order ((cmul t169 t170).im) t171.im == some .eq))) else (none)))) else (none))) else (none)))) else (none)) else (none)) else (none)) else (none))))))) = some r := H
  have A7 := Aside0.mk A70
  clear A70
  replace H := Option.bind_eq_some_iff.mp H
  obtain ⟨⟨t151, t152⟩, A80, H⟩ := H
  replace H : ((drift_Drift_Shift.f t140 t141 1).bind fun bt154 => ((drift_Drift_Shift.f bt154.1 bt154.2 1).bind fun bt156 => ((drift_Drift_Shift.f bt156.1 bt156.2 1).bind fun bt158 => ((drift_Drift_Shift.f bt158.1 bt158.2 1).bind fun bt160 => (if t139 = true then (if (FloatKind.f64.format.order t148.re t151.re == some .eq && FloatKind.f64.format.order t148.im t151.im == some .eq) = true then (if t149 = t152 then (if (FloatKind.f64.format.order bt160.1.re t140.re == some .eq && FloatKind.f64.format.order bt160.1.im t140.im == some .eq) = true then ((drift_Drift_Shift.f t140 t141 (Go.bits .and .i64 a1 65535)).bind fun bt163 => ((drift_Drift_Shift.f bt163.1 bt163.2 (wrap64 (-(Go.bits .and .i64 a1 65535)))).bind fun bt165 => (if (FloatKind.f64.format.order bt165.1.re t140.re == some .eq && FloatKind.f64.format.order bt165.1.im t140.im == some .eq) = true then ((drift_Drift_Shift.f t140 t141 (wrap64 (4 * (Go.bits .and .i64 a1 65535)))).bind fun bt167 => (if (FloatKind.f64.format.order bt167.1.re t140.re == some .eq && FloatKind.f64.format.order bt167.1.im t140.im == some .eq) = true then ((drift_Turn.f (Go.bits .and .i64 a1 65535)).bind fun t169 => ((drift_Turn.f (Go.bits .and .i64 a2 65535)).bind fun t170 => (if cmulOk t169 t170 = true then ((drift_Turn.f (wrap64 ((Go.bits .and .i64 a1 65535) + (Go.bits .and .i64 a2 65535)))).bind fun t171 => (some (FloatKind.f64.format.order ((cmul t169 t170).re) t171.re == some .eq && FloatKind.f64.format.order ((cmul t169 t170).im) t171.im == some .eq))) else (none)))) else (none))) else (none)))) else (none)) else (none)) else (none)) else (none)))))) = some r := H
  have A8 := Aside0.mk A80
  clear A80
  replace H := Option.bind_eq_some_iff.mp H
  obtain ⟨⟨t154, t155⟩, A90, H⟩ := H
  replace H : ((drift_Drift_Shift.f t154 t155 1).bind fun bt156 => ((drift_Drift_Shift.f bt156.1 bt156.2 1).bind fun bt158 => ((drift_Drift_Shift.f bt158.1 bt158.2 1).bind fun bt160 => (if t139 = true then (if (FloatKind.f64.format.order t148.re t151.re == some .eq && FloatKind.f64.format.order t148.im t151.im == some .eq) = true then (if t149 = t152 then (if (FloatKind.f64.format.order bt160.1.re t140.re == some .eq && FloatKind.f64.format.order bt160.1.im t140.im == some .eq) = true then ((drift_Drift_Shift.f t140 t141 (Go.bits .and .i64 a1 65535)).bind fun bt163 => ((drift_Drift_Shift.f bt163.1 bt163.2 (wrap64 (-(Go.bits .and .i64 a1 65535)))).bind fun bt165 => (if (FloatKind.f64.format.order bt165.1.re t140.re == some .eq && FloatKind.f64.format.order bt165.1.im t140.im == some .eq) = true then ((drift_Drift_Shift.f t140 t141 (wrap64 (4 * (Go.bits .and .i64 a1 65535)))).bind fun bt167 => (if (FloatKind.f64.format.order bt167.1.re t140.re == some .eq && FloatKind.f64.format.order bt167.1.im t140.im == some .eq) = true then ((drift_Turn.f (Go.bits .and .i64 a1 65535)).bind fun t169 => ((drift_Turn.f (Go.bits .and .i64 a2 65535)).bind fun t170 => (if cmulOk t169 t170 = true then ((drift_Turn.f (wrap64 ((Go.bits .and .i64 a1 65535) + (Go.bits .and .i64 a2 65535)))).bind fun t171 => (some (FloatKind.f64.format.order ((cmul t169 t170).re) t171.re == some .eq && FloatKind.f64.format.order ((cmul t169 t170).im) t171.im == some .eq))) else (none)))) else (none))) else (none)))) else (none)) else (none)) else (none)) else (none))))) = some r := H
  have A9 := Aside0.mk A90
  clear A90
  replace H := Option.bind_eq_some_iff.mp H
  obtain ⟨⟨t156, t157⟩, A100, H⟩ := H
  replace H : ((drift_Drift_Shift.f t156 t157 1).bind fun bt158 => ((drift_Drift_Shift.f bt158.1 bt158.2 1).bind fun bt160 => (if t139 = true then (if (FloatKind.f64.format.order t148.re t151.re == some .eq && FloatKind.f64.format.order t148.im t151.im == some .eq) = true then (if t149 = t152 then (if (FloatKind.f64.format.order bt160.1.re t140.re == some .eq && FloatKind.f64.format.order bt160.1.im t140.im == some .eq) = true then ((drift_Drift_Shift.f t140 t141 (Go.bits .and .i64 a1 65535)).bind fun bt163 => ((drift_Drift_Shift.f bt163.1 bt163.2 (wrap64 (-(Go.bits .and .i64 a1 65535)))).bind fun bt165 => (if (FloatKind.f64.format.order bt165.1.re t140.re == some .eq && FloatKind.f64.format.order bt165.1.im t140.im == some .eq) = true then ((drift_Drift_Shift.f t140 t141 (wrap64 (4 * (Go.bits .and .i64 a1 65535)))).bind fun bt167 => (if (FloatKind.f64.format.order bt167.1.re t140.re == some .eq && FloatKind.f64.format.order bt167.1.im t140.im == some .eq) = true then ((drift_Turn.f (Go.bits .and .i64 a1 65535)).bind fun t169 => ((drift_Turn.f (Go.bits .and .i64 a2 65535)).bind fun t170 => (if cmulOk t169 t170 = true then ((drift_Turn.f (wrap64 ((Go.bits .and .i64 a1 65535) + (Go.bits .and .i64 a2 65535)))).bind fun t171 => (some (FloatKind.f64.format.order ((cmul t169 t170).re) t171.re == some .eq && FloatKind.f64.format.order ((cmul t169 t170).im) t171.im == some .eq))) else (none)))) else (none))) else (none)))) else (none)) else (none)) else (none)) else (none)))) = some r := H
  have A10 := Aside0.mk A100
  clear A100
  replace H := Option.bind_eq_some_iff.mp H
  obtain ⟨⟨t158, t159⟩, A110, H⟩ := H
  replace H : ((drift_Drift_Shift.f t158 t159 1).bind fun bt160 => (if t139 = true then (if (FloatKind.f64.format.order t148.re t151.re == some .eq && FloatKind.f64.format.order t148.im t151.im == some .eq) = true then (if t149 = t152 then (if (FloatKind.f64.format.order bt160.1.re t140.re == some .eq && FloatKind.f64.format.order bt160.1.im t140.im == some .eq) = true then ((drift_Drift_Shift.f t140 t141 (Go.bits .and .i64 a1 65535)).bind fun bt163 => ((drift_Drift_Shift.f bt163.1 bt163.2 (wrap64 (-(Go.bits .and .i64 a1 65535)))).bind fun bt165 => (if (FloatKind.f64.format.order bt165.1.re t140.re == some .eq && FloatKind.f64.format.order bt165.1.im t140.im == some .eq) = true then ((drift_Drift_Shift.f t140 t141 (wrap64 (4 * (Go.bits .and .i64 a1 65535)))).bind fun bt167 => (if (FloatKind.f64.format.order bt167.1.re t140.re == some .eq && FloatKind.f64.format.order bt167.1.im t140.im == some .eq) = true then ((drift_Turn.f (Go.bits .and .i64 a1 65535)).bind fun t169 => ((drift_Turn.f (Go.bits .and .i64 a2 65535)).bind fun t170 => (if cmulOk t169 t170 = true then ((drift_Turn.f (wrap64 ((Go.bits .and .i64 a1 65535) + (Go.bits .and .i64 a2 65535)))).bind fun t171 => (some (FloatKind.f64.format.order ((cmul t169 t170).re) t171.re == some .eq && FloatKind.f64.format.order ((cmul t169 t170).im) t171.im == some .eq))) else (none)))) else (none))) else (none)))) else (none)) else (none)) else (none)) else (none))) = some r := H
  have A11 := Aside0.mk A110
  clear A110
  replace H := Option.bind_eq_some_iff.mp H
  obtain ⟨⟨t160, t161⟩, A120, H⟩ := H
  replace H : (if t139 = true then (if (FloatKind.f64.format.order t148.re t151.re == some .eq && FloatKind.f64.format.order t148.im t151.im == some .eq) = true then (if t149 = t152 then (if (FloatKind.f64.format.order t160.re t140.re == some .eq && FloatKind.f64.format.order t160.im t140.im == some .eq) = true then ((drift_Drift_Shift.f t140 t141 (Go.bits .and .i64 a1 65535)).bind fun bt163 => ((drift_Drift_Shift.f bt163.1 bt163.2 (wrap64 (-(Go.bits .and .i64 a1 65535)))).bind fun bt165 => (if (FloatKind.f64.format.order bt165.1.re t140.re == some .eq && FloatKind.f64.format.order bt165.1.im t140.im == some .eq) = true then ((drift_Drift_Shift.f t140 t141 (wrap64 (4 * (Go.bits .and .i64 a1 65535)))).bind fun bt167 => (if (FloatKind.f64.format.order bt167.1.re t140.re == some .eq && FloatKind.f64.format.order bt167.1.im t140.im == some .eq) = true then ((drift_Turn.f (Go.bits .and .i64 a1 65535)).bind fun t169 => ((drift_Turn.f (Go.bits .and .i64 a2 65535)).bind fun t170 => (if cmulOk t169 t170 = true then ((drift_Turn.f (wrap64 ((Go.bits .and .i64 a1 65535) + (Go.bits .and .i64 a2 65535)))).bind fun t171 => (some (FloatKind.f64.format.order ((cmul t169 t170).re) t171.re == some .eq && FloatKind.f64.format.order ((cmul t169 t170).im) t171.im == some .eq))) else (none)))) else (none))) else (none)))) else (none)) else (none)) else (none)) else (none)) = some r := H
  have A12 := Aside0.mk A120
  clear A120
  by_cases c13 : t139 = true
  · subst c13
    have H1 : (if (FloatKind.f64.format.order t148.re t151.re == some .eq && FloatKind.f64.format.order t148.im t151.im == some .eq) = true then (if t149 = t152 then (if (FloatKind.f64.format.order t160.re t140.re == some .eq && FloatKind.f64.format.order t160.im t140.im == some .eq) = true then ((drift_Drift_Shift.f t140 t141 (Go.bits .and .i64 a1 65535)).bind fun bt163 => ((drift_Drift_Shift.f bt163.1 bt163.2 (wrap64 (-(Go.bits .and .i64 a1 65535)))).bind fun bt165 => (if (FloatKind.f64.format.order bt165.1.re t140.re == some .eq && FloatKind.f64.format.order bt165.1.im t140.im == some .eq) = true then ((drift_Drift_Shift.f t140 t141 (wrap64 (4 * (Go.bits .and .i64 a1 65535)))).bind fun bt167 => (if (FloatKind.f64.format.order bt167.1.re t140.re == some .eq && FloatKind.f64.format.order bt167.1.im t140.im == some .eq) = true then ((drift_Turn.f (Go.bits .and .i64 a1 65535)).bind fun t169 => ((drift_Turn.f (Go.bits .and .i64 a2 65535)).bind fun t170 => (if cmulOk t169 t170 = true then ((drift_Turn.f (wrap64 ((Go.bits .and .i64 a1 65535) + (Go.bits .and .i64 a2 65535)))).bind fun t171 => (some (FloatKind.f64.format.order ((cmul t169 t170).re) t171.re == some .eq && FloatKind.f64.format.order ((cmul t169 t170).im) t171.im == some .eq))) else (none)))) else (none))) else (none)))) else (none)) else (none)) else (none)) = some r := by rw [if_pos rfl] at H; exact H
    clear H
    have H := H1
    clear H1
    by_cases c14 : (FloatKind.f64.format.order t148.re t151.re == some .eq && FloatKind.f64.format.order t148.im t151.im == some .eq) = true
    · rw [if_pos c14] at H
      have c14b0 : (FloatKind.f64.format.order t148.re t151.re == some .eq && FloatKind.f64.format.order t148.im t151.im == some .eq) = true := c14
      (try (have c14b1 : decide (FloatKind.f64.format.order t148.re t151.re = some .eq && FloatKind.f64.format.order t148.im t151.im == some .eq) = true := by simpa using c14))
      (try (have c14b2 : (FloatKind.f64.format.order t148.re t151.re == some .eq && FloatKind.f64.format.order t148.im t151.im == some .eq) = true := by simpa using c14))
      clear c14
      by_cases c15 : t149 = t152
      · rw [if_pos c15] at H
        have c15b0 : (t149 == t152) = true := beq_iff_eq.mpr c15
        have c15b1 : (t149 != t152) = false := bne_eq_false_iff_eq.mpr c15
        clear c15
        by_cases c16 : (FloatKind.f64.format.order t160.re t140.re == some .eq && FloatKind.f64.format.order t160.im t140.im == some .eq) = true
        · rw [if_pos c16] at H
          have c16b0 : (FloatKind.f64.format.order t160.re t140.re == some .eq && FloatKind.f64.format.order t160.im t140.im == some .eq) = true := c16
          (try (have c16b1 : decide (FloatKind.f64.format.order t160.re t140.re = some .eq && FloatKind.f64.format.order t160.im t140.im == some .eq) = true := by simpa using c16))
          (try (have c16b2 : (FloatKind.f64.format.order t160.re t140.re == some .eq && FloatKind.f64.format.order t160.im t140.im == some .eq) = true := by simpa using c16))
          clear c16
          replace H := Option.bind_eq_some_iff.mp H
          obtain ⟨⟨t163, t164⟩, A170, H⟩ := H
          replace H : ((drift_Drift_Shift.f t163 t164 (wrap64 (-(Go.bits .and .i64 a1 65535)))).bind fun bt165 => (if (FloatKind.f64.format.order bt165.1.re t140.re == some .eq && FloatKind.f64.format.order bt165.1.im t140.im == some .eq) = true then ((drift_Drift_Shift.f t140 t141 (wrap64 (4 * (Go.bits .and .i64 a1 65535)))).bind fun bt167 => (if (FloatKind.f64.format.order bt167.1.re t140.re == some .eq && FloatKind.f64.format.order bt167.1.im t140.im == some .eq) = true then ((drift_Turn.f (Go.bits .and .i64 a1 65535)).bind fun t169 => ((drift_Turn.f (Go.bits .and .i64 a2 65535)).bind fun t170 => (if cmulOk t169 t170 = true then ((drift_Turn.f (wrap64 ((Go.bits .and .i64 a1 65535) + (Go.bits .and .i64 a2 65535)))).bind fun t171 => (some (FloatKind.f64.format.order ((cmul t169 t170).re) t171.re == some .eq && FloatKind.f64.format.order ((cmul t169 t170).im) t171.im == some .eq))) else (none)))) else (none))) else (none))) = some r := H
          have A17 := Aside0.mk A170
          clear A170
          replace H := Option.bind_eq_some_iff.mp H
          obtain ⟨⟨t165, t166⟩, A180, H⟩ := H
          replace H : (if (FloatKind.f64.format.order t165.re t140.re == some .eq && FloatKind.f64.format.order t165.im t140.im == some .eq) = true then ((drift_Drift_Shift.f t140 t141 (wrap64 (4 * (Go.bits .and .i64 a1 65535)))).bind fun bt167 => (if (FloatKind.f64.format.order bt167.1.re t140.re == some .eq && FloatKind.f64.format.order bt167.1.im t140.im == some .eq) = true then ((drift_Turn.f (Go.bits .and .i64 a1 65535)).bind fun t169 => ((drift_Turn.f (Go.bits .and .i64 a2 65535)).bind fun t170 => (if cmulOk t169 t170 = true then ((drift_Turn.f (wrap64 ((Go.bits .and .i64 a1 65535) + (Go.bits .and .i64 a2 65535)))).bind fun t171 => (some (FloatKind.f64.format.order ((cmul t169 t170).re) t171.re == some .eq && FloatKind.f64.format.order ((cmul t169 t170).im) t171.im == some .eq))) else (none)))) else (none))) else (none)) = some r := H
          have A18 := Aside0.mk A180
          clear A180
          by_cases c19 : (FloatKind.f64.format.order t165.re t140.re == some .eq && FloatKind.f64.format.order t165.im t140.im == some .eq) = true
          · rw [if_pos c19] at H
            have c19b0 : (FloatKind.f64.format.order t165.re t140.re == some .eq && FloatKind.f64.format.order t165.im t140.im == some .eq) = true := c19
            (try (have c19b1 : decide (FloatKind.f64.format.order t165.re t140.re = some .eq && FloatKind.f64.format.order t165.im t140.im == some .eq) = true := by simpa using c19))
            (try (have c19b2 : (FloatKind.f64.format.order t165.re t140.re == some .eq && FloatKind.f64.format.order t165.im t140.im == some .eq) = true := by simpa using c19))
            clear c19
            replace H := Option.bind_eq_some_iff.mp H
            obtain ⟨⟨t167, t168⟩, A200, H⟩ := H
            replace H : (if (FloatKind.f64.format.order t167.re t140.re == some .eq && FloatKind.f64.format.order t167.im t140.im == some .eq) = true then ((drift_Turn.f (Go.bits .and .i64 a1 65535)).bind fun t169 => ((drift_Turn.f (Go.bits .and .i64 a2 65535)).bind fun t170 => (if cmulOk t169 t170 = true then ((drift_Turn.f (wrap64 ((Go.bits .and .i64 a1 65535) + (Go.bits .and .i64 a2 65535)))).bind fun t171 => (some (FloatKind.f64.format.order ((cmul t169 t170).re) t171.re == some .eq && FloatKind.f64.format.order ((cmul t169 t170).im) t171.im == some .eq))) else (none)))) else (none)) = some r := H
            have A20 := Aside0.mk A200
            clear A200
            by_cases c21 : (FloatKind.f64.format.order t167.re t140.re == some .eq && FloatKind.f64.format.order t167.im t140.im == some .eq) = true
            · rw [if_pos c21] at H
              have c21b0 : (FloatKind.f64.format.order t167.re t140.re == some .eq && FloatKind.f64.format.order t167.im t140.im == some .eq) = true := c21
              (try (have c21b1 : decide (FloatKind.f64.format.order t167.re t140.re = some .eq && FloatKind.f64.format.order t167.im t140.im == some .eq) = true := by simpa using c21))
              (try (have c21b2 : (FloatKind.f64.format.order t167.re t140.re == some .eq && FloatKind.f64.format.order t167.im t140.im == some .eq) = true := by simpa using c21))
              clear c21
              replace H := Option.bind_eq_some_iff.mp H
              obtain ⟨t169, A220, H⟩ := H
              replace H : ((drift_Turn.f (Go.bits .and .i64 a2 65535)).bind fun t170 => (if cmulOk t169 t170 = true then ((drift_Turn.f (wrap64 ((Go.bits .and .i64 a1 65535) + (Go.bits .and .i64 a2 65535)))).bind fun t171 => (some (FloatKind.f64.format.order ((cmul t169 t170).re) t171.re == some .eq && FloatKind.f64.format.order ((cmul t169 t170).im) t171.im == some .eq))) else (none))) = some r := H
              have A22 := Aside0.mk A220
              clear A220
              replace H := Option.bind_eq_some_iff.mp H
              obtain ⟨t170, A230, H⟩ := H
              replace H : (if cmulOk t169 t170 = true then ((drift_Turn.f (wrap64 ((Go.bits .and .i64 a1 65535) + (Go.bits .and .i64 a2 65535)))).bind fun t171 => (some (FloatKind.f64.format.order ((cmul t169 t170).re) t171.re == some .eq && FloatKind.f64.format.order ((cmul t169 t170).im) t171.im == some .eq))) else (none)) = some r := H
              have A23 := Aside0.mk A230
              clear A230
              by_cases c24 : cmulOk t169 t170 = true
              · rw [if_pos c24] at H
                have c24b0 := eq_true c24
                have c24b1 : decide (cmulOk t169 t170 = true) = true := decide_eq_true c24
                clear c24
                replace H := Option.bind_eq_some_iff.mp H
                obtain ⟨t171, A250, H⟩ := H
                replace H : (some (FloatKind.f64.format.order ((cmul t169 t170).re) t171.re == some .eq && FloatKind.f64.format.order ((cmul t169 t170).im) t171.im == some .eq)) = some r := H
                have A25 := Aside0.mk A250
                clear A250
                obtain rfl := Option.some.inj H
                go_enter Try.func5, Try.ntmps5
                try go_wp2_with (first | ((with_reducible refine gate_callee (f := 8) rfl ?_); refine goesL_ (some 13) rfl rfl Try.func8 (by kernel_rfl) rfl #[] rfl (by (try simp only [List.map_toArray, List.map_cons, List.map_nil]); first | done | rfl | (simp only [List.length_drop, List.length_take]; rfl)) ?_; (with_reducible refine (sluicewaylaw06_shown.calls k  true _ A4.out).mono ?_); rintro e w26 ⟨rfl, hb⟩; refine ⟨_, rfl, ?_⟩; have n0_ := Aside0.mk (below_step (by repeat (first | (with_reducible first | exact HB.out | apply below_alloc | apply pw_below_drewN | apply below_drew1) | exact HB.out)) hb); clear HB; have HB := n0_; clear n0_; (try clear hb); (try clear hb2); (try clear hk); (try clear hi)) | ((with_reducible refine gate_callee (f := 9) rfl ?_); refine goesL_ (some 16) rfl rfl Try.func9 (by kernel_rfl) rfl #[.slice A0 l0.length c0] rfl (by (try simp only [List.map_toArray, List.map_cons, List.map_nil]); first | done | rfl | (simp only [List.length_drop, List.length_take]; rfl)) ?_; (with_reducible refine (sluicewaylaw06_of.calls k (fun k_ => k_ < w.heap.size) _ _ l0 t140 t141 t142 _ ?side1 A5.out).mono ?_); (case side1 => exact Kd.V_mk HC0.out (Kd.F_below (Kd.C_F (Kd.heap_int .i64) HR0.out) (by repeat (first | (with_reducible first | exact HB.out | apply below_alloc | apply pw_below_drewN | apply below_drew1) | exact HB.out)))); rintro e w27 ⟨v143, rfl, ho0, hb⟩; refine ⟨_, rfl, ?_⟩; have n0_ := Aside0.mk (Kd.V_lower (Kd.V_mono (ok' := fun k_ => True) ho0 (fun k_ hk_ => trivial)) (below_size (by repeat (first | (with_reducible first | exact HB.out | apply below_alloc | apply pw_below_drewN | apply below_drew1) | exact HB.out)))); have n1_ := Aside0.mk (below_step (by repeat (first | (with_reducible first | exact HB.out | apply below_alloc | apply pw_below_drewN | apply below_drew1) | exact HB.out)) hb); clear HB; have HO144 := n0_; have HB := n1_; clear n0_ n1_; (try clear hb); (try clear hb2); (try clear hk); (try clear hi); (try clear ho0)) | ((with_reducible refine gate_dst (N := 8) rfl ?_); refine box_event ?hg (N := 8) ?hd (cs := #[.complex .f64 0 0, .int .i64 0]) (t := 26) ?hr ?_; (case hd => rfl); (case hg => rfl); (case hr => first | (go_simp; done) | (go_simp; rfl)); intro gb145 hg w28 hbox hb; have n0_ := Aside0.mk (Kd.V_below (Kd.V_elderB (by (with_reducible repeat (first | apply Kd.V_alloc | apply Kd.V_drewN | apply Kd.V_drew)); exact HO144.out) gb145 (Nat.le_of_eq hg.symm)) hb); have n1_ := Aside0.mk (below_step (by repeat (first | (with_reducible first | exact HB.out | apply below_alloc | apply pw_below_drewN | apply below_drew1) | exact HB.out)) hb); have n2_ := Aside0.mk (hbox); have n3_ := Aside0.mk ((by rw [hg]; exact (below_size (by repeat (first | (with_reducible first | exact HB.out | apply below_alloc | apply pw_below_drewN | apply below_drew1) | exact HB.out))) : w.heap.size ≤ gb145)); have n4_ := Aside0.mk ((by rw [hg]; exact (below_size (by repeat (first | (with_reducible first | exact HB.out | apply below_alloc | apply pw_below_drewN | apply below_drew1) | exact HB.out))) : w.heap.size ≤ gb145)); clear HO144; clear HB; have HO144 := n0_; have HB := n1_; have BK145 := n2_; have GW145 := n3_; have GE145 := n4_; clear n0_ n1_ n2_ n3_ n4_; clear hb hbox hg; have hcz29_0 : w28.cell? ⟨gb145, 0, none⟩ = some (.complex .f64 0 0) := (blk_cell BK145.out 0).trans rfl; have hcz29_1 : w28.cell? ⟨gb145, 1, none⟩ = some (.int .i64 0) := (blk_cell BK145.out 1).trans rfl; have hfz29_0 := blk_frozen BK145.out 0; have hfz29_1 := blk_frozen BK145.out 1) | ((with_reducible refine gate_callee (f := 19) rfl ?_); refine goesL_ (some 25) rfl rfl Try.func19 (by kernel_rfl) rfl #[.agg #[.complex .f64 t140.re t140.im, .int .i64 t141], .int .i64 (Go.bits .and .i64 a1 65535)] rfl (by (try simp only [List.map_toArray, List.map_cons, List.map_nil]); first | done | rfl | (simp only [List.length_drop, List.length_take]; rfl)) ?_; (with_reducible refine (drift_Drift_Shift.calls t140 t141 (Go.bits .and .i64 a1 65535) t146 t147 _ A6.out).mono ?_); rintro e w30 ⟨rfl, hb⟩; refine ⟨_, rfl, ?_⟩; have n0_ := Aside0.mk (Kd.V_below (by (with_reducible repeat (first | apply Kd.V_alloc | apply Kd.V_drewN | apply Kd.V_drew)); exact (Kd.V_mono (Kd.V_far (p := ⟨gb145, 1, none⟩) (Kd.V_far (p := ⟨gb145, 0, none⟩) (Kd.V_mono HO144.out (fun k_ hk => (⟨hk, hk.2⟩ : _ ∧ k_ ≠ gb145))) (fun _ hk => hk.2) (.complex .f64 t140.re t140.im)) (fun _ hk => hk.2) (.int .i64 t141)) (fun _ h_ => h_.1))) hb); have n1_ := Aside0.mk (blk_below (g := gb145) (o := .cells #[.complex .f64 t140.re t140.im, .int .i64 t141] 26 (0, 0)) (by (with_reducible repeat (first | refine blk_drewN ?_ _ | refine blk_drew ?_ | refine blk_alloc ?_ _)); refine blk_put (cs := #[.complex .f64 t140.re t140.im, .int .i64 0]) ?_ 1 _ rfl; (with_reducible repeat (first | refine blk_drewN ?_ _ | refine blk_drew ?_ | refine blk_alloc ?_ _)); refine blk_put (cs := #[.complex .f64 0 0, .int .i64 0]) ?_ 0 _ rfl; (with_reducible repeat (first | refine blk_drewN ?_ _ | refine blk_drew ?_ | refine blk_alloc ?_ _)); exact BK145.out) hb); have n2_ := Aside0.mk (below_step (by repeat (first | (with_reducible first | exact HB.out | apply below_alloc | apply pw_below_drewN | apply below_drew1 | refine below_set ?_ GE145.out) | exact HB.out)) hb); clear HO144; clear BK145; clear HB; have HO144 := n0_; have BK145 := n1_; have HB := n2_; clear n0_ n1_ n2_; (try clear hb); (try clear hb2); (try clear hk); (try clear hi)) | ((with_reducible refine gate_callee (f := 19) rfl ?_); refine goesL_ (some 27) rfl rfl Try.func19 (by kernel_rfl) rfl #[.agg #[.complex .f64 t146.re t146.im, .int .i64 t147], .int .i64 (Go.bits .and .i64 a2 65535)] rfl (by (try simp only [List.map_toArray, List.map_cons, List.map_nil]); first | done | rfl | (simp only [List.length_drop, List.length_take]; rfl)) ?_; (with_reducible refine (drift_Drift_Shift.calls t146 t147 (Go.bits .and .i64 a2 65535) t148 t149 _ A7.out).mono ?_); rintro e w31 ⟨rfl, hb⟩; refine ⟨_, rfl, ?_⟩; have n0_ := Aside0.mk (Kd.V_below (by (with_reducible repeat (first | apply Kd.V_alloc | apply Kd.V_drewN | apply Kd.V_drew)); exact HO144.out) hb); have n1_ := Aside0.mk (blk_below (g := gb145) (o := .cells #[.complex .f64 t140.re t140.im, .int .i64 t141] 26 (0, 0)) (by (with_reducible repeat (first | refine blk_drewN ?_ _ | refine blk_drew ?_ | refine blk_alloc ?_ _)); exact BK145.out) hb); have n2_ := Aside0.mk (below_step (by repeat (first | (with_reducible first | exact HB.out | apply below_alloc | apply pw_below_drewN | apply below_drew1 | refine below_set ?_ GE145.out) | exact HB.out)) hb); clear HO144; clear BK145; clear HB; have HO144 := n0_; have BK145 := n1_; have HB := n2_; clear n0_ n1_ n2_; (try clear hb); (try clear hb2); (try clear hk); (try clear hi)) | ((with_reducible refine gate_dst (N := 10) rfl ?_); refine box_event ?hg (N := 10) ?hd (cs := #[.complex .f64 0 0, .int .i64 0]) (t := 26) ?hr ?_; (case hd => rfl); (case hg => rfl); (case hr => first | (go_simp; done) | (go_simp; rfl)); intro gb150 hg w32 hbox hb; have n0_ := Aside0.mk (Kd.V_below (Kd.V_elderB (by (with_reducible repeat (first | apply Kd.V_alloc | apply Kd.V_drewN | apply Kd.V_drew)); exact HO144.out) gb150 (Nat.le_of_eq hg.symm)) hb); have n1_ := Aside0.mk (blk_below (g := gb145) (o := .cells #[.complex .f64 t140.re t140.im, .int .i64 t141] 26 (0, 0)) (by (with_reducible repeat (first | refine blk_drewN ?_ _ | refine blk_drew ?_ | refine blk_alloc ?_ _)); exact BK145.out) hb); have n2_ := Aside0.mk (below_step (by repeat (first | (with_reducible first | exact HB.out | apply below_alloc | apply pw_below_drewN | apply below_drew1 | refine below_set ?_ GE145.out) | exact HB.out)) hb); have n3_ := Aside0.mk (hbox); have n4_ := Aside0.mk ((by rw [hg]; exact (below_size (by repeat (first | (with_reducible first | exact HB.out | apply below_alloc | apply pw_below_drewN | apply below_drew1 | refine below_set ?_ GE145.out) | exact HB.out))) : w.heap.size ≤ gb150)); have n5_ := Aside0.mk ((by rw [hg]; exact (below_size (by repeat (first | (with_reducible first | exact HB.out | apply below_alloc | apply pw_below_drewN | apply below_drew1 | refine below_set ?_ GE145.out) | exact HB.out))) : w.heap.size ≤ gb150)); have n6_ := Aside0.mk ((by rw [hg]; exact Nat.ne_of_lt (blk_lt (g := gb145) (o := .cells #[.complex .f64 t140.re t140.im, .int .i64 t141] 26 (0, 0)) (by (with_reducible repeat (first | refine blk_drewN ?_ _ | refine blk_drew ?_ | refine blk_alloc ?_ _)); exact BK145.out)) : gb145 ≠ gb150)); have n7_ := Aside0.mk ((by rw [hg]; exact Nat.ne_of_gt (blk_lt (g := gb145) (o := .cells #[.complex .f64 t140.re t140.im, .int .i64 t141] 26 (0, 0)) (by (with_reducible repeat (first | refine blk_drewN ?_ _ | refine blk_drew ?_ | refine blk_alloc ?_ _)); exact BK145.out)) : gb150 ≠ gb145)); clear HO144; clear BK145; clear HB; have HO144 := n0_; have BK145 := n1_; have HB := n2_; have BK150 := n3_; have GW150 := n4_; have GE150 := n5_; have NB145_150 := n6_; have NB150_145 := n7_; clear n0_ n1_ n2_ n3_ n4_ n5_ n6_ n7_; clear hb hbox hg; have hnb33 := NB150_145.out; have hnc33 := NB145_150.out; have hcz34_0 : w32.cell? ⟨gb150, 0, none⟩ = some (.complex .f64 0 0) := (blk_cell BK150.out 0).trans rfl; have hcz34_1 : w32.cell? ⟨gb150, 1, none⟩ = some (.int .i64 0) := (blk_cell BK150.out 1).trans rfl; have hfz34_0 := blk_frozen BK150.out 0; have hfz34_1 := blk_frozen BK150.out 1; have hcz35_0 : w32.cell? ⟨gb145, 0, none⟩ = some (.complex .f64 t140.re t140.im) := (blk_cell BK145.out 0).trans rfl; have hcz35_1 : w32.cell? ⟨gb145, 1, none⟩ = some (.int .i64 t141) := (blk_cell BK145.out 1).trans rfl; have hfz35_0 := blk_frozen BK145.out 0; have hfz35_1 := blk_frozen BK145.out 1) | ((with_reducible refine gate_callee (f := 19) rfl ?_); refine goesL_ (some 32) rfl rfl Try.func19 (by kernel_rfl) rfl #[.agg #[.complex .f64 t140.re t140.im, .int .i64 t141], .int .i64 (wrap64 ((Go.bits .and .i64 a1 65535) + (Go.bits .and .i64 a2 65535)))] rfl (by (try simp only [List.map_toArray, List.map_cons, List.map_nil]); first | done | rfl | (simp only [List.length_drop, List.length_take]; rfl)) ?_; (with_reducible refine (drift_Drift_Shift.calls t140 t141 (wrap64 ((Go.bits .and .i64 a1 65535) + (Go.bits .and .i64 a2 65535))) t151 t152 _ A8.out).mono ?_); rintro e w36 ⟨rfl, hb⟩; refine ⟨_, rfl, ?_⟩; have n0_ := Aside0.mk (Kd.V_below (by (with_reducible repeat (first | apply Kd.V_alloc | apply Kd.V_drewN | apply Kd.V_drew)); exact (Kd.V_mono (Kd.V_far (p := ⟨gb150, 1, none⟩) (Kd.V_far (p := ⟨gb150, 0, none⟩) (Kd.V_mono HO144.out (fun k_ hk => (⟨hk, hk.2⟩ : _ ∧ k_ ≠ gb150))) (fun _ hk => hk.2) (.complex .f64 t148.re t148.im)) (fun _ hk => hk.2) (.int .i64 t149)) (fun _ h_ => h_.1))) hb); have n1_ := Aside0.mk (blk_below (g := gb145) (o := .cells #[.complex .f64 t140.re t140.im, .int .i64 t141] 26 (0, 0)) (by (with_reducible repeat (first | refine blk_drewN ?_ _ | refine blk_drew ?_ | refine blk_alloc ?_ _)); refine blk_far ?_ NB145_150.out _; (with_reducible repeat (first | refine blk_drewN ?_ _ | refine blk_drew ?_ | refine blk_alloc ?_ _)); refine blk_far ?_ NB145_150.out _; (with_reducible repeat (first | refine blk_drewN ?_ _ | refine blk_drew ?_ | refine blk_alloc ?_ _)); exact BK145.out) hb); have n2_ := Aside0.mk (blk_below (g := gb150) (o := .cells #[.complex .f64 t148.re t148.im, .int .i64 t149] 26 (0, 0)) (by (with_reducible repeat (first | refine blk_drewN ?_ _ | refine blk_drew ?_ | refine blk_alloc ?_ _)); refine blk_put (cs := #[.complex .f64 t148.re t148.im, .int .i64 0]) ?_ 1 _ rfl; (with_reducible repeat (first | refine blk_drewN ?_ _ | refine blk_drew ?_ | refine blk_alloc ?_ _)); refine blk_put (cs := #[.complex .f64 0 0, .int .i64 0]) ?_ 0 _ rfl; (with_reducible repeat (first | refine blk_drewN ?_ _ | refine blk_drew ?_ | refine blk_alloc ?_ _)); exact BK150.out) hb); have n3_ := Aside0.mk (below_step (by repeat (first | (with_reducible first | exact HB.out | apply below_alloc | apply pw_below_drewN | apply below_drew1 | refine below_set ?_ GE145.out | refine below_set ?_ GE150.out) | exact HB.out)) hb); clear HO144; clear BK145; clear BK150; clear HB; have HO144 := n0_; have BK145 := n1_; have BK150 := n2_; have HB := n3_; clear n0_ n1_ n2_ n3_; (try clear hb); (try clear hb2); (try clear hk); (try clear hi)) | ((with_reducible refine gate_dst (N := 11) rfl ?_); refine box_event ?hg (N := 11) ?hd (cs := #[.complex .f64 0 0, .int .i64 0]) (t := 26) ?hr ?_; (case hd => rfl); (case hg => rfl); (case hr => first | (go_simp; done) | (go_simp; rfl)); intro gb153 hg w37 hbox hb; have n0_ := Aside0.mk (Kd.V_below (Kd.V_elderB (by (with_reducible repeat (first | apply Kd.V_alloc | apply Kd.V_drewN | apply Kd.V_drew)); exact HO144.out) gb153 (Nat.le_of_eq hg.symm)) hb); have n1_ := Aside0.mk (blk_below (g := gb145) (o := .cells #[.complex .f64 t140.re t140.im, .int .i64 t141] 26 (0, 0)) (by (with_reducible repeat (first | refine blk_drewN ?_ _ | refine blk_drew ?_ | refine blk_alloc ?_ _)); exact BK145.out) hb); have n2_ := Aside0.mk (blk_below (g := gb150) (o := .cells #[.complex .f64 t148.re t148.im, .int .i64 t149] 26 (0, 0)) (by (with_reducible repeat (first | refine blk_drewN ?_ _ | refine blk_drew ?_ | refine blk_alloc ?_ _)); exact BK150.out) hb); have n3_ := Aside0.mk (below_step (by repeat (first | (with_reducible first | exact HB.out | apply below_alloc | apply pw_below_drewN | apply below_drew1 | refine below_set ?_ GE145.out | refine below_set ?_ GE150.out) | exact HB.out)) hb); have n4_ := Aside0.mk (hbox); have n5_ := Aside0.mk ((by rw [hg]; exact (below_size (by repeat (first | (with_reducible first | exact HB.out | apply below_alloc | apply pw_below_drewN | apply below_drew1 | refine below_set ?_ GE145.out | refine below_set ?_ GE150.out) | exact HB.out))) : w.heap.size ≤ gb153)); have n6_ := Aside0.mk ((by rw [hg]; exact (below_size (by repeat (first | (with_reducible first | exact HB.out | apply below_alloc | apply pw_below_drewN | apply below_drew1 | refine below_set ?_ GE145.out | refine below_set ?_ GE150.out) | exact HB.out))) : w.heap.size ≤ gb153)); have n7_ := Aside0.mk ((by rw [hg]; exact Nat.ne_of_lt (blk_lt (g := gb145) (o := .cells #[.complex .f64 t140.re t140.im, .int .i64 t141] 26 (0, 0)) (by (with_reducible repeat (first | refine blk_drewN ?_ _ | refine blk_drew ?_ | refine blk_alloc ?_ _)); exact BK145.out)) : gb145 ≠ gb153)); have n8_ := Aside0.mk ((by rw [hg]; exact Nat.ne_of_gt (blk_lt (g := gb145) (o := .cells #[.complex .f64 t140.re t140.im, .int .i64 t141] 26 (0, 0)) (by (with_reducible repeat (first | refine blk_drewN ?_ _ | refine blk_drew ?_ | refine blk_alloc ?_ _)); exact BK145.out)) : gb153 ≠ gb145)); have n9_ := Aside0.mk ((by rw [hg]; exact Nat.ne_of_lt (blk_lt (g := gb150) (o := .cells #[.complex .f64 t148.re t148.im, .int .i64 t149] 26 (0, 0)) (by (with_reducible repeat (first | refine blk_drewN ?_ _ | refine blk_drew ?_ | refine blk_alloc ?_ _)); exact BK150.out)) : gb150 ≠ gb153)); have n10_ := Aside0.mk ((by rw [hg]; exact Nat.ne_of_gt (blk_lt (g := gb150) (o := .cells #[.complex .f64 t148.re t148.im, .int .i64 t149] 26 (0, 0)) (by (with_reducible repeat (first | refine blk_drewN ?_ _ | refine blk_drew ?_ | refine blk_alloc ?_ _)); exact BK150.out)) : gb153 ≠ gb150)); clear HO144; clear BK145; clear BK150; clear HB; have HO144 := n0_; have BK145 := n1_; have BK150 := n2_; have HB := n3_; have BK153 := n4_; have GW153 := n5_; have GE153 := n6_; have NB145_153 := n7_; have NB153_145 := n8_; have NB150_153 := n9_; have NB153_150 := n10_; clear n0_ n1_ n2_ n3_ n4_ n5_ n6_ n7_ n8_ n9_ n10_; clear hb hbox hg; have hnb38 := NB153_145.out; have hnc38 := NB145_153.out; have hnb39 := NB153_150.out; have hnc39 := NB150_153.out; have hcz40_0 : w37.cell? ⟨gb153, 0, none⟩ = some (.complex .f64 0 0) := (blk_cell BK153.out 0).trans rfl; have hcz40_1 : w37.cell? ⟨gb153, 1, none⟩ = some (.int .i64 0) := (blk_cell BK153.out 1).trans rfl; have hfz40_0 := blk_frozen BK153.out 0; have hfz40_1 := blk_frozen BK153.out 1; have hcz41_0 : w37.cell? ⟨gb145, 0, none⟩ = some (.complex .f64 t140.re t140.im) := (blk_cell BK145.out 0).trans rfl; have hcz41_1 : w37.cell? ⟨gb145, 1, none⟩ = some (.int .i64 t141) := (blk_cell BK145.out 1).trans rfl; have hfz41_0 := blk_frozen BK145.out 0; have hfz41_1 := blk_frozen BK145.out 1) | ((with_reducible refine gate_callee (f := 19) rfl ?_); refine goesL_ (some 34) rfl rfl Try.func19 (by kernel_rfl) rfl #[.agg #[.complex .f64 t140.re t140.im, .int .i64 t141], .int .i64 1] rfl (by (try simp only [List.map_toArray, List.map_cons, List.map_nil]); first | done | rfl | (simp only [List.length_drop, List.length_take]; rfl)) ?_; (with_reducible refine (drift_Drift_Shift.calls t140 t141 1 t154 t155 _ A9.out).mono ?_); rintro e w42 ⟨rfl, hb⟩; refine ⟨_, rfl, ?_⟩; have n0_ := Aside0.mk (Kd.V_below (by (with_reducible repeat (first | apply Kd.V_alloc | apply Kd.V_drewN | apply Kd.V_drew)); exact (Kd.V_mono (Kd.V_far (p := ⟨gb153, 1, none⟩) (Kd.V_far (p := ⟨gb153, 0, none⟩) (Kd.V_mono HO144.out (fun k_ hk => (⟨hk, hk.2⟩ : _ ∧ k_ ≠ gb153))) (fun _ hk => hk.2) (.complex .f64 t151.re t151.im)) (fun _ hk => hk.2) (.int .i64 t152)) (fun _ h_ => h_.1))) hb); have n1_ := Aside0.mk (blk_below (g := gb145) (o := .cells #[.complex .f64 t140.re t140.im, .int .i64 t141] 26 (0, 0)) (by (with_reducible repeat (first | refine blk_drewN ?_ _ | refine blk_drew ?_ | refine blk_alloc ?_ _)); refine blk_far ?_ NB145_153.out _; (with_reducible repeat (first | refine blk_drewN ?_ _ | refine blk_drew ?_ | refine blk_alloc ?_ _)); refine blk_far ?_ NB145_153.out _; (with_reducible repeat (first | refine blk_drewN ?_ _ | refine blk_drew ?_ | refine blk_alloc ?_ _)); exact BK145.out) hb); have n2_ := Aside0.mk (blk_below (g := gb150) (o := .cells #[.complex .f64 t148.re t148.im, .int .i64 t149] 26 (0, 0)) (by (with_reducible repeat (first | refine blk_drewN ?_ _ | refine blk_drew ?_ | refine blk_alloc ?_ _)); refine blk_far ?_ NB150_153.out _; (with_reducible repeat (first | refine blk_drewN ?_ _ | refine blk_drew ?_ | refine blk_alloc ?_ _)); refine blk_far ?_ NB150_153.out _; (with_reducible repeat (first | refine blk_drewN ?_ _ | refine blk_drew ?_ | refine blk_alloc ?_ _)); exact BK150.out) hb); have n3_ := Aside0.mk (blk_below (g := gb153) (o := .cells #[.complex .f64 t151.re t151.im, .int .i64 t152] 26 (0, 0)) (by (with_reducible repeat (first | refine blk_drewN ?_ _ | refine blk_drew ?_ | refine blk_alloc ?_ _)); refine blk_put (cs := #[.complex .f64 t151.re t151.im, .int .i64 0]) ?_ 1 _ rfl; (with_reducible repeat (first | refine blk_drewN ?_ _ | refine blk_drew ?_ | refine blk_alloc ?_ _)); refine blk_put (cs := #[.complex .f64 0 0, .int .i64 0]) ?_ 0 _ rfl; (with_reducible repeat (first | refine blk_drewN ?_ _ | refine blk_drew ?_ | refine blk_alloc ?_ _)); exact BK153.out) hb); have n4_ := Aside0.mk (below_step (by repeat (first | (with_reducible first | exact HB.out | apply below_alloc | apply pw_below_drewN | apply below_drew1 | refine below_set ?_ GE145.out | refine below_set ?_ GE150.out | refine below_set ?_ GE153.out) | exact HB.out)) hb); clear HO144; clear BK145; clear BK150; clear BK153; clear HB; have HO144 := n0_; have BK145 := n1_; have BK150 := n2_; have BK153 := n3_; have HB := n4_; clear n0_ n1_ n2_ n3_ n4_; (try clear hb); (try clear hb2); (try clear hk); (try clear hi)) | ((with_reducible refine gate_callee (f := 19) rfl ?_); refine goesL_ (some 35) rfl rfl Try.func19 (by kernel_rfl) rfl #[.agg #[.complex .f64 t154.re t154.im, .int .i64 t155], .int .i64 1] rfl (by (try simp only [List.map_toArray, List.map_cons, List.map_nil]); first | done | rfl | (simp only [List.length_drop, List.length_take]; rfl)) ?_; (with_reducible refine (drift_Drift_Shift.calls t154 t155 1 t156 t157 _ A10.out).mono ?_); rintro e w43 ⟨rfl, hb⟩; refine ⟨_, rfl, ?_⟩; have n0_ := Aside0.mk (Kd.V_below (by (with_reducible repeat (first | apply Kd.V_alloc | apply Kd.V_drewN | apply Kd.V_drew)); exact HO144.out) hb); have n1_ := Aside0.mk (blk_below (g := gb145) (o := .cells #[.complex .f64 t140.re t140.im, .int .i64 t141] 26 (0, 0)) (by (with_reducible repeat (first | refine blk_drewN ?_ _ | refine blk_drew ?_ | refine blk_alloc ?_ _)); exact BK145.out) hb); have n2_ := Aside0.mk (blk_below (g := gb150) (o := .cells #[.complex .f64 t148.re t148.im, .int .i64 t149] 26 (0, 0)) (by (with_reducible repeat (first | refine blk_drewN ?_ _ | refine blk_drew ?_ | refine blk_alloc ?_ _)); exact BK150.out) hb); have n3_ := Aside0.mk (blk_below (g := gb153) (o := .cells #[.complex .f64 t151.re t151.im, .int .i64 t152] 26 (0, 0)) (by (with_reducible repeat (first | refine blk_drewN ?_ _ | refine blk_drew ?_ | refine blk_alloc ?_ _)); exact BK153.out) hb); have n4_ := Aside0.mk (below_step (by repeat (first | (with_reducible first | exact HB.out | apply below_alloc | apply pw_below_drewN | apply below_drew1 | refine below_set ?_ GE145.out | refine below_set ?_ GE150.out | refine below_set ?_ GE153.out) | exact HB.out)) hb); clear HO144; clear BK145; clear BK150; clear BK153; clear HB; have HO144 := n0_; have BK145 := n1_; have BK150 := n2_; have BK153 := n3_; have HB := n4_; clear n0_ n1_ n2_ n3_ n4_; (try clear hb); (try clear hb2); (try clear hk); (try clear hi)) | ((with_reducible refine gate_callee (f := 19) rfl ?_); refine goesL_ (some 36) rfl rfl Try.func19 (by kernel_rfl) rfl #[.agg #[.complex .f64 t156.re t156.im, .int .i64 t157], .int .i64 1] rfl (by (try simp only [List.map_toArray, List.map_cons, List.map_nil]); first | done | rfl | (simp only [List.length_drop, List.length_take]; rfl)) ?_; (with_reducible refine (drift_Drift_Shift.calls t156 t157 1 t158 t159 _ A11.out).mono ?_); rintro e w44 ⟨rfl, hb⟩; refine ⟨_, rfl, ?_⟩; have n0_ := Aside0.mk (Kd.V_below (by (with_reducible repeat (first | apply Kd.V_alloc | apply Kd.V_drewN | apply Kd.V_drew)); exact HO144.out) hb); have n1_ := Aside0.mk (blk_below (g := gb145) (o := .cells #[.complex .f64 t140.re t140.im, .int .i64 t141] 26 (0, 0)) (by (with_reducible repeat (first | refine blk_drewN ?_ _ | refine blk_drew ?_ | refine blk_alloc ?_ _)); exact BK145.out) hb); have n2_ := Aside0.mk (blk_below (g := gb150) (o := .cells #[.complex .f64 t148.re t148.im, .int .i64 t149] 26 (0, 0)) (by (with_reducible repeat (first | refine blk_drewN ?_ _ | refine blk_drew ?_ | refine blk_alloc ?_ _)); exact BK150.out) hb); have n3_ := Aside0.mk (blk_below (g := gb153) (o := .cells #[.complex .f64 t151.re t151.im, .int .i64 t152] 26 (0, 0)) (by (with_reducible repeat (first | refine blk_drewN ?_ _ | refine blk_drew ?_ | refine blk_alloc ?_ _)); exact BK153.out) hb); have n4_ := Aside0.mk (below_step (by repeat (first | (with_reducible first | exact HB.out | apply below_alloc | apply pw_below_drewN | apply below_drew1 | refine below_set ?_ GE145.out | refine below_set ?_ GE150.out | refine below_set ?_ GE153.out) | exact HB.out)) hb); clear HO144; clear BK145; clear BK150; clear BK153; clear HB; have HO144 := n0_; have BK145 := n1_; have BK150 := n2_; have BK153 := n3_; have HB := n4_; clear n0_ n1_ n2_ n3_ n4_; (try clear hb); (try clear hb2); (try clear hk); (try clear hi)) | ((with_reducible refine gate_callee (f := 19) rfl ?_); refine goesL_ (some 37) rfl rfl Try.func19 (by kernel_rfl) rfl #[.agg #[.complex .f64 t158.re t158.im, .int .i64 t159], .int .i64 1] rfl (by (try simp only [List.map_toArray, List.map_cons, List.map_nil]); first | done | rfl | (simp only [List.length_drop, List.length_take]; rfl)) ?_; (with_reducible refine (drift_Drift_Shift.calls t158 t159 1 t160 t161 _ A12.out).mono ?_); rintro e w45 ⟨rfl, hb⟩; refine ⟨_, rfl, ?_⟩; have n0_ := Aside0.mk (Kd.V_below (by (with_reducible repeat (first | apply Kd.V_alloc | apply Kd.V_drewN | apply Kd.V_drew)); exact HO144.out) hb); have n1_ := Aside0.mk (blk_below (g := gb145) (o := .cells #[.complex .f64 t140.re t140.im, .int .i64 t141] 26 (0, 0)) (by (with_reducible repeat (first | refine blk_drewN ?_ _ | refine blk_drew ?_ | refine blk_alloc ?_ _)); exact BK145.out) hb); have n2_ := Aside0.mk (blk_below (g := gb150) (o := .cells #[.complex .f64 t148.re t148.im, .int .i64 t149] 26 (0, 0)) (by (with_reducible repeat (first | refine blk_drewN ?_ _ | refine blk_drew ?_ | refine blk_alloc ?_ _)); exact BK150.out) hb); have n3_ := Aside0.mk (blk_below (g := gb153) (o := .cells #[.complex .f64 t151.re t151.im, .int .i64 t152] 26 (0, 0)) (by (with_reducible repeat (first | refine blk_drewN ?_ _ | refine blk_drew ?_ | refine blk_alloc ?_ _)); exact BK153.out) hb); have n4_ := Aside0.mk (below_step (by repeat (first | (with_reducible first | exact HB.out | apply below_alloc | apply pw_below_drewN | apply below_drew1 | refine below_set ?_ GE145.out | refine below_set ?_ GE150.out | refine below_set ?_ GE153.out) | exact HB.out)) hb); clear HO144; clear BK145; clear BK150; clear BK153; clear HB; have HO144 := n0_; have BK145 := n1_; have BK150 := n2_; have BK153 := n3_; have HB := n4_; clear n0_ n1_ n2_ n3_ n4_; (try clear hb); (try clear hb2); (try clear hk); (try clear hi)) | ((with_reducible refine gate_dst (N := 12) rfl ?_); refine box_event ?hg (N := 12) ?hd (cs := #[.complex .f64 0 0, .int .i64 0]) (t := 26) ?hr ?_; (case hd => rfl); (case hg => rfl); (case hr => first | (go_simp; done) | (go_simp; rfl)); intro gb162 hg w46 hbox hb; have n0_ := Aside0.mk (Kd.V_below (Kd.V_elderB (by (with_reducible repeat (first | apply Kd.V_alloc | apply Kd.V_drewN | apply Kd.V_drew)); exact HO144.out) gb162 (Nat.le_of_eq hg.symm)) hb); have n1_ := Aside0.mk (blk_below (g := gb145) (o := .cells #[.complex .f64 t140.re t140.im, .int .i64 t141] 26 (0, 0)) (by (with_reducible repeat (first | refine blk_drewN ?_ _ | refine blk_drew ?_ | refine blk_alloc ?_ _)); exact BK145.out) hb); have n2_ := Aside0.mk (blk_below (g := gb150) (o := .cells #[.complex .f64 t148.re t148.im, .int .i64 t149] 26 (0, 0)) (by (with_reducible repeat (first | refine blk_drewN ?_ _ | refine blk_drew ?_ | refine blk_alloc ?_ _)); exact BK150.out) hb); have n3_ := Aside0.mk (blk_below (g := gb153) (o := .cells #[.complex .f64 t151.re t151.im, .int .i64 t152] 26 (0, 0)) (by (with_reducible repeat (first | refine blk_drewN ?_ _ | refine blk_drew ?_ | refine blk_alloc ?_ _)); exact BK153.out) hb); have n4_ := Aside0.mk (below_step (by repeat (first | (with_reducible first | exact HB.out | apply below_alloc | apply pw_below_drewN | apply below_drew1 | refine below_set ?_ GE145.out | refine below_set ?_ GE150.out | refine below_set ?_ GE153.out) | exact HB.out)) hb); have n5_ := Aside0.mk (hbox); have n6_ := Aside0.mk ((by rw [hg]; exact (below_size (by repeat (first | (with_reducible first | exact HB.out | apply below_alloc | apply pw_below_drewN | apply below_drew1 | refine below_set ?_ GE145.out | refine below_set ?_ GE150.out | refine below_set ?_ GE153.out) | exact HB.out))) : w.heap.size ≤ gb162)); have n7_ := Aside0.mk ((by rw [hg]; exact (below_size (by repeat (first | (with_reducible first | exact HB.out | apply below_alloc | apply pw_below_drewN | apply below_drew1 | refine below_set ?_ GE145.out | refine below_set ?_ GE150.out | refine below_set ?_ GE153.out) | exact HB.out))) : w.heap.size ≤ gb162)); have n8_ := Aside0.mk ((by rw [hg]; exact Nat.ne_of_lt (blk_lt (g := gb145) (o := .cells #[.complex .f64 t140.re t140.im, .int .i64 t141] 26 (0, 0)) (by (with_reducible repeat (first | refine blk_drewN ?_ _ | refine blk_drew ?_ | refine blk_alloc ?_ _)); exact BK145.out)) : gb145 ≠ gb162)); have n9_ := Aside0.mk ((by rw [hg]; exact Nat.ne_of_gt (blk_lt (g := gb145) (o := .cells #[.complex .f64 t140.re t140.im, .int .i64 t141] 26 (0, 0)) (by (with_reducible repeat (first | refine blk_drewN ?_ _ | refine blk_drew ?_ | refine blk_alloc ?_ _)); exact BK145.out)) : gb162 ≠ gb145)); have n10_ := Aside0.mk ((by rw [hg]; exact Nat.ne_of_lt (blk_lt (g := gb150) (o := .cells #[.complex .f64 t148.re t148.im, .int .i64 t149] 26 (0, 0)) (by (with_reducible repeat (first | refine blk_drewN ?_ _ | refine blk_drew ?_ | refine blk_alloc ?_ _)); exact BK150.out)) : gb150 ≠ gb162)); have n11_ := Aside0.mk ((by rw [hg]; exact Nat.ne_of_gt (blk_lt (g := gb150) (o := .cells #[.complex .f64 t148.re t148.im, .int .i64 t149] 26 (0, 0)) (by (with_reducible repeat (first | refine blk_drewN ?_ _ | refine blk_drew ?_ | refine blk_alloc ?_ _)); exact BK150.out)) : gb162 ≠ gb150)); have n12_ := Aside0.mk ((by rw [hg]; exact Nat.ne_of_lt (blk_lt (g := gb153) (o := .cells #[.complex .f64 t151.re t151.im, .int .i64 t152] 26 (0, 0)) (by (with_reducible repeat (first | refine blk_drewN ?_ _ | refine blk_drew ?_ | refine blk_alloc ?_ _)); exact BK153.out)) : gb153 ≠ gb162)); have n13_ := Aside0.mk ((by rw [hg]; exact Nat.ne_of_gt (blk_lt (g := gb153) (o := .cells #[.complex .f64 t151.re t151.im, .int .i64 t152] 26 (0, 0)) (by (with_reducible repeat (first | refine blk_drewN ?_ _ | refine blk_drew ?_ | refine blk_alloc ?_ _)); exact BK153.out)) : gb162 ≠ gb153)); clear HO144; clear BK145; clear BK150; clear BK153; clear HB; have HO144 := n0_; have BK145 := n1_; have BK150 := n2_; have BK153 := n3_; have HB := n4_; have BK162 := n5_; have GW162 := n6_; have GE162 := n7_; have NB145_162 := n8_; have NB162_145 := n9_; have NB150_162 := n10_; have NB162_150 := n11_; have NB153_162 := n12_; have NB162_153 := n13_; clear n0_ n1_ n2_ n3_ n4_ n5_ n6_ n7_ n8_ n9_ n10_ n11_ n12_ n13_; clear hb hbox hg; have hnb47 := NB162_145.out; have hnc47 := NB145_162.out; have hnb48 := NB162_150.out; have hnc48 := NB150_162.out; have hnb49 := NB162_153.out; have hnc49 := NB153_162.out; have hcz50_0 : w46.cell? ⟨gb162, 0, none⟩ = some (.complex .f64 0 0) := (blk_cell BK162.out 0).trans rfl; have hcz50_1 : w46.cell? ⟨gb162, 1, none⟩ = some (.int .i64 0) := (blk_cell BK162.out 1).trans rfl; have hfz50_0 := blk_frozen BK162.out 0; have hfz50_1 := blk_frozen BK162.out 1))
                have n0_ : Aside0 (Kd.V (Kd.int .i64) 3 ((w46.setCell ⟨gb162, 0, none⟩ (.complex .f64 t160.re t160.im)).setCell ⟨gb162, 1, none⟩ (.int .i64 t161)) w.heap.size (fun k_ => k_ ≠ gb145 ∧ k_ ≠ gb150 ∧ k_ ≠ gb153 ∧ k_ ≠ gb162) v143 t142) := ⟨by (with_reducible repeat (first | apply Kd.V_alloc | apply Kd.V_drewN | apply Kd.V_drew)); exact Kd.V_mono (Kd.V_far (p := ⟨gb162, 1, none⟩) (Kd.V_far (p := ⟨gb162, 0, none⟩) (Kd.V_mono HO144.out (fun k_ hk => (⟨hk, hk.2⟩ : _ ∧ k_ ≠ gb162))) (fun _ hk => hk.2) (.complex .f64 t160.re t160.im)) (fun _ hk => hk.2) (.int .i64 t161)) (fun _ hk => ⟨hk.1.1.1.1.2, ⟨hk.1.1.1.2, ⟨hk.1.1.2, hk.1.2⟩⟩⟩)⟩
                have n1_ : Aside0 (((w46.setCell ⟨gb162, 0, none⟩ (.complex .f64 t160.re t160.im)).setCell ⟨gb162, 1, none⟩ (.int .i64 t161)).heap[gb145]? = some (.cells #[.complex .f64 t140.re t140.im, .int .i64 t141] 26 (0, 0))) := ⟨by (with_reducible repeat (first | refine blk_drewN ?_ _ | refine blk_drew ?_ | refine blk_alloc ?_ _)); refine blk_far ?_ NB145_162.out _; (with_reducible repeat (first | refine blk_drewN ?_ _ | refine blk_drew ?_ | refine blk_alloc ?_ _)); refine blk_far ?_ NB145_162.out _; (with_reducible repeat (first | refine blk_drewN ?_ _ | refine blk_drew ?_ | refine blk_alloc ?_ _)); exact BK145.out⟩
                have n2_ : Aside0 (((w46.setCell ⟨gb162, 0, none⟩ (.complex .f64 t160.re t160.im)).setCell ⟨gb162, 1, none⟩ (.int .i64 t161)).heap[gb150]? = some (.cells #[.complex .f64 t148.re t148.im, .int .i64 t149] 26 (0, 0))) := ⟨by (with_reducible repeat (first | refine blk_drewN ?_ _ | refine blk_drew ?_ | refine blk_alloc ?_ _)); refine blk_far ?_ NB150_162.out _; (with_reducible repeat (first | refine blk_drewN ?_ _ | refine blk_drew ?_ | refine blk_alloc ?_ _)); refine blk_far ?_ NB150_162.out _; (with_reducible repeat (first | refine blk_drewN ?_ _ | refine blk_drew ?_ | refine blk_alloc ?_ _)); exact BK150.out⟩
                have n3_ : Aside0 (((w46.setCell ⟨gb162, 0, none⟩ (.complex .f64 t160.re t160.im)).setCell ⟨gb162, 1, none⟩ (.int .i64 t161)).heap[gb153]? = some (.cells #[.complex .f64 t151.re t151.im, .int .i64 t152] 26 (0, 0))) := ⟨by (with_reducible repeat (first | refine blk_drewN ?_ _ | refine blk_drew ?_ | refine blk_alloc ?_ _)); refine blk_far ?_ NB153_162.out _; (with_reducible repeat (first | refine blk_drewN ?_ _ | refine blk_drew ?_ | refine blk_alloc ?_ _)); refine blk_far ?_ NB153_162.out _; (with_reducible repeat (first | refine blk_drewN ?_ _ | refine blk_drew ?_ | refine blk_alloc ?_ _)); exact BK153.out⟩
                have n4_ : Aside0 (((w46.setCell ⟨gb162, 0, none⟩ (.complex .f64 t160.re t160.im)).setCell ⟨gb162, 1, none⟩ (.int .i64 t161)).heap[gb162]? = some (.cells #[.complex .f64 t160.re t160.im, .int .i64 t161] 26 (0, 0))) := ⟨by (with_reducible repeat (first | refine blk_drewN ?_ _ | refine blk_drew ?_ | refine blk_alloc ?_ _)); refine blk_put (cs := #[.complex .f64 t160.re t160.im, .int .i64 0]) ?_ 1 _ rfl; (with_reducible repeat (first | refine blk_drewN ?_ _ | refine blk_drew ?_ | refine blk_alloc ?_ _)); refine blk_put (cs := #[.complex .f64 0 0, .int .i64 0]) ?_ 0 _ rfl; (with_reducible repeat (first | refine blk_drewN ?_ _ | refine blk_drew ?_ | refine blk_alloc ?_ _)); exact BK162.out⟩
                have n5_ : Aside0 (Below w.heap.size w ((w46.setCell ⟨gb162, 0, none⟩ (.complex .f64 t160.re t160.im)).setCell ⟨gb162, 1, none⟩ (.int .i64 t161))) := ⟨by repeat (first | (with_reducible first | exact HB.out | apply below_alloc | apply pw_below_drewN | apply below_drew1 | refine below_set ?_ GE145.out | refine below_set ?_ GE150.out | refine below_set ?_ GE153.out | refine below_set ?_ GE162.out) | exact HB.out)⟩
                (try clear HO144)
                (try clear BK145)
                (try clear BK150)
                (try clear BK153)
                (try clear BK162)
                (try clear HB)
                generalize ((w46.setCell ⟨gb162, 0, none⟩ (.complex .f64 t160.re t160.im)).setCell ⟨gb162, 1, none⟩ (.int .i64 t161)) = w51 at n0_ n1_ n2_ n3_ n4_ n5_ ⊢
                have HO144 := n0_
                have BK145 := n1_
                have BK150 := n2_
                have BK153 := n3_
                have BK162 := n4_
                have HB := n5_
                clear n0_ n1_ n2_ n3_ n4_ n5_
                have n0_ := Aside0.mk (Kd.V_drew HO144.out)
                have n1_ := Aside0.mk (blk_drew BK145.out)
                have n2_ := Aside0.mk (blk_drew BK150.out)
                have n3_ := Aside0.mk (blk_drew BK153.out)
                have n4_ := Aside0.mk (blk_drew BK162.out)
                have n5_ := Aside0.mk (below_drew1 HB.out)
                clear HO144
                clear BK145
                clear BK150
                clear BK153
                clear BK162
                clear HB
                have HO144 := n0_
                have BK145 := n1_
                have BK150 := n2_
                have BK153 := n3_
                have BK162 := n4_
                have HB := n5_
                clear n0_ n1_ n2_ n3_ n4_ n5_
                refine start_ (n := 57) (S := fun w' => w'.cell? ⟨gb150, 0, none⟩ = some (.complex .f64 t148.re t148.im) ∧ w'.cell? ⟨gb150, 1, none⟩ = some (.int .i64 t149) ∧ w'.cell? ⟨gb153, 0, none⟩ = some (.complex .f64 t151.re t151.im) ∧ w'.cell? ⟨gb153, 1, none⟩ = some (.int .i64 t152) ∧ w'.cell? ⟨gb162, 0, none⟩ = some (.complex .f64 t160.re t160.im) ∧ w'.cell? ⟨gb162, 1, none⟩ = some (.int .i64 t161) ∧ w'.cell? ⟨gb145, 0, none⟩ = some (.complex .f64 t140.re t140.im) ∧ w'.cell? ⟨gb145, 1, none⟩ = some (.int .i64 t141)) (ds := []) #[false, false, false, false, false, false, false, false, false, false, false, false, false, false, false, false, false, false, false, false, false, false, false, false, false, false, false, false, false, false, false, false, false, false, false, false, false, false, false, false, false, false, false, false, false, false, false, false, false, false, false, false, false, false, false, false, false] (by kernel_rfl) rfl rfl ⟨(blk_cell BK150.out 0).trans rfl, (blk_cell BK150.out 1).trans rfl, (blk_cell BK153.out 0).trans rfl, (blk_cell BK153.out 1).trans rfl, (blk_cell BK162.out 0).trans rfl, (blk_cell BK162.out 1).trans rfl, (blk_cell BK145.out 0).trans rfl, (blk_cell BK145.out 1).trans rfl⟩ (fun hHeld => ?_); refine with_tabW sluicewaylaw06_DriftTurns.tab8 sluicewaylaw06_DriftTurns.bits8 (fun HT_ HW_ => ?_)
                generalize w51.drew = w52 at HO144 BK145 BK150 BK153 BK162 HB hHeld ⊢
                refine pure_ (i := 0) (N := some 38) (v := ?_) (a' := ?_) #[true, false, false, false, false, false, false, false, false, false, false, false, false, false, false, false, false, false, false, false, false, false, false, false, false, false, false, false, false, false, false, false, false, false, false, false, false, false, false, false, false, false, false, false, false, false, false, false, false, false, false, false, false, false, false, false, false] rfl rfl (any_of HT_.out (by kernel_rfl)) (fun _ _ _ h => h) (Or.inl ⟨by rfl, ?_⟩) ?_ ?_
                rotate_left
                · intro w'
                  go_simp
                  with_reducible rfl
                rotate_left
                · simp only [Act.put, List.setIfInBounds_toArray, List.set_cons_zero, List.set_cons_succ, i64_w, i32_w]
                  rfl
                refine pure_ (i := 1) (N := some 39) (v := ?_) (a' := ?_) #[true, true, false, false, false, false, false, false, false, false, false, false, false, false, false, false, false, false, false, false, false, false, false, false, false, false, false, false, false, false, false, false, false, false, false, false, false, false, false, false, false, false, false, false, false, false, false, false, false, false, false, false, false, false, false, false, false] rfl rfl (any_of HT_.out (by kernel_rfl)) (fun _ _ _ h => h) (Or.inl ⟨by rfl, ?_⟩) ?_ ?_
                rotate_left
                · intro w'
                  go_simp
                  with_reducible rfl
                rotate_left
                · simp only [Act.put, List.setIfInBounds_toArray, List.set_cons_zero, List.set_cons_succ, i64_w, i32_w]
                  rfl
                refine pure_ (i := 2) (N := some 40) (v := ?_) (a' := ?_) #[true, true, true, false, false, false, false, false, false, false, false, false, false, false, false, false, false, false, false, false, false, false, false, false, false, false, false, false, false, false, false, false, false, false, false, false, false, false, false, false, false, false, false, false, false, false, false, false, false, false, false, false, false, false, false, false, false] rfl rfl (any_of HT_.out (by kernel_rfl)) (fun _ _ _ h => h) (Or.inl ⟨by rfl, ?_⟩) ?_ ?_
                rotate_left
                · intro w'
                  go_simp
                  with_reducible rfl
                rotate_left
                · simp only [Act.put, List.setIfInBounds_toArray, List.set_cons_zero, List.set_cons_succ, i64_w, i32_w]
                  rfl
                refine pure_ (i := 4) (N := some 42) (v := ?_) (a' := ?_) #[true, true, true, false, true, false, false, false, false, false, false, false, false, false, false, false, false, false, false, false, false, false, false, false, false, false, false, false, false, false, false, false, false, false, false, false, false, false, false, false, false, false, false, false, false, false, false, false, false, false, false, false, false, false, false, false, false] rfl rfl (any_of HT_.out (by kernel_rfl)) (fun _ _ _ h => h) (Or.inl ⟨by rfl, ?_⟩) ?_ ?_
                rotate_left
                · intro w'
                  go_simp
                  with_reducible rfl
                rotate_left
                · simp only [Act.put, List.setIfInBounds_toArray, List.set_cons_zero, List.set_cons_succ, i64_w, i32_w]
                  rfl
                refine take_ (i := 3) (N := some 41) (v := ?_) (a' := ?_) #[true, true, true, true, true, false, false, false, false, false, false, false, false, false, false, false, false, false, false, false, false, false, false, false, false, false, false, false, false, false, false, false, false, false, false, false, false, false, false, false, false, false, false, false, false, false, false, false, false, false, false, false, false, false, false, false, false] rfl rfl (take_ofW HT_.out HW_.out (by kernel_rfl)) (fun _ _ _ h => h) (Or.inl ⟨by rfl, ?_⟩) hHeld ?_ ?_
                rotate_left
                · rintro w' ⟨s0, s1, s2, s3, s4, s5, s6, s7⟩
                  go_simp
                  with_reducible rfl
                rotate_left
                · simp only [Act.put, List.setIfInBounds_toArray, List.set_cons_zero, List.set_cons_succ, i64_w, i32_w]
                  rfl
                refine take_ (i := 5) (N := some 43) (v := ?_) (a' := ?_) #[true, true, true, true, true, true, false, false, false, false, false, false, false, false, false, false, false, false, false, false, false, false, false, false, false, false, false, false, false, false, false, false, false, false, false, false, false, false, false, false, false, false, false, false, false, false, false, false, false, false, false, false, false, false, false, false, false] rfl rfl (take_ofW HT_.out HW_.out (by kernel_rfl)) (fun _ _ _ h => h) (Or.inl ⟨by rfl, ?_⟩) hHeld ?_ ?_
                rotate_left
                · rintro w' ⟨s0, s1, s2, s3, s4, s5, s6, s7⟩
                  go_simp
                  with_reducible rfl
                rotate_left
                · simp only [Act.put, List.setIfInBounds_toArray, List.set_cons_zero, List.set_cons_succ, i64_w, i32_w]
                  rfl
                refine pure_ (i := 6) (N := some 44) (v := ?_) (a' := ?_) #[true, true, true, true, true, true, true, false, false, false, false, false, false, false, false, false, false, false, false, false, false, false, false, false, false, false, false, false, false, false, false, false, false, false, false, false, false, false, false, false, false, false, false, false, false, false, false, false, false, false, false, false, false, false, false, false, false] rfl rfl (any_of HT_.out (by kernel_rfl)) (fun _ _ _ h => h) (Or.inl ⟨by rfl, ?_⟩) ?_ ?_
                rotate_left
                · intro w'
                  go_simp
                  with_reducible rfl
                rotate_left
                · simp only [Act.put, List.setIfInBounds_toArray, List.set_cons_zero, List.set_cons_succ, i64_w, i32_w]
                  rfl
                refine pure_ (i := 7) (N := some 45) (v := ?_) (a' := ?_) #[true, true, true, true, true, true, true, true, false, false, false, false, false, false, false, false, false, false, false, false, false, false, false, false, false, false, false, false, false, false, false, false, false, false, false, false, false, false, false, false, false, false, false, false, false, false, false, false, false, false, false, false, false, false, false, false, false] rfl rfl (any_of HT_.out (by kernel_rfl)) (fun _ _ _ h => h) (Or.inl ⟨by rfl, ?_⟩) ?_ ?_
                rotate_left
                · intro w'
                  go_simp
                  with_reducible rfl
                rotate_left
                · simp only [Act.put, List.setIfInBounds_toArray, List.set_cons_zero, List.set_cons_succ, i64_w, i32_w]
                  rfl
                refine pure_ (i := 8) (N := some 46) (v := ?_) (a' := ?_) #[true, true, true, true, true, true, true, true, true, false, false, false, false, false, false, false, false, false, false, false, false, false, false, false, false, false, false, false, false, false, false, false, false, false, false, false, false, false, false, false, false, false, false, false, false, false, false, false, false, false, false, false, false, false, false, false, false] rfl rfl (any_of HT_.out (by kernel_rfl)) (fun _ _ _ h => h) (Or.inl ⟨by rfl, ?_⟩) ?_ ?_
                rotate_left
                · intro w'
                  go_simp
                  with_reducible rfl
                rotate_left
                · simp only [Act.put, List.setIfInBounds_toArray, List.set_cons_zero, List.set_cons_succ, i64_w, i32_w]
                  rfl
                refine pure_ (i := 9) (N := some 47) (v := ?_) (a' := ?_) #[true, true, true, true, true, true, true, true, true, true, false, false, false, false, false, false, false, false, false, false, false, false, false, false, false, false, false, false, false, false, false, false, false, false, false, false, false, false, false, false, false, false, false, false, false, false, false, false, false, false, false, false, false, false, false, false, false] rfl rfl (any_of HT_.out (by kernel_rfl)) (fun _ _ _ h => h) (Or.inl ⟨by rfl, ?_⟩) ?_ ?_
                rotate_left
                · intro w'
                  go_simp
                  with_reducible rfl
                rotate_left
                · simp only [Act.put, List.setIfInBounds_toArray, List.set_cons_zero, List.set_cons_succ, i64_w, i32_w]
                  rfl
                refine pure_ (i := 11) (N := some 49) (v := ?_) (a' := ?_) #[true, true, true, true, true, true, true, true, true, true, false, true, false, false, false, false, false, false, false, false, false, false, false, false, false, false, false, false, false, false, false, false, false, false, false, false, false, false, false, false, false, false, false, false, false, false, false, false, false, false, false, false, false, false, false, false, false] rfl rfl (any_of HT_.out (by kernel_rfl)) (fun _ _ _ h => h) (Or.inl ⟨by rfl, ?_⟩) ?_ ?_
                rotate_left
                · intro w'
                  go_simp
                  with_reducible rfl
                rotate_left
                · simp only [Act.put, List.setIfInBounds_toArray, List.set_cons_zero, List.set_cons_succ, i64_w, i32_w]
                  rfl
                refine take_ (i := 10) (N := some 48) (v := ?_) (a' := ?_) #[true, true, true, true, true, true, true, true, true, true, true, true, false, false, false, false, false, false, false, false, false, false, false, false, false, false, false, false, false, false, false, false, false, false, false, false, false, false, false, false, false, false, false, false, false, false, false, false, false, false, false, false, false, false, false, false, false] rfl rfl (take_ofW HT_.out HW_.out (by kernel_rfl)) (fun _ _ _ h => h) (Or.inl ⟨by rfl, ?_⟩) hHeld ?_ ?_
                rotate_left
                · rintro w' ⟨s0, s1, s2, s3, s4, s5, s6, s7⟩
                  go_simp
                  with_reducible rfl
                rotate_left
                · simp only [Act.put, List.setIfInBounds_toArray, List.set_cons_zero, List.set_cons_succ, i64_w, i32_w]
                  rfl
                refine take_ (i := 12) (N := some 50) (v := ?_) (a' := ?_) #[true, true, true, true, true, true, true, true, true, true, true, true, true, false, false, false, false, false, false, false, false, false, false, false, false, false, false, false, false, false, false, false, false, false, false, false, false, false, false, false, false, false, false, false, false, false, false, false, false, false, false, false, false, false, false, false, false] rfl rfl (take_ofW HT_.out HW_.out (by kernel_rfl)) (fun _ _ _ h => h) (Or.inl ⟨by rfl, ?_⟩) hHeld ?_ ?_
                rotate_left
                · rintro w' ⟨s0, s1, s2, s3, s4, s5, s6, s7⟩
                  go_simp
                  with_reducible rfl
                rotate_left
                · simp only [Act.put, List.setIfInBounds_toArray, List.set_cons_zero, List.set_cons_succ, i64_w, i32_w]
                  rfl
                refine pure_ (i := 13) (N := some 51) (v := ?_) (a' := ?_) #[true, true, true, true, true, true, true, true, true, true, true, true, true, true, false, false, false, false, false, false, false, false, false, false, false, false, false, false, false, false, false, false, false, false, false, false, false, false, false, false, false, false, false, false, false, false, false, false, false, false, false, false, false, false, false, false, false] rfl rfl (any_of HT_.out (by kernel_rfl)) (fun _ _ _ h => h) (Or.inl ⟨by rfl, ?_⟩) ?_ ?_
                rotate_left
                · intro w'
                  go_simp
                  with_reducible rfl
                rotate_left
                · simp only [Act.put, List.setIfInBounds_toArray, List.set_cons_zero, List.set_cons_succ, i64_w, i32_w]
                  rfl
                refine pure_ (i := 14) (N := some 52) (v := ?_) (a' := ?_) #[true, true, true, true, true, true, true, true, true, true, true, true, true, true, true, false, false, false, false, false, false, false, false, false, false, false, false, false, false, false, false, false, false, false, false, false, false, false, false, false, false, false, false, false, false, false, false, false, false, false, false, false, false, false, false, false, false] rfl rfl (any_of HT_.out (by kernel_rfl)) (fun _ _ _ h => h) (Or.inl ⟨by rfl, ?_⟩) ?_ ?_
                rotate_left
                · intro w'
                  go_simp
                  with_reducible rfl
                rotate_left
                · simp only [Act.put, List.setIfInBounds_toArray, List.set_cons_zero, List.set_cons_succ, i64_w, i32_w]
                  rfl
                refine pure_ (i := 15) (N := some 53) (v := ?_) (a' := ?_) #[true, true, true, true, true, true, true, true, true, true, true, true, true, true, true, true, false, false, false, false, false, false, false, false, false, false, false, false, false, false, false, false, false, false, false, false, false, false, false, false, false, false, false, false, false, false, false, false, false, false, false, false, false, false, false, false, false] rfl rfl (any_of HT_.out (by kernel_rfl)) (fun _ _ _ h => h) (Or.inl ⟨by rfl, ?_⟩) ?_ ?_
                rotate_left
                · intro w'
                  go_simp
                  with_reducible rfl
                rotate_left
                · simp only [Act.put, List.setIfInBounds_toArray, List.set_cons_zero, List.set_cons_succ, i64_w, i32_w]
                  rfl
                refine pure_ (i := 16) (N := some 54) (v := ?_) (a' := ?_) #[true, true, true, true, true, true, true, true, true, true, true, true, true, true, true, true, true, false, false, false, false, false, false, false, false, false, false, false, false, false, false, false, false, false, false, false, false, false, false, false, false, false, false, false, false, false, false, false, false, false, false, false, false, false, false, false, false] rfl rfl (any_of HT_.out (by kernel_rfl)) (fun _ _ _ h => h) (Or.inl ⟨by rfl, ?_⟩) ?_ ?_
                rotate_left
                · intro w'
                  go_simp
                  with_reducible rfl
                rotate_left
                · simp only [Act.put, List.setIfInBounds_toArray, List.set_cons_zero, List.set_cons_succ, i64_w, i32_w]
                  rfl
                refine pure_ (i := 18) (N := some 56) (v := ?_) (a' := ?_) #[true, true, true, true, true, true, true, true, true, true, true, true, true, true, true, true, true, false, true, false, false, false, false, false, false, false, false, false, false, false, false, false, false, false, false, false, false, false, false, false, false, false, false, false, false, false, false, false, false, false, false, false, false, false, false, false, false] rfl rfl (any_of HT_.out (by kernel_rfl)) (fun _ _ _ h => h) (Or.inl ⟨by rfl, ?_⟩) ?_ ?_
                rotate_left
                · intro w'
                  go_simp
                  with_reducible rfl
                rotate_left
                · simp only [Act.put, List.setIfInBounds_toArray, List.set_cons_zero, List.set_cons_succ, i64_w, i32_w]
                  rfl
                refine take_ (i := 17) (N := some 55) (v := ?_) (a' := ?_) #[true, true, true, true, true, true, true, true, true, true, true, true, true, true, true, true, true, true, true, false, false, false, false, false, false, false, false, false, false, false, false, false, false, false, false, false, false, false, false, false, false, false, false, false, false, false, false, false, false, false, false, false, false, false, false, false, false] rfl rfl (take_ofW HT_.out HW_.out (by kernel_rfl)) (fun _ _ _ h => h) (Or.inl ⟨by rfl, ?_⟩) hHeld ?_ ?_
                rotate_left
                · rintro w' ⟨s0, s1, s2, s3, s4, s5, s6, s7⟩
                  go_simp
                  with_reducible rfl
                rotate_left
                · simp only [Act.put, List.setIfInBounds_toArray, List.set_cons_zero, List.set_cons_succ, i64_w, i32_w]
                  rfl
                refine take_ (i := 19) (N := some 57) (v := ?_) (a' := ?_) #[true, true, true, true, true, true, true, true, true, true, true, true, true, true, true, true, true, true, true, true, false, false, false, false, false, false, false, false, false, false, false, false, false, false, false, false, false, false, false, false, false, false, false, false, false, false, false, false, false, false, false, false, false, false, false, false, false] rfl rfl (take_ofW HT_.out HW_.out (by kernel_rfl)) (fun _ _ _ h => h) (Or.inl ⟨by rfl, ?_⟩) hHeld ?_ ?_
                rotate_left
                · rintro w' ⟨s0, s1, s2, s3, s4, s5, s6, s7⟩
                  go_simp
                  with_reducible rfl
                rotate_left
                · simp only [Act.put, List.setIfInBounds_toArray, List.set_cons_zero, List.set_cons_succ, i64_w, i32_w]
                  rfl
                refine pure_ (i := 20) (N := some 58) (v := ?_) (a' := ?_) #[true, true, true, true, true, true, true, true, true, true, true, true, true, true, true, true, true, true, true, true, true, false, false, false, false, false, false, false, false, false, false, false, false, false, false, false, false, false, false, false, false, false, false, false, false, false, false, false, false, false, false, false, false, false, false, false, false] rfl rfl (any_of HT_.out (by kernel_rfl)) (fun _ _ _ h => h) (Or.inl ⟨by rfl, ?_⟩) ?_ ?_
                rotate_left
                · intro w'
                  go_simp
                  with_reducible rfl
                rotate_left
                · simp only [Act.put, List.setIfInBounds_toArray, List.set_cons_zero, List.set_cons_succ, i64_w, i32_w]
                  rfl
                refine pure_ (i := 21) (N := some 59) (v := ?_) (a' := ?_) #[true, true, true, true, true, true, true, true, true, true, true, true, true, true, true, true, true, true, true, true, true, true, false, false, false, false, false, false, false, false, false, false, false, false, false, false, false, false, false, false, false, false, false, false, false, false, false, false, false, false, false, false, false, false, false, false, false] rfl rfl (any_of HT_.out (by kernel_rfl)) (fun _ _ _ h => h) (Or.inl ⟨by rfl, ?_⟩) ?_ ?_
                rotate_left
                · intro w'
                  go_simp
                  with_reducible rfl
                rotate_left
                · simp only [Act.put, List.setIfInBounds_toArray, List.set_cons_zero, List.set_cons_succ, i64_w, i32_w]
                  rfl
                refine pure_ (i := 22) (N := some 60) (v := ?_) (a' := ?_) #[true, true, true, true, true, true, true, true, true, true, true, true, true, true, true, true, true, true, true, true, true, true, true, false, false, false, false, false, false, false, false, false, false, false, false, false, false, false, false, false, false, false, false, false, false, false, false, false, false, false, false, false, false, false, false, false, false] rfl rfl (any_of HT_.out (by kernel_rfl)) (fun _ _ _ h => h) (Or.inl ⟨by rfl, ?_⟩) ?_ ?_
                rotate_left
                · intro w'
                  go_simp
                  with_reducible rfl
                rotate_left
                · simp only [Act.put, List.setIfInBounds_toArray, List.set_cons_zero, List.set_cons_succ, i64_w, i32_w]
                  rfl
                refine pure_ (i := 24) (N := some 62) (v := ?_) (a' := ?_) #[true, true, true, true, true, true, true, true, true, true, true, true, true, true, true, true, true, true, true, true, true, true, true, false, true, false, false, false, false, false, false, false, false, false, false, false, false, false, false, false, false, false, false, false, false, false, false, false, false, false, false, false, false, false, false, false, false] rfl rfl (any_of HT_.out (by kernel_rfl)) (fun _ _ _ h => h) (Or.inl ⟨by rfl, ?_⟩) ?_ ?_
                rotate_left
                · intro w'
                  go_simp
                  with_reducible rfl
                rotate_left
                · simp only [Act.put, List.setIfInBounds_toArray, List.set_cons_zero, List.set_cons_succ, i64_w, i32_w]
                  rfl
                refine pure_ (i := 26) (N := some 64) (v := ?_) (a' := ?_) #[true, true, true, true, true, true, true, true, true, true, true, true, true, true, true, true, true, true, true, true, true, true, true, false, true, false, true, false, false, false, false, false, false, false, false, false, false, false, false, false, false, false, false, false, false, false, false, false, false, false, false, false, false, false, false, false, false] rfl rfl (any_of HT_.out (by kernel_rfl)) (fun _ _ _ h => h) (Or.inl ⟨by rfl, ?_⟩) ?_ ?_
                rotate_left
                · intro w'
                  go_simp
                  with_reducible rfl
                rotate_left
                · simp only [Act.put, List.setIfInBounds_toArray, List.set_cons_zero, List.set_cons_succ, i64_w, i32_w]
                  rfl
                refine pure_ (i := 27) (N := some 65) (v := ?_) (a' := ?_) #[true, true, true, true, true, true, true, true, true, true, true, true, true, true, true, true, true, true, true, true, true, true, true, false, true, false, true, true, false, false, false, false, false, false, false, false, false, false, false, false, false, false, false, false, false, false, false, false, false, false, false, false, false, false, false, false, false] rfl rfl (any_of HT_.out (by kernel_rfl)) (fun _ _ _ h => h) (Or.inl ⟨by rfl, ?_⟩) ?_ ?_
                rotate_left
                · intro w'
                  go_simp
                  with_reducible rfl
                rotate_left
                · simp only [Act.put, List.setIfInBounds_toArray, List.set_cons_zero, List.set_cons_succ, i64_w, i32_w]
                  rfl
                refine pure_ (i := 30) (N := some 68) (v := ?_) (a' := ?_) #[true, true, true, true, true, true, true, true, true, true, true, true, true, true, true, true, true, true, true, true, true, true, true, false, true, false, true, true, false, false, true, false, false, false, false, false, false, false, false, false, false, false, false, false, false, false, false, false, false, false, false, false, false, false, false, false, false] rfl rfl (any_of HT_.out (by kernel_rfl)) (fun _ _ _ h => h) (Or.inl ⟨by rfl, ?_⟩) ?_ ?_
                rotate_left
                · intro w'
                  go_simp
                  with_reducible rfl
                rotate_left
                · simp only [Act.put, List.setIfInBounds_toArray, List.set_cons_zero, List.set_cons_succ, i64_w, i32_w]
                  rfl
                refine take_ (i := 23) (N := some 61) (v := ?_) (a' := ?_) #[true, true, true, true, true, true, true, true, true, true, true, true, true, true, true, true, true, true, true, true, true, true, true, true, true, false, true, true, false, false, true, false, false, false, false, false, false, false, false, false, false, false, false, false, false, false, false, false, false, false, false, false, false, false, false, false, false] rfl rfl (take_ofW HT_.out HW_.out (by kernel_rfl)) (fun _ _ _ h => h) (Or.inl ⟨by rfl, ?_⟩) hHeld ?_ ?_
                rotate_left
                · rintro w' ⟨s0, s1, s2, s3, s4, s5, s6, s7⟩
                  go_simp
                  with_reducible rfl
                rotate_left
                · simp only [Act.put, List.setIfInBounds_toArray, List.set_cons_zero, List.set_cons_succ, i64_w, i32_w]
                  rfl
                refine take_ (i := 31) (N := some 69) (v := ?_) (a' := ?_) #[true, true, true, true, true, true, true, true, true, true, true, true, true, true, true, true, true, true, true, true, true, true, true, true, true, false, true, true, false, false, true, true, false, false, false, false, false, false, false, false, false, false, false, false, false, false, false, false, false, false, false, false, false, false, false, false, false] rfl rfl (take_ofW HT_.out HW_.out (by kernel_rfl)) (fun _ _ _ h => h) (Or.inl ⟨by rfl, ?_⟩) hHeld ?_ ?_
                rotate_left
                · rintro w' ⟨s0, s1, s2, s3, s4, s5, s6, s7⟩
                  go_simp
                  with_reducible rfl
                rotate_left
                · simp only [Act.put, List.setIfInBounds_toArray, List.set_cons_zero, List.set_cons_succ, i64_w, i32_w]
                  rfl
                refine one_ (i := 25) (N := some 63) #[true, true, true, true, true, true, true, true, true, true, true, true, true, true, true, true, true, true, true, true, true, true, true, true, true, true, true, true, false, false, true, true, false, false, false, false, false, false, false, false, false, false, false, false, false, false, false, false, false, false, false, false, false, false, false, false, false] rfl rfl (one_of HT_.out (by kernel_rfl)) (by decide) (fun K hK => ?_)
                refine goes_ Try.func19 (by kernel_rfl) rfl #[.agg #[.complex .f64 t140.re t140.im, .int .i64 t141], .int .i64 (Go.bits .and .i64 a1 65535)] (by rfl) rfl rfl (by (try simp only [List.map_toArray, List.map_cons, List.map_nil]); first | done | rfl | (simp only [List.length_drop, List.length_take]; rfl)) ?_
                with_reducible refine (drift_Drift_Shift.calls t140 t141 (Go.bits .and .i64 a1 65535) t163 t164 _ A17.out).mono ?_
                rintro e w53 ⟨rfl, hb⟩
                refine ⟨_, rfl, ?_⟩
                have n0_ := Aside0.mk (Kd.V_below (by (with_reducible repeat (first | apply Kd.V_alloc | apply Kd.V_drewN | apply Kd.V_drew)); exact HO144.out) hb)
                have n1_ := Aside0.mk (blk_below (g := gb145) (o := .cells #[.complex .f64 t140.re t140.im, .int .i64 t141] 26 (0, 0)) (by (with_reducible repeat (first | refine blk_drewN ?_ _ | refine blk_drew ?_ | refine blk_alloc ?_ _)); exact BK145.out) hb)
                have n2_ := Aside0.mk (blk_below (g := gb150) (o := .cells #[.complex .f64 t148.re t148.im, .int .i64 t149] 26 (0, 0)) (by (with_reducible repeat (first | refine blk_drewN ?_ _ | refine blk_drew ?_ | refine blk_alloc ?_ _)); exact BK150.out) hb)
                have n3_ := Aside0.mk (blk_below (g := gb153) (o := .cells #[.complex .f64 t151.re t151.im, .int .i64 t152] 26 (0, 0)) (by (with_reducible repeat (first | refine blk_drewN ?_ _ | refine blk_drew ?_ | refine blk_alloc ?_ _)); exact BK153.out) hb)
                have n4_ := Aside0.mk (blk_below (g := gb162) (o := .cells #[.complex .f64 t160.re t160.im, .int .i64 t161] 26 (0, 0)) (by (with_reducible repeat (first | refine blk_drewN ?_ _ | refine blk_drew ?_ | refine blk_alloc ?_ _)); exact BK162.out) hb)
                have n5_ := Aside0.mk (below_step (by repeat (first | (with_reducible first | exact HB.out | apply below_alloc | apply pw_below_drewN | apply below_drew1 | refine below_set ?_ GE145.out | refine below_set ?_ GE150.out | refine below_set ?_ GE153.out | refine below_set ?_ GE162.out) | exact HB.out)) hb)
                clear HO144
                clear BK145
                clear BK150
                clear BK153
                clear BK162
                clear HB
                have HO144 := n0_
                have BK145 := n1_
                have BK150 := n2_
                have BK153 := n3_
                have BK162 := n4_
                have HB := n5_
                clear n0_ n1_ n2_ n3_ n4_ n5_
                (try clear hb)
                (try clear hb2)
                (try clear hk)
                (try clear hi)
                refine hK.out _ _ ⟨(blk_cell BK150.out 0).trans rfl, (blk_cell BK150.out 1).trans rfl, (blk_cell BK153.out 0).trans rfl, (blk_cell BK153.out 1).trans rfl, (blk_cell BK162.out 0).trans rfl, (blk_cell BK162.out 1).trans rfl, (blk_cell BK145.out 0).trans rfl, (blk_cell BK145.out 1).trans rfl⟩ (fun hHeld => ?_)
                clear hK K
                refine norm_ (a' := ?_) ?_ ?_
                rotate_left
                · show Act.put _ (some 63) _ = _
                  simp only [Act.put, List.setIfInBounds_toArray, List.set_cons_zero, List.set_cons_succ, i64_w, i32_w]
                  rfl
                refine one_ (i := 28) (N := some 66) #[true, true, true, true, true, true, true, true, true, true, true, true, true, true, true, true, true, true, true, true, true, true, true, true, true, true, true, true, true, false, true, true, false, false, false, false, false, false, false, false, false, false, false, false, false, false, false, false, false, false, false, false, false, false, false, false, false] rfl rfl (one_of HT_.out (by kernel_rfl)) (by decide) (fun K hK => ?_)
                refine goes_ Try.func19 (by kernel_rfl) rfl #[.agg #[.complex .f64 t163.re t163.im, .int .i64 t164], .int .i64 (wrap64 (-(Go.bits .and .i64 a1 65535)))] (by rfl) rfl rfl (by (try simp only [List.map_toArray, List.map_cons, List.map_nil]); first | done | rfl | (simp only [List.length_drop, List.length_take]; rfl)) ?_
                with_reducible refine (drift_Drift_Shift.calls t163 t164 (wrap64 (-(Go.bits .and .i64 a1 65535))) t165 t166 _ A18.out).mono ?_
                rintro e w54 ⟨rfl, hb⟩
                refine ⟨_, rfl, ?_⟩
                have n0_ := Aside0.mk (Kd.V_below (by (with_reducible repeat (first | apply Kd.V_alloc | apply Kd.V_drewN | apply Kd.V_drew)); exact HO144.out) hb)
                have n1_ := Aside0.mk (blk_below (g := gb145) (o := .cells #[.complex .f64 t140.re t140.im, .int .i64 t141] 26 (0, 0)) (by (with_reducible repeat (first | refine blk_drewN ?_ _ | refine blk_drew ?_ | refine blk_alloc ?_ _)); exact BK145.out) hb)
                have n2_ := Aside0.mk (blk_below (g := gb150) (o := .cells #[.complex .f64 t148.re t148.im, .int .i64 t149] 26 (0, 0)) (by (with_reducible repeat (first | refine blk_drewN ?_ _ | refine blk_drew ?_ | refine blk_alloc ?_ _)); exact BK150.out) hb)
                have n3_ := Aside0.mk (blk_below (g := gb153) (o := .cells #[.complex .f64 t151.re t151.im, .int .i64 t152] 26 (0, 0)) (by (with_reducible repeat (first | refine blk_drewN ?_ _ | refine blk_drew ?_ | refine blk_alloc ?_ _)); exact BK153.out) hb)
                have n4_ := Aside0.mk (blk_below (g := gb162) (o := .cells #[.complex .f64 t160.re t160.im, .int .i64 t161] 26 (0, 0)) (by (with_reducible repeat (first | refine blk_drewN ?_ _ | refine blk_drew ?_ | refine blk_alloc ?_ _)); exact BK162.out) hb)
                have n5_ := Aside0.mk (below_step (by repeat (first | (with_reducible first | exact HB.out | apply below_alloc | apply pw_below_drewN | apply below_drew1 | refine below_set ?_ GE145.out | refine below_set ?_ GE150.out | refine below_set ?_ GE153.out | refine below_set ?_ GE162.out) | exact HB.out)) hb)
                clear HO144
                clear BK145
                clear BK150
                clear BK153
                clear BK162
                clear HB
                have HO144 := n0_
                have BK145 := n1_
                have BK150 := n2_
                have BK153 := n3_
                have BK162 := n4_
                have HB := n5_
                clear n0_ n1_ n2_ n3_ n4_ n5_
                (try clear hb)
                (try clear hb2)
                (try clear hk)
                (try clear hi)
                refine hK.out _ _ ⟨(blk_cell BK150.out 0).trans rfl, (blk_cell BK150.out 1).trans rfl, (blk_cell BK153.out 0).trans rfl, (blk_cell BK153.out 1).trans rfl, (blk_cell BK162.out 0).trans rfl, (blk_cell BK162.out 1).trans rfl, (blk_cell BK145.out 0).trans rfl, (blk_cell BK145.out 1).trans rfl⟩ (fun hHeld => ?_)
                clear hK K
                refine norm_ (a' := ?_) ?_ ?_
                rotate_left
                · show Act.put _ (some 66) _ = _
                  simp only [Act.put, List.setIfInBounds_toArray, List.set_cons_zero, List.set_cons_succ, i64_w, i32_w]
                  rfl
                refine pure_ (i := 29) (N := some 67) (v := ?_) (a' := ?_) #[true, true, true, true, true, true, true, true, true, true, true, true, true, true, true, true, true, true, true, true, true, true, true, true, true, true, true, true, true, true, true, true, false, false, false, false, false, false, false, false, false, false, false, false, false, false, false, false, false, false, false, false, false, false, false, false, false] rfl rfl (any_of HT_.out (by kernel_rfl)) (fun _ _ _ h => h) (Or.inl ⟨by rfl, ?_⟩) ?_ ?_
                rotate_left
                · intro w'
                  go_simp
                  with_reducible rfl
                rotate_left
                · simp only [Act.put, List.setIfInBounds_toArray, List.set_cons_zero, List.set_cons_succ, i64_w, i32_w]
                  rfl
                refine pure_ (i := 32) (N := some 70) (v := ?_) (a' := ?_) #[true, true, true, true, true, true, true, true, true, true, true, true, true, true, true, true, true, true, true, true, true, true, true, true, true, true, true, true, true, true, true, true, true, false, false, false, false, false, false, false, false, false, false, false, false, false, false, false, false, false, false, false, false, false, false, false, false] rfl rfl (any_of HT_.out (by kernel_rfl)) (fun _ _ _ h => h) (Or.inl ⟨by rfl, ?_⟩) ?_ ?_
                rotate_left
                · intro w'
                  go_simp
                  with_reducible rfl
                rotate_left
                · simp only [Act.put, List.setIfInBounds_toArray, List.set_cons_zero, List.set_cons_succ, i64_w, i32_w]
                  rfl
                refine pure_ (i := 33) (N := some 71) (v := ?_) (a' := ?_) #[true, true, true, true, true, true, true, true, true, true, true, true, true, true, true, true, true, true, true, true, true, true, true, true, true, true, true, true, true, true, true, true, true, true, false, false, false, false, false, false, false, false, false, false, false, false, false, false, false, false, false, false, false, false, false, false, false] rfl rfl (any_of HT_.out (by kernel_rfl)) (fun _ _ _ h => h) (Or.inl ⟨by rfl, ?_⟩) ?_ ?_
                rotate_left
                · intro w'
                  go_simp
                  with_reducible rfl
                rotate_left
                · simp only [Act.put, List.setIfInBounds_toArray, List.set_cons_zero, List.set_cons_succ, i64_w, i32_w]
                  rfl
                refine pure_ (i := 34) (N := some 72) (v := ?_) (a' := ?_) #[true, true, true, true, true, true, true, true, true, true, true, true, true, true, true, true, true, true, true, true, true, true, true, true, true, true, true, true, true, true, true, true, true, true, true, false, false, false, false, false, false, false, false, false, false, false, false, false, false, false, false, false, false, false, false, false, false] rfl rfl (any_of HT_.out (by kernel_rfl)) (fun _ _ _ h => h) (Or.inl ⟨by rfl, ?_⟩) ?_ ?_
                rotate_left
                · intro w'
                  go_simp
                  with_reducible rfl
                rotate_left
                · simp only [Act.put, List.setIfInBounds_toArray, List.set_cons_zero, List.set_cons_succ, i64_w, i32_w]
                  rfl
                refine pure_ (i := 36) (N := some 74) (v := ?_) (a' := ?_) #[true, true, true, true, true, true, true, true, true, true, true, true, true, true, true, true, true, true, true, true, true, true, true, true, true, true, true, true, true, true, true, true, true, true, true, false, true, false, false, false, false, false, false, false, false, false, false, false, false, false, false, false, false, false, false, false, false] rfl rfl (any_of HT_.out (by kernel_rfl)) (fun _ _ _ h => h) (Or.inl ⟨by rfl, ?_⟩) ?_ ?_
                rotate_left
                · intro w'
                  go_simp
                  with_reducible rfl
                rotate_left
                · simp only [Act.put, List.setIfInBounds_toArray, List.set_cons_zero, List.set_cons_succ, i64_w, i32_w]
                  rfl
                refine pure_ (i := 37) (N := some 75) (v := ?_) (a' := ?_) #[true, true, true, true, true, true, true, true, true, true, true, true, true, true, true, true, true, true, true, true, true, true, true, true, true, true, true, true, true, true, true, true, true, true, true, false, true, true, false, false, false, false, false, false, false, false, false, false, false, false, false, false, false, false, false, false, false] rfl rfl (any_of HT_.out (by kernel_rfl)) (fun _ _ _ h => h) (Or.inl ⟨by rfl, ?_⟩) ?_ ?_
                rotate_left
                · intro w'
                  go_simp
                  with_reducible rfl
                rotate_left
                · simp only [Act.put, List.setIfInBounds_toArray, List.set_cons_zero, List.set_cons_succ, i64_w, i32_w]
                  rfl
                refine pure_ (i := 40) (N := some 78) (v := ?_) (a' := ?_) #[true, true, true, true, true, true, true, true, true, true, true, true, true, true, true, true, true, true, true, true, true, true, true, true, true, true, true, true, true, true, true, true, true, true, true, false, true, true, false, false, true, false, false, false, false, false, false, false, false, false, false, false, false, false, false, false, false] rfl rfl (any_of HT_.out (by kernel_rfl)) (fun _ _ _ h => h) (Or.inl ⟨by rfl, ?_⟩) ?_ ?_
                rotate_left
                · intro w'
                  go_simp
                  with_reducible rfl
                rotate_left
                · simp only [Act.put, List.setIfInBounds_toArray, List.set_cons_zero, List.set_cons_succ, i64_w, i32_w]
                  rfl
                refine take_ (i := 35) (N := some 73) (v := ?_) (a' := ?_) #[true, true, true, true, true, true, true, true, true, true, true, true, true, true, true, true, true, true, true, true, true, true, true, true, true, true, true, true, true, true, true, true, true, true, true, true, true, true, false, false, true, false, false, false, false, false, false, false, false, false, false, false, false, false, false, false, false] rfl rfl (take_ofW HT_.out HW_.out (by kernel_rfl)) (fun _ _ _ h => h) (Or.inl ⟨by rfl, ?_⟩) hHeld ?_ ?_
                rotate_left
                · rintro w' ⟨s0, s1, s2, s3, s4, s5, s6, s7⟩
                  go_simp
                  with_reducible rfl
                rotate_left
                · simp only [Act.put, List.setIfInBounds_toArray, List.set_cons_zero, List.set_cons_succ, i64_w, i32_w]
                  rfl
                refine take_ (i := 41) (N := some 79) (v := ?_) (a' := ?_) #[true, true, true, true, true, true, true, true, true, true, true, true, true, true, true, true, true, true, true, true, true, true, true, true, true, true, true, true, true, true, true, true, true, true, true, true, true, true, false, false, true, true, false, false, false, false, false, false, false, false, false, false, false, false, false, false, false] rfl rfl (take_ofW HT_.out HW_.out (by kernel_rfl)) (fun _ _ _ h => h) (Or.inl ⟨by rfl, ?_⟩) hHeld ?_ ?_
                rotate_left
                · rintro w' ⟨s0, s1, s2, s3, s4, s5, s6, s7⟩
                  go_simp
                  with_reducible rfl
                rotate_left
                · simp only [Act.put, List.setIfInBounds_toArray, List.set_cons_zero, List.set_cons_succ, i64_w, i32_w]
                  rfl
                refine one_ (i := 38) (N := some 76) #[true, true, true, true, true, true, true, true, true, true, true, true, true, true, true, true, true, true, true, true, true, true, true, true, true, true, true, true, true, true, true, true, true, true, true, true, true, true, true, false, true, true, false, false, false, false, false, false, false, false, false, false, false, false, false, false, false] rfl rfl (one_of HT_.out (by kernel_rfl)) (by decide) (fun K hK => ?_)
                refine goes_ Try.func19 (by kernel_rfl) rfl #[.agg #[.complex .f64 t140.re t140.im, .int .i64 t141], .int .i64 (wrap64 (4 * (Go.bits .and .i64 a1 65535)))] (by rfl) rfl rfl (by (try simp only [List.map_toArray, List.map_cons, List.map_nil]); first | done | rfl | (simp only [List.length_drop, List.length_take]; rfl)) ?_
                with_reducible refine (drift_Drift_Shift.calls t140 t141 (wrap64 (4 * (Go.bits .and .i64 a1 65535))) t167 t168 _ A20.out).mono ?_
                rintro e w55 ⟨rfl, hb⟩
                refine ⟨_, rfl, ?_⟩
                have n0_ := Aside0.mk (Kd.V_below (by (with_reducible repeat (first | apply Kd.V_alloc | apply Kd.V_drewN | apply Kd.V_drew)); exact HO144.out) hb)
                have n1_ := Aside0.mk (blk_below (g := gb145) (o := .cells #[.complex .f64 t140.re t140.im, .int .i64 t141] 26 (0, 0)) (by (with_reducible repeat (first | refine blk_drewN ?_ _ | refine blk_drew ?_ | refine blk_alloc ?_ _)); exact BK145.out) hb)
                have n2_ := Aside0.mk (blk_below (g := gb150) (o := .cells #[.complex .f64 t148.re t148.im, .int .i64 t149] 26 (0, 0)) (by (with_reducible repeat (first | refine blk_drewN ?_ _ | refine blk_drew ?_ | refine blk_alloc ?_ _)); exact BK150.out) hb)
                have n3_ := Aside0.mk (blk_below (g := gb153) (o := .cells #[.complex .f64 t151.re t151.im, .int .i64 t152] 26 (0, 0)) (by (with_reducible repeat (first | refine blk_drewN ?_ _ | refine blk_drew ?_ | refine blk_alloc ?_ _)); exact BK153.out) hb)
                have n4_ := Aside0.mk (blk_below (g := gb162) (o := .cells #[.complex .f64 t160.re t160.im, .int .i64 t161] 26 (0, 0)) (by (with_reducible repeat (first | refine blk_drewN ?_ _ | refine blk_drew ?_ | refine blk_alloc ?_ _)); exact BK162.out) hb)
                have n5_ := Aside0.mk (below_step (by repeat (first | (with_reducible first | exact HB.out | apply below_alloc | apply pw_below_drewN | apply below_drew1 | refine below_set ?_ GE145.out | refine below_set ?_ GE150.out | refine below_set ?_ GE153.out | refine below_set ?_ GE162.out) | exact HB.out)) hb)
                clear HO144
                clear BK145
                clear BK150
                clear BK153
                clear BK162
                clear HB
                have HO144 := n0_
                have BK145 := n1_
                have BK150 := n2_
                have BK153 := n3_
                have BK162 := n4_
                have HB := n5_
                clear n0_ n1_ n2_ n3_ n4_ n5_
                (try clear hb)
                (try clear hb2)
                (try clear hk)
                (try clear hi)
                refine hK.out _ _ ⟨(blk_cell BK150.out 0).trans rfl, (blk_cell BK150.out 1).trans rfl, (blk_cell BK153.out 0).trans rfl, (blk_cell BK153.out 1).trans rfl, (blk_cell BK162.out 0).trans rfl, (blk_cell BK162.out 1).trans rfl, (blk_cell BK145.out 0).trans rfl, (blk_cell BK145.out 1).trans rfl⟩ (fun hHeld => ?_)
                clear hK K
                refine norm_ (a' := ?_) ?_ ?_
                rotate_left
                · show Act.put _ (some 76) _ = _
                  simp only [Act.put, List.setIfInBounds_toArray, List.set_cons_zero, List.set_cons_succ, i64_w, i32_w]
                  rfl
                refine pure_ (i := 39) (N := some 77) (v := ?_) (a' := ?_) #[true, true, true, true, true, true, true, true, true, true, true, true, true, true, true, true, true, true, true, true, true, true, true, true, true, true, true, true, true, true, true, true, true, true, true, true, true, true, true, true, true, true, false, false, false, false, false, false, false, false, false, false, false, false, false, false, false] rfl rfl (any_of HT_.out (by kernel_rfl)) (fun _ _ _ h => h) (Or.inl ⟨by rfl, ?_⟩) ?_ ?_
                rotate_left
                · intro w'
                  go_simp
                  with_reducible rfl
                rotate_left
                · simp only [Act.put, List.setIfInBounds_toArray, List.set_cons_zero, List.set_cons_succ, i64_w, i32_w]
                  rfl
                refine pure_ (i := 42) (N := some 80) (v := ?_) (a' := ?_) #[true, true, true, true, true, true, true, true, true, true, true, true, true, true, true, true, true, true, true, true, true, true, true, true, true, true, true, true, true, true, true, true, true, true, true, true, true, true, true, true, true, true, true, false, false, false, false, false, false, false, false, false, false, false, false, false, false] rfl rfl (any_of HT_.out (by kernel_rfl)) (fun _ _ _ h => h) (Or.inl ⟨by rfl, ?_⟩) ?_ ?_
                rotate_left
                · intro w'
                  go_simp
                  with_reducible rfl
                rotate_left
                · simp only [Act.put, List.setIfInBounds_toArray, List.set_cons_zero, List.set_cons_succ, i64_w, i32_w]
                  rfl
                refine pure_ (i := 43) (N := some 81) (v := ?_) (a' := ?_) #[true, true, true, true, true, true, true, true, true, true, true, true, true, true, true, true, true, true, true, true, true, true, true, true, true, true, true, true, true, true, true, true, true, true, true, true, true, true, true, true, true, true, true, true, false, false, false, false, false, false, false, false, false, false, false, false, false] rfl rfl (any_of HT_.out (by kernel_rfl)) (fun _ _ _ h => h) (Or.inl ⟨by rfl, ?_⟩) ?_ ?_
                rotate_left
                · intro w'
                  go_simp
                  with_reducible rfl
                rotate_left
                · simp only [Act.put, List.setIfInBounds_toArray, List.set_cons_zero, List.set_cons_succ, i64_w, i32_w]
                  rfl
                refine pure_ (i := 44) (N := some 82) (v := ?_) (a' := ?_) #[true, true, true, true, true, true, true, true, true, true, true, true, true, true, true, true, true, true, true, true, true, true, true, true, true, true, true, true, true, true, true, true, true, true, true, true, true, true, true, true, true, true, true, true, true, false, false, false, false, false, false, false, false, false, false, false, false] rfl rfl (any_of HT_.out (by kernel_rfl)) (fun _ _ _ h => h) (Or.inl ⟨by rfl, ?_⟩) ?_ ?_
                rotate_left
                · intro w'
                  go_simp
                  with_reducible rfl
                rotate_left
                · simp only [Act.put, List.setIfInBounds_toArray, List.set_cons_zero, List.set_cons_succ, i64_w, i32_w]
                  rfl
                refine pure_ (i := 45) (N := some 83) (v := ?_) (a' := ?_) #[true, true, true, true, true, true, true, true, true, true, true, true, true, true, true, true, true, true, true, true, true, true, true, true, true, true, true, true, true, true, true, true, true, true, true, true, true, true, true, true, true, true, true, true, true, true, false, false, false, false, false, false, false, false, false, false, false] rfl rfl (any_of HT_.out (by kernel_rfl)) (fun _ _ _ h => h) (Or.inl ⟨by rfl, ?_⟩) ?_ ?_
                rotate_left
                · intro w'
                  go_simp
                  with_reducible rfl
                rotate_left
                · simp only [Act.put, List.setIfInBounds_toArray, List.set_cons_zero, List.set_cons_succ, i64_w, i32_w]
                  rfl
                refine pure_ (i := 47) (N := some 85) (v := ?_) (a' := ?_) #[true, true, true, true, true, true, true, true, true, true, true, true, true, true, true, true, true, true, true, true, true, true, true, true, true, true, true, true, true, true, true, true, true, true, true, true, true, true, true, true, true, true, true, true, true, true, false, true, false, false, false, false, false, false, false, false, false] rfl rfl (any_of HT_.out (by kernel_rfl)) (fun _ _ _ h => h) (Or.inl ⟨by rfl, ?_⟩) ?_ ?_
                rotate_left
                · intro w'
                  go_simp
                  with_reducible rfl
                rotate_left
                · simp only [Act.put, List.setIfInBounds_toArray, List.set_cons_zero, List.set_cons_succ, i64_w, i32_w]
                  rfl
                refine pure_ (i := 50) (N := some 88) (v := ?_) (a' := ?_) #[true, true, true, true, true, true, true, true, true, true, true, true, true, true, true, true, true, true, true, true, true, true, true, true, true, true, true, true, true, true, true, true, true, true, true, true, true, true, true, true, true, true, true, true, true, true, false, true, false, false, true, false, false, false, false, false, false] rfl rfl (any_of HT_.out (by kernel_rfl)) (fun _ _ _ h => h) (Or.inl ⟨by rfl, ?_⟩) ?_ ?_
                rotate_left
                · intro w'
                  go_simp
                  with_reducible rfl
                rotate_left
                · simp only [Act.put, List.setIfInBounds_toArray, List.set_cons_zero, List.set_cons_succ, i64_w, i32_w]
                  rfl
                refine pure_ (i := 51) (N := some 89) (v := ?_) (a' := ?_) #[true, true, true, true, true, true, true, true, true, true, true, true, true, true, true, true, true, true, true, true, true, true, true, true, true, true, true, true, true, true, true, true, true, true, true, true, true, true, true, true, true, true, true, true, true, true, false, true, false, false, true, true, false, false, false, false, false] rfl rfl (any_of HT_.out (by kernel_rfl)) (fun _ _ _ h => h) (Or.inl ⟨by rfl, ?_⟩) ?_ ?_
                rotate_left
                · intro w'
                  go_simp
                  with_reducible rfl
                rotate_left
                · simp only [Act.put, List.setIfInBounds_toArray, List.set_cons_zero, List.set_cons_succ, i64_w, i32_w]
                  rfl
                refine pure_ (i := 52) (N := some 90) (v := ?_) (a' := ?_) #[true, true, true, true, true, true, true, true, true, true, true, true, true, true, true, true, true, true, true, true, true, true, true, true, true, true, true, true, true, true, true, true, true, true, true, true, true, true, true, true, true, true, true, true, true, true, false, true, false, false, true, true, true, false, false, false, false] rfl rfl (any_of HT_.out (by kernel_rfl)) (fun _ _ _ h => h) (Or.inl ⟨by rfl, ?_⟩) ?_ ?_
                rotate_left
                · intro w'
                  go_simp
                  with_reducible rfl
                rotate_left
                · simp only [Act.put, List.setIfInBounds_toArray, List.set_cons_zero, List.set_cons_succ, i64_w, i32_w]
                  rfl
                refine one_ (i := 46) (N := some 84) #[true, true, true, true, true, true, true, true, true, true, true, true, true, true, true, true, true, true, true, true, true, true, true, true, true, true, true, true, true, true, true, true, true, true, true, true, true, true, true, true, true, true, true, true, true, true, true, true, false, false, true, true, true, false, false, false, false] rfl rfl (one_of HT_.out (by kernel_rfl)) (by decide) (fun K hK => ?_)
                refine goes_ Try.func16 (by kernel_rfl) rfl #[.int .i64 (Go.bits .and .i64 a1 65535)] (by rfl) rfl rfl (by (try simp only [List.map_toArray, List.map_cons, List.map_nil]); first | done | rfl | (simp only [List.length_drop, List.length_take]; rfl)) ?_
                with_reducible refine (drift_Turn.calls (Go.bits .and .i64 a1 65535) t169 _ A22.out).mono ?_
                rintro e w56 ⟨rfl, hb⟩
                refine ⟨_, rfl, ?_⟩
                have n0_ := Aside0.mk (Kd.V_below (by (with_reducible repeat (first | apply Kd.V_alloc | apply Kd.V_drewN | apply Kd.V_drew)); exact HO144.out) hb)
                have n1_ := Aside0.mk (blk_below (g := gb145) (o := .cells #[.complex .f64 t140.re t140.im, .int .i64 t141] 26 (0, 0)) (by (with_reducible repeat (first | refine blk_drewN ?_ _ | refine blk_drew ?_ | refine blk_alloc ?_ _)); exact BK145.out) hb)
                have n2_ := Aside0.mk (blk_below (g := gb150) (o := .cells #[.complex .f64 t148.re t148.im, .int .i64 t149] 26 (0, 0)) (by (with_reducible repeat (first | refine blk_drewN ?_ _ | refine blk_drew ?_ | refine blk_alloc ?_ _)); exact BK150.out) hb)
                have n3_ := Aside0.mk (blk_below (g := gb153) (o := .cells #[.complex .f64 t151.re t151.im, .int .i64 t152] 26 (0, 0)) (by (with_reducible repeat (first | refine blk_drewN ?_ _ | refine blk_drew ?_ | refine blk_alloc ?_ _)); exact BK153.out) hb)
                have n4_ := Aside0.mk (blk_below (g := gb162) (o := .cells #[.complex .f64 t160.re t160.im, .int .i64 t161] 26 (0, 0)) (by (with_reducible repeat (first | refine blk_drewN ?_ _ | refine blk_drew ?_ | refine blk_alloc ?_ _)); exact BK162.out) hb)
                have n5_ := Aside0.mk (below_step (by repeat (first | (with_reducible first | exact HB.out | apply below_alloc | apply pw_below_drewN | apply below_drew1 | refine below_set ?_ GE145.out | refine below_set ?_ GE150.out | refine below_set ?_ GE153.out | refine below_set ?_ GE162.out) | exact HB.out)) hb)
                clear HO144
                clear BK145
                clear BK150
                clear BK153
                clear BK162
                clear HB
                have HO144 := n0_
                have BK145 := n1_
                have BK150 := n2_
                have BK153 := n3_
                have BK162 := n4_
                have HB := n5_
                clear n0_ n1_ n2_ n3_ n4_ n5_
                (try clear hb)
                (try clear hb2)
                (try clear hk)
                (try clear hi)
                refine hK.out _ _ ⟨(blk_cell BK150.out 0).trans rfl, (blk_cell BK150.out 1).trans rfl, (blk_cell BK153.out 0).trans rfl, (blk_cell BK153.out 1).trans rfl, (blk_cell BK162.out 0).trans rfl, (blk_cell BK162.out 1).trans rfl, (blk_cell BK145.out 0).trans rfl, (blk_cell BK145.out 1).trans rfl⟩ (fun hHeld => ?_)
                clear hK K
                refine norm_ (a' := ?_) ?_ ?_
                rotate_left
                · show Act.put _ (some 84) _ = _
                  simp only [Act.put, List.setIfInBounds_toArray, List.set_cons_zero, List.set_cons_succ, i64_w, i32_w]
                  rfl
                refine one_ (i := 48) (N := some 86) #[true, true, true, true, true, true, true, true, true, true, true, true, true, true, true, true, true, true, true, true, true, true, true, true, true, true, true, true, true, true, true, true, true, true, true, true, true, true, true, true, true, true, true, true, true, true, true, true, true, false, true, true, true, false, false, false, false] rfl rfl (one_of HT_.out (by kernel_rfl)) (by decide) (fun K hK => ?_)
                refine goes_ Try.func16 (by kernel_rfl) rfl #[.int .i64 (Go.bits .and .i64 a2 65535)] (by rfl) rfl rfl (by (try simp only [List.map_toArray, List.map_cons, List.map_nil]); first | done | rfl | (simp only [List.length_drop, List.length_take]; rfl)) ?_
                with_reducible refine (drift_Turn.calls (Go.bits .and .i64 a2 65535) t170 _ A23.out).mono ?_
                rintro e w57 ⟨rfl, hb⟩
                refine ⟨_, rfl, ?_⟩
                have n0_ := Aside0.mk (Kd.V_below (by (with_reducible repeat (first | apply Kd.V_alloc | apply Kd.V_drewN | apply Kd.V_drew)); exact HO144.out) hb)
                have n1_ := Aside0.mk (blk_below (g := gb145) (o := .cells #[.complex .f64 t140.re t140.im, .int .i64 t141] 26 (0, 0)) (by (with_reducible repeat (first | refine blk_drewN ?_ _ | refine blk_drew ?_ | refine blk_alloc ?_ _)); exact BK145.out) hb)
                have n2_ := Aside0.mk (blk_below (g := gb150) (o := .cells #[.complex .f64 t148.re t148.im, .int .i64 t149] 26 (0, 0)) (by (with_reducible repeat (first | refine blk_drewN ?_ _ | refine blk_drew ?_ | refine blk_alloc ?_ _)); exact BK150.out) hb)
                have n3_ := Aside0.mk (blk_below (g := gb153) (o := .cells #[.complex .f64 t151.re t151.im, .int .i64 t152] 26 (0, 0)) (by (with_reducible repeat (first | refine blk_drewN ?_ _ | refine blk_drew ?_ | refine blk_alloc ?_ _)); exact BK153.out) hb)
                have n4_ := Aside0.mk (blk_below (g := gb162) (o := .cells #[.complex .f64 t160.re t160.im, .int .i64 t161] 26 (0, 0)) (by (with_reducible repeat (first | refine blk_drewN ?_ _ | refine blk_drew ?_ | refine blk_alloc ?_ _)); exact BK162.out) hb)
                have n5_ := Aside0.mk (below_step (by repeat (first | (with_reducible first | exact HB.out | apply below_alloc | apply pw_below_drewN | apply below_drew1 | refine below_set ?_ GE145.out | refine below_set ?_ GE150.out | refine below_set ?_ GE153.out | refine below_set ?_ GE162.out) | exact HB.out)) hb)
                clear HO144
                clear BK145
                clear BK150
                clear BK153
                clear BK162
                clear HB
                have HO144 := n0_
                have BK145 := n1_
                have BK150 := n2_
                have BK153 := n3_
                have BK162 := n4_
                have HB := n5_
                clear n0_ n1_ n2_ n3_ n4_ n5_
                (try clear hb)
                (try clear hb2)
                (try clear hk)
                (try clear hi)
                refine hK.out _ _ ⟨(blk_cell BK150.out 0).trans rfl, (blk_cell BK150.out 1).trans rfl, (blk_cell BK153.out 0).trans rfl, (blk_cell BK153.out 1).trans rfl, (blk_cell BK162.out 0).trans rfl, (blk_cell BK162.out 1).trans rfl, (blk_cell BK145.out 0).trans rfl, (blk_cell BK145.out 1).trans rfl⟩ (fun hHeld => ?_)
                clear hK K
                refine norm_ (a' := ?_) ?_ ?_
                rotate_left
                · show Act.put _ (some 86) _ = _
                  simp only [Act.put, List.setIfInBounds_toArray, List.set_cons_zero, List.set_cons_succ, i64_w, i32_w]
                  rfl
                refine pure_ (i := 49) (N := some 87) (v := ?_) (a' := ?_) #[true, true, true, true, true, true, true, true, true, true, true, true, true, true, true, true, true, true, true, true, true, true, true, true, true, true, true, true, true, true, true, true, true, true, true, true, true, true, true, true, true, true, true, true, true, true, true, true, true, true, true, true, true, false, false, false, false] rfl rfl (any_of HT_.out (by kernel_rfl)) (fun _ _ _ h => h) (Or.inl ⟨by rfl, ?_⟩) ?_ ?_
                rotate_left
                · intro w'
                  go_simp
                  with_reducible rfl
                rotate_left
                · simp only [Act.put, List.setIfInBounds_toArray, List.set_cons_zero, List.set_cons_succ, i64_w, i32_w]
                  rfl
                refine one_ (i := 53) (N := some 91) #[true, true, true, true, true, true, true, true, true, true, true, true, true, true, true, true, true, true, true, true, true, true, true, true, true, true, true, true, true, true, true, true, true, true, true, true, true, true, true, true, true, true, true, true, true, true, true, true, true, true, true, true, true, true, false, false, false] rfl rfl (one_of HT_.out (by kernel_rfl)) (by decide) (fun K hK => ?_)
                refine goes_ Try.func16 (by kernel_rfl) rfl #[.int .i64 (wrap64 ((Go.bits .and .i64 a1 65535) + (Go.bits .and .i64 a2 65535)))] (by rfl) rfl rfl (by (try simp only [List.map_toArray, List.map_cons, List.map_nil]); first | done | rfl | (simp only [List.length_drop, List.length_take]; rfl)) ?_
                with_reducible refine (drift_Turn.calls (wrap64 ((Go.bits .and .i64 a1 65535) + (Go.bits .and .i64 a2 65535))) t171 _ A25.out).mono ?_
                rintro e w58 ⟨rfl, hb⟩
                refine ⟨_, rfl, ?_⟩
                have n0_ := Aside0.mk (Kd.V_below (by (with_reducible repeat (first | apply Kd.V_alloc | apply Kd.V_drewN | apply Kd.V_drew)); exact HO144.out) hb)
                have n1_ := Aside0.mk (blk_below (g := gb145) (o := .cells #[.complex .f64 t140.re t140.im, .int .i64 t141] 26 (0, 0)) (by (with_reducible repeat (first | refine blk_drewN ?_ _ | refine blk_drew ?_ | refine blk_alloc ?_ _)); exact BK145.out) hb)
                have n2_ := Aside0.mk (blk_below (g := gb150) (o := .cells #[.complex .f64 t148.re t148.im, .int .i64 t149] 26 (0, 0)) (by (with_reducible repeat (first | refine blk_drewN ?_ _ | refine blk_drew ?_ | refine blk_alloc ?_ _)); exact BK150.out) hb)
                have n3_ := Aside0.mk (blk_below (g := gb153) (o := .cells #[.complex .f64 t151.re t151.im, .int .i64 t152] 26 (0, 0)) (by (with_reducible repeat (first | refine blk_drewN ?_ _ | refine blk_drew ?_ | refine blk_alloc ?_ _)); exact BK153.out) hb)
                have n4_ := Aside0.mk (blk_below (g := gb162) (o := .cells #[.complex .f64 t160.re t160.im, .int .i64 t161] 26 (0, 0)) (by (with_reducible repeat (first | refine blk_drewN ?_ _ | refine blk_drew ?_ | refine blk_alloc ?_ _)); exact BK162.out) hb)
                have n5_ := Aside0.mk (below_step (by repeat (first | (with_reducible first | exact HB.out | apply below_alloc | apply pw_below_drewN | apply below_drew1 | refine below_set ?_ GE145.out | refine below_set ?_ GE150.out | refine below_set ?_ GE153.out | refine below_set ?_ GE162.out) | exact HB.out)) hb)
                clear HO144
                clear BK145
                clear BK150
                clear BK153
                clear BK162
                clear HB
                have HO144 := n0_
                have BK145 := n1_
                have BK150 := n2_
                have BK153 := n3_
                have BK162 := n4_
                have HB := n5_
                clear n0_ n1_ n2_ n3_ n4_ n5_
                (try clear hb)
                (try clear hb2)
                (try clear hk)
                (try clear hi)
                refine hK.out _ _ ⟨(blk_cell BK150.out 0).trans rfl, (blk_cell BK150.out 1).trans rfl, (blk_cell BK153.out 0).trans rfl, (blk_cell BK153.out 1).trans rfl, (blk_cell BK162.out 0).trans rfl, (blk_cell BK162.out 1).trans rfl, (blk_cell BK145.out 0).trans rfl, (blk_cell BK145.out 1).trans rfl⟩ (fun hHeld => ?_)
                clear hK K
                refine norm_ (a' := ?_) ?_ ?_
                rotate_left
                · show Act.put _ (some 91) _ = _
                  simp only [Act.put, List.setIfInBounds_toArray, List.set_cons_zero, List.set_cons_succ, i64_w, i32_w]
                  rfl
                refine pure_ (i := 54) (N := some 92) (v := ?_) (a' := ?_) #[true, true, true, true, true, true, true, true, true, true, true, true, true, true, true, true, true, true, true, true, true, true, true, true, true, true, true, true, true, true, true, true, true, true, true, true, true, true, true, true, true, true, true, true, true, true, true, true, true, true, true, true, true, true, true, false, false] rfl rfl (any_of HT_.out (by kernel_rfl)) (fun _ _ _ h => h) (Or.inl ⟨by rfl, ?_⟩) ?_ ?_
                rotate_left
                · intro w'
                  go_simp
                  with_reducible rfl
                rotate_left
                · simp only [Act.put, List.setIfInBounds_toArray, List.set_cons_zero, List.set_cons_succ, i64_w, i32_w]
                  rfl
                refine pure_ (i := 55) (N := some 93) (v := ?_) (a' := ?_) #[true, true, true, true, true, true, true, true, true, true, true, true, true, true, true, true, true, true, true, true, true, true, true, true, true, true, true, true, true, true, true, true, true, true, true, true, true, true, true, true, true, true, true, true, true, true, true, true, true, true, true, true, true, true, true, true, false] rfl rfl (any_of HT_.out (by kernel_rfl)) (fun _ _ _ h => h) (Or.inl ⟨by rfl, ?_⟩) ?_ ?_
                rotate_left
                · intro w'
                  go_simp
                  with_reducible rfl
                rotate_left
                · simp only [Act.put, List.setIfInBounds_toArray, List.set_cons_zero, List.set_cons_succ, i64_w, i32_w]
                  rfl
                refine pure_ (i := 56) (N := some 6) (v := ?_) (a' := ?_) #[true, true, true, true, true, true, true, true, true, true, true, true, true, true, true, true, true, true, true, true, true, true, true, true, true, true, true, true, true, true, true, true, true, true, true, true, true, true, true, true, true, true, true, true, true, true, true, true, true, true, true, true, true, true, true, true, true] rfl rfl (any_of HT_.out (by kernel_rfl)) (fun _ _ _ h => h) (Or.inl ⟨by rfl, ?_⟩) ?_ ?_
                rotate_left
                · intro w'
                  go_simp
                  with_reducible rfl
                rotate_left
                · simp only [Act.put, List.setIfInBounds_toArray, List.set_cons_zero, List.set_cons_succ, i64_w, i32_w]
                  rfl
                refine done_ (done_of HT_.out (by kernel_rfl)) ?_
                try go_wp2
                go_ret
                exact ⟨by first | rfl | (simp [errW_none, errW_some] <;> rfl) | (simp [*, errW_none, errW_some] <;> rfl), by repeat (first | (with_reducible first | exact HB.out | apply below_alloc | apply pw_below_drewN | apply below_drew1 | refine below_set ?_ GE145.out | refine below_set ?_ GE150.out | refine below_set ?_ GE153.out | refine below_set ?_ GE162.out) | exact HB.out)⟩
              · rw [if_neg c24] at H
                exact absurd H (by simp)
            · rw [if_neg c21] at H
              exact absurd H (by simp)
          · rw [if_neg c19] at H
            exact absurd H (by simp)
        · rw [if_neg c16] at H
          exact absurd H (by simp)
      · rw [if_neg c15] at H
        exact absurd H (by simp)
    · rw [if_neg c14] at H
      exact absurd H (by simp)
  · replace c13 := Bool.eq_false_iff.mpr c13
    subst c13
    have H1 : (none) = some r := by rw [if_neg (show ¬ (false = true) by decide)] at H; exact H
    clear H
    have H := H1
    clear H1
    exact absurd H (by simp)

/-- THE ONE PURE STATEMENT of sluicewaylaw06_DriftTurns: yours. -/
def sluicewaylaw06_DriftTurns.Pure : Prop := ∀ (l0 : List Int) (a1 : Int) (a2 : Int), l0.length ≤ maxLen → l0.length * 8 ≤ 140737488351232 → (∀ x ∈ l0, (Lit.int .i64 x).wf = true) → (Lit.int .i64 a1).wf = true → (Lit.int .i64 a2).wf = true → ∃ k, sluicewaylaw06_DriftTurns.f k l0 a1 a2 = some true
theorem sluicewaylaw06_DriftTurns.walk (P : sluicewaylaw06_DriftTurns.Pure) (a0 : Option Addr) (len0 cap0 : Nat) (z0 : List Int) (a1 : Int) (a2 : Int) (w : World) (w0 : (a0 = none ∧ len0 = 0 ∧ cap0 = 0 ∧ z0 = []) ∨ ∃ x, a0 = some x ∧ len0 ≤ cap0 ∧ cap0 ≤ maxLen ∧ z0.length = cap0 ∧ (∀ i, i < z0.length → w.cell? (x.add i) = some (.int .i64 (z0.getD i 0))) ∧ ∀ n ∈ z0, (Lit.int .i64 n).wf = true) (y0 : len0 * 8 ≤ 140737488351232) (w1 : (Lit.int .i64 a1).wf = true) (w2 : (Lit.int .i64 a2).wf = true) :
    Calls Try.prog 5 #[.slice a0 len0 cap0, .int .i64 a1, .int .i64 a2] w fun e w' => e = .returned (.bool true) ∧ Below w.heap.size w w' := by
  obtain ⟨l0, rfl, hr0, hm0, hw0, hc0⟩ := ReadsInt.ofRowC w0
  obtain ⟨k, h⟩ := P l0 a1 a2 hm0 y0 hw0 w1 w2
  refine (sluicewaylaw06_DriftTurns.calls k _ _ l0 a1 a2 true w (Kd.C_of_reads (d := (0 : Int)) (h1 := fun _ => rfl) hr0) hc0 h).mono ?_
  rintro e w' ⟨rfl, hd⟩
  exact ⟨rfl, hd⟩

end Go.Proofs.Ytnlcgibbonbniaa.GDriftTurns
