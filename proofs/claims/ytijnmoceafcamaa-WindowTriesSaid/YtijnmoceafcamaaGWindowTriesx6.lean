-- Printed by a program of this session's own (the kit's print, patched: wip/scripts/patch.py), for this claim. Not trusted: Lean checks it.
import Derived.Test.YtijnmoceafcamaaGWindowTriesx0
import Derived.Test.YtijnmoceafcamaaGWindowTriesx1
import Derived.Test.YtijnmoceafcamaaGWindowTriesx2
import Derived.Test.YtijnmoceafcamaaGWindowTriesx3
import Derived.Test.YtijnmoceafcamaaGWindowTriesx4
import Derived.Test.YtijnmoceafcamaaGWindowTriesx5
namespace Go.Proofs.Ytijnmoceafcamaa.GWindowTries
open Go.RowKit Go.Proofs.YtijnmoceafcamaaW.PrintWords Go.Proofs.YtijnmoceafcamaaW.PrintLast Go.Proofs.YtijnmoceafcamaaW.PrintMore
attribute [local go_sem] max2_int min2_int max_two min_two max_three min_three max_four min_four   -- for this text's walks alone
set_option linter.unusedVariables false
set_option linter.unusedSimpArgs false

attribute [local go_sem high] eqA48
/-! ### sluicewaylaw05_WindowTries: function 19 -/
mutual
def sluicewaylaw05_WindowTries.j0 : Nat → List Int → Int → Int → Int → Bool → Bool → Int → Int → Int → Int → Int → Int → Option (Bool)
  | 0, _, _, _, _, _, _, _, _, _, _, _, _ => none
  | k + 1, x1, x2, x3, x4, x11, x39, x203000, x203001, x203002, x203003, x203004, x203005 => if x39 = true then (some x11) else (if x4 > 0 then ((window_Right.f x203000 x203001 x203002 x203003 x203004 x203005).bind fun t208 => (sluicewaylaw05_WindowTries.j1 k x1 x2 x3 x4 x11 t208 x203000 x203001 x203002 x203003 x203004 x203005)) else (sluicewaylaw05_WindowTries.j1 k x1 x2 x3 x4 x11 false x203000 x203001 x203002 x203003 x203004 x203005))
def sluicewaylaw05_WindowTries.j1 : Nat → List Int → Int → Int → Int → Bool → Bool → Int → Int → Int → Int → Int → Int → Option (Bool)
  | 0, _, _, _, _, _, _, _, _, _, _, _, _ => none
  | k + 1, x1, x2, x3, x4, x11, x46, x203000, x203001, x203002, x203003, x203004, x203005 => if x46 = true then ((otp_Code.f x1 (wrap64 (x203000 + (Int.tmod (Go.bits .and .i64 x4 255) 100))) x2).bind fun bt209 => (if bt209.2 = 0 then (sluicewaylaw05_WindowTries.j2 k x1 x2 bt209.1 x11 x203000 x203001 x203002 x203003 x203004 x203005) else (sluicewaylaw05_WindowTries.j2 k x1 x2 x3 x11 x203000 x203001 x203002 x203003 x203004 x203005))) else (sluicewaylaw05_WindowTries.j2 k x1 x2 x3 x11 x203000 x203001 x203002 x203003 x203004 x203005)
def sluicewaylaw05_WindowTries.j2 : Nat → List Int → Int → Int → Bool → Int → Int → Int → Int → Int → Int → Option (Bool)
  | 0, _, _, _, _, _, _, _, _, _, _ => none
  | k + 1, x1, x2, x3, x11, x203000, x203001, x203002, x203003, x203004, x203005 => (window_Try.f k x203000 x203001 x203002 x203003 x203004 x203005 x1 x2 x3).bind fun bt211 => ((sluicewayref04_Right.f x1 0 x2).bind fun t220 => (if t220 = true then ((sluicewayref05_Right.f x203000 x203001 x203002 x203003 x203004 x203005).bind fun t221 => (sluicewaylaw05_WindowTries.j3 k x1 x2 x3 x11 bt211.2.2.2.2.2.2.1 bt211.2.2.2.2.2.2.2 (!t221) x203000 x203001 x203002 x203003 x203004 x203005 bt211.1 bt211.2.1 bt211.2.2.1 bt211.2.2.2.1 bt211.2.2.2.2.1 bt211.2.2.2.2.2.1)) else (sluicewaylaw05_WindowTries.j3 k x1 x2 x3 x11 bt211.2.2.2.2.2.2.1 bt211.2.2.2.2.2.2.2 true x203000 x203001 x203002 x203003 x203004 x203005 bt211.1 bt211.2.1 bt211.2.2.1 bt211.2.2.2.1 bt211.2.2.2.2.1 bt211.2.2.2.2.2.1)))
def sluicewaylaw05_WindowTries.j3 : Nat → List Int → Int → Int → Bool → Int → Int → Bool → Int → Int → Int → Int → Int → Int → Int → Int → Int → Int → Int → Int → Option (Bool)
  | 0, _, _, _, _, _, _, _, _, _, _, _, _, _, _, _, _, _, _, _ => none
  | k + 1, x1, x2, x3, x11, x15, x16, x79, x203000, x203001, x203002, x203003, x203004, x203005, x220000, x220001, x220002, x220003, x220004, x220005 => if x79 = true then (if x11 = true then (if (x220000 == x203000 && (x220001 == x203001 && (x220002 == x203002 && (x220003 == x203003 && (x220004 == x203004 && (x220005 == x203005)))))) = true then (if x15 = 0 then (some (x16 == 1)) else (none)) else (none)) else (none)) else (sluicewaylaw05_WindowTries.l0 k x1 x2 x3 x11 x15 x16 ([] : List Int) x203000 x203000 x203001 x203002 x203003 x203004 x203005 x220000 x220001 x220002 x220003 x220004 x220005)
def sluicewaylaw05_WindowTries.l0 : Nat → List Int → Int → Int → Bool → Int → Int → List Int → Int → Int → Int → Int → Int → Int → Int → Int → Int → Int → Int → Int → Int → Option (Bool)
  | 0, _, _, _, _, _, _, _, _, _, _, _, _, _, _, _, _, _, _, _, _ => none
  | k + 1, x1, x2, x3, x11, x15, x16, x17, x18, x203000, x203001, x203002, x203003, x203004, x203005, x220000, x220001, x220002, x220003, x220004, x220005 => if x18 ≤ (wrap64 ((wrap64 (x203000 + x203001)) + x203002)) then ((otp_Code.f x1 x18 x2).bind fun bt222 => (if bt222.2 = 0 then (if bt222.1 = x3 then (if x17.length < 17592186044416 then (sluicewaylaw05_WindowTries.l0 k x1 x2 x3 x11 x15 x16 (x17 ++ [x18]) (wrap64 (x18 + 1)) x203000 x203001 x203002 x203003 x203004 x203005 x220000 x220001 x220002 x220003 x220004 x220005) else (none)) else (sluicewaylaw05_WindowTries.l0 k x1 x2 x3 x11 x15 x16 x17 (wrap64 (x18 + 1)) x203000 x203001 x203002 x203003 x203004 x203005 x220000 x220001 x220002 x220003 x220004 x220005)) else (sluicewaylaw05_WindowTries.l0 k x1 x2 x3 x11 x15 x16 x17 (wrap64 (x18 + 1)) x203000 x203001 x203002 x203003 x203004 x203005 x220000 x220001 x220002 x220003 x220004 x220005))) else ((otp_Code.f x1 x203003 x2).bind fun bt227 => (if bt227.2 = 0 then (if bt227.1 = x3 then (if x17.length < 17592186044416 then ((sluicewayref05_Accept.f k x203000 x203001 x203002 x203003 x203004 x203005 (x17 ++ [x203003])).bind fun bt232 => (if x11 = true then (if (x220000 == bt232.1 && (x220001 == bt232.2.1 && (x220002 == bt232.2.2.1 && (x220003 == bt232.2.2.2.1 && (x220004 == bt232.2.2.2.2.1 && (x220005 == bt232.2.2.2.2.2.1)))))) = true then (if x15 = bt232.2.2.2.2.2.2.1 then (some (x16 == bt232.2.2.2.2.2.2.2)) else (none)) else (none)) else (none))) else (none)) else ((sluicewayref05_Accept.f k x203000 x203001 x203002 x203003 x203004 x203005 x17).bind fun bt241 => (if x11 = true then (if (x220000 == bt241.1 && (x220001 == bt241.2.1 && (x220002 == bt241.2.2.1 && (x220003 == bt241.2.2.2.1 && (x220004 == bt241.2.2.2.2.1 && (x220005 == bt241.2.2.2.2.2.1)))))) = true then (if x15 = bt241.2.2.2.2.2.2.1 then (some (x16 == bt241.2.2.2.2.2.2.2)) else (none)) else (none)) else (none)))) else ((sluicewayref05_Accept.f k x203000 x203001 x203002 x203003 x203004 x203005 x17).bind fun bt250 => (if x11 = true then (if (x220000 == bt250.1 && (x220001 == bt250.2.1 && (x220002 == bt250.2.2.1 && (x220003 == bt250.2.2.2.1 && (x220004 == bt250.2.2.2.2.1 && (x220005 == bt250.2.2.2.2.2.1)))))) = true then (if x15 = bt250.2.2.2.2.2.2.1 then (some (x16 == bt250.2.2.2.2.2.2.2)) else (none)) else (none)) else (none)))))
end
def sluicewaylaw05_WindowTries.f (k : Nat) (a0_0 : Int) (a0_1 : Int) (a0_2 : Int) (a0_3 : Int) (a0_4 : Int) (a0_5 : Int) (l1 : List Int) (a2 : Int) (a3 : Int) (a4 : Int) : Option (Bool) := (sluicewaylaw05_shown.f k).bind fun t203 => (if 0 ≤ (mn (l1.length : Int) 70) then (if (mn (l1.length : Int) 70) ≤ (l1.length : Int) then ((some (l1.take ((mn (l1.length : Int) 70) : Int).toNat : List Int)).bind fun y204 => (if a0_0 > 1000000 then (sluicewaylaw05_WindowTries.j0 k y204 a2 a3 a4 t203 true a0_0 a0_1 a0_2 a0_3 a0_4 a0_5) else (sluicewaylaw05_WindowTries.j0 k y204 a2 a3 a4 t203 (decide (a0_3 > 1000100)) a0_0 a0_1 a0_2 a0_3 a0_4 a0_5))) else (none)) else (none))
theorem sluicewaylaw05_WindowTries.mono_l : ∀ k, (∀ y0 y1 y2 y3 y4 y5 y6 y7 y8 y9 y10 y11, LeO (sluicewaylaw05_WindowTries.j0 k y0 y1 y2 y3 y4 y5 y6 y7 y8 y9 y10 y11) (sluicewaylaw05_WindowTries.j0 (k + 1) y0 y1 y2 y3 y4 y5 y6 y7 y8 y9 y10 y11)) ∧ (∀ y0 y1 y2 y3 y4 y5 y6 y7 y8 y9 y10 y11, LeO (sluicewaylaw05_WindowTries.j1 k y0 y1 y2 y3 y4 y5 y6 y7 y8 y9 y10 y11) (sluicewaylaw05_WindowTries.j1 (k + 1) y0 y1 y2 y3 y4 y5 y6 y7 y8 y9 y10 y11)) ∧ (∀ y0 y1 y2 y3 y4 y5 y6 y7 y8 y9, LeO (sluicewaylaw05_WindowTries.j2 k y0 y1 y2 y3 y4 y5 y6 y7 y8 y9) (sluicewaylaw05_WindowTries.j2 (k + 1) y0 y1 y2 y3 y4 y5 y6 y7 y8 y9)) ∧ (∀ y0 y1 y2 y3 y4 y5 y6 y7 y8 y9 y10 y11 y12 y13 y14 y15 y16 y17 y18, LeO (sluicewaylaw05_WindowTries.j3 k y0 y1 y2 y3 y4 y5 y6 y7 y8 y9 y10 y11 y12 y13 y14 y15 y16 y17 y18) (sluicewaylaw05_WindowTries.j3 (k + 1) y0 y1 y2 y3 y4 y5 y6 y7 y8 y9 y10 y11 y12 y13 y14 y15 y16 y17 y18)) ∧ (∀ y0 y1 y2 y3 y4 y5 y6 y7 y8 y9 y10 y11 y12 y13 y14 y15 y16 y17 y18 y19, LeO (sluicewaylaw05_WindowTries.l0 k y0 y1 y2 y3 y4 y5 y6 y7 y8 y9 y10 y11 y12 y13 y14 y15 y16 y17 y18 y19) (sluicewaylaw05_WindowTries.l0 (k + 1) y0 y1 y2 y3 y4 y5 y6 y7 y8 y9 y10 y11 y12 y13 y14 y15 y16 y17 y18 y19))
  | 0 => ⟨fun _ _ _ _ _ _ _ _ _ _ _ _ r h => by simp [sluicewaylaw05_WindowTries.j0] at h, fun _ _ _ _ _ _ _ _ _ _ _ _ r h => by simp [sluicewaylaw05_WindowTries.j1] at h, fun _ _ _ _ _ _ _ _ _ _ r h => by simp [sluicewaylaw05_WindowTries.j2] at h, fun _ _ _ _ _ _ _ _ _ _ _ _ _ _ _ _ _ _ _ r h => by simp [sluicewaylaw05_WindowTries.j3] at h, fun _ _ _ _ _ _ _ _ _ _ _ _ _ _ _ _ _ _ _ _ r h => by simp [sluicewaylaw05_WindowTries.l0] at h⟩
  | k + 1 => by
    obtain ⟨ih0, ih1, ih2, ih3, ih4⟩ := sluicewaylaw05_WindowTries.mono_l k
    refine ⟨?_, ?_, ?_, ?_, ?_⟩
    · intro y0 y1 y2 y3 y4 y5 y6 y7 y8 y9 y10 y11
      unfold sluicewaylaw05_WindowTries.j0
      repeat' first
      | (with_reducible exact ih0 _ _ _ _ _ _ _ _ _ _ _ _)
      | (with_reducible exact ih1 _ _ _ _ _ _ _ _ _ _ _ _)
      | (with_reducible exact ih2 _ _ _ _ _ _ _ _ _ _)
      | (with_reducible exact ih3 _ _ _ _ _ _ _ _ _ _ _ _ _ _ _ _ _ _ _)
      | (with_reducible exact ih4 _ _ _ _ _ _ _ _ _ _ _ _ _ _ _ _ _ _ _ _)
      | (with_reducible exact sluicewaylaw05_shown.mono _)
      | (with_reducible exact sluicewayref05_Accept.mono _ _ _ _ _ _ _ _)
      | (with_reducible exact window_Try.mono _ _ _ _ _ _ _ _ _ _)
      | (with_reducible exact LeO.refl _)
      | (with_reducible exact LeO.none _)
      | (with_reducible refine LeO.ite ?_ ?_)
      | (with_reducible refine LeO.bind ?_ (fun _ => ?_))
      | exact ih0 _ _ _ _ _ _ _ _ _ _ _ _
      | exact ih1 _ _ _ _ _ _ _ _ _ _ _ _
      | exact ih2 _ _ _ _ _ _ _ _ _ _
      | exact ih3 _ _ _ _ _ _ _ _ _ _ _ _ _ _ _ _ _ _ _
      | exact ih4 _ _ _ _ _ _ _ _ _ _ _ _ _ _ _ _ _ _ _ _
      | exact sluicewaylaw05_shown.mono _
      | exact sluicewayref05_Accept.mono _ _ _ _ _ _ _ _
      | exact window_Try.mono _ _ _ _ _ _ _ _ _ _
      | exact LeO.none _
      | refine LeO.ite ?_ ?_
      | refine LeO.bind ?_ (fun _ => ?_)
    · intro y0 y1 y2 y3 y4 y5 y6 y7 y8 y9 y10 y11
      unfold sluicewaylaw05_WindowTries.j1
      repeat' first
      | (with_reducible exact ih0 _ _ _ _ _ _ _ _ _ _ _ _)
      | (with_reducible exact ih1 _ _ _ _ _ _ _ _ _ _ _ _)
      | (with_reducible exact ih2 _ _ _ _ _ _ _ _ _ _)
      | (with_reducible exact ih3 _ _ _ _ _ _ _ _ _ _ _ _ _ _ _ _ _ _ _)
      | (with_reducible exact ih4 _ _ _ _ _ _ _ _ _ _ _ _ _ _ _ _ _ _ _ _)
      | (with_reducible exact sluicewaylaw05_shown.mono _)
      | (with_reducible exact sluicewayref05_Accept.mono _ _ _ _ _ _ _ _)
      | (with_reducible exact window_Try.mono _ _ _ _ _ _ _ _ _ _)
      | (with_reducible exact LeO.refl _)
      | (with_reducible exact LeO.none _)
      | (with_reducible refine LeO.ite ?_ ?_)
      | (with_reducible refine LeO.bind ?_ (fun _ => ?_))
      | exact ih0 _ _ _ _ _ _ _ _ _ _ _ _
      | exact ih1 _ _ _ _ _ _ _ _ _ _ _ _
      | exact ih2 _ _ _ _ _ _ _ _ _ _
      | exact ih3 _ _ _ _ _ _ _ _ _ _ _ _ _ _ _ _ _ _ _
      | exact ih4 _ _ _ _ _ _ _ _ _ _ _ _ _ _ _ _ _ _ _ _
      | exact sluicewaylaw05_shown.mono _
      | exact sluicewayref05_Accept.mono _ _ _ _ _ _ _ _
      | exact window_Try.mono _ _ _ _ _ _ _ _ _ _
      | exact LeO.none _
      | refine LeO.ite ?_ ?_
      | refine LeO.bind ?_ (fun _ => ?_)
    · intro y0 y1 y2 y3 y4 y5 y6 y7 y8 y9
      unfold sluicewaylaw05_WindowTries.j2
      repeat' first
      | (with_reducible exact ih0 _ _ _ _ _ _ _ _ _ _ _ _)
      | (with_reducible exact ih1 _ _ _ _ _ _ _ _ _ _ _ _)
      | (with_reducible exact ih2 _ _ _ _ _ _ _ _ _ _)
      | (with_reducible exact ih3 _ _ _ _ _ _ _ _ _ _ _ _ _ _ _ _ _ _ _)
      | (with_reducible exact ih4 _ _ _ _ _ _ _ _ _ _ _ _ _ _ _ _ _ _ _ _)
      | (with_reducible exact sluicewaylaw05_shown.mono _)
      | (with_reducible exact sluicewayref05_Accept.mono _ _ _ _ _ _ _ _)
      | (with_reducible exact window_Try.mono _ _ _ _ _ _ _ _ _ _)
      | (with_reducible exact LeO.refl _)
      | (with_reducible exact LeO.none _)
      | (with_reducible refine LeO.ite ?_ ?_)
      | (with_reducible refine LeO.bind ?_ (fun _ => ?_))
      | exact ih0 _ _ _ _ _ _ _ _ _ _ _ _
      | exact ih1 _ _ _ _ _ _ _ _ _ _ _ _
      | exact ih2 _ _ _ _ _ _ _ _ _ _
      | exact ih3 _ _ _ _ _ _ _ _ _ _ _ _ _ _ _ _ _ _ _
      | exact ih4 _ _ _ _ _ _ _ _ _ _ _ _ _ _ _ _ _ _ _ _
      | exact sluicewaylaw05_shown.mono _
      | exact sluicewayref05_Accept.mono _ _ _ _ _ _ _ _
      | exact window_Try.mono _ _ _ _ _ _ _ _ _ _
      | exact LeO.none _
      | refine LeO.ite ?_ ?_
      | refine LeO.bind ?_ (fun _ => ?_)
    · intro y0 y1 y2 y3 y4 y5 y6 y7 y8 y9 y10 y11 y12 y13 y14 y15 y16 y17 y18
      unfold sluicewaylaw05_WindowTries.j3
      repeat' first
      | (with_reducible exact ih0 _ _ _ _ _ _ _ _ _ _ _ _)
      | (with_reducible exact ih1 _ _ _ _ _ _ _ _ _ _ _ _)
      | (with_reducible exact ih2 _ _ _ _ _ _ _ _ _ _)
      | (with_reducible exact ih3 _ _ _ _ _ _ _ _ _ _ _ _ _ _ _ _ _ _ _)
      | (with_reducible exact ih4 _ _ _ _ _ _ _ _ _ _ _ _ _ _ _ _ _ _ _ _)
      | (with_reducible exact sluicewaylaw05_shown.mono _)
      | (with_reducible exact sluicewayref05_Accept.mono _ _ _ _ _ _ _ _)
      | (with_reducible exact window_Try.mono _ _ _ _ _ _ _ _ _ _)
      | (with_reducible exact LeO.refl _)
      | (with_reducible exact LeO.none _)
      | (with_reducible refine LeO.ite ?_ ?_)
      | (with_reducible refine LeO.bind ?_ (fun _ => ?_))
      | exact ih0 _ _ _ _ _ _ _ _ _ _ _ _
      | exact ih1 _ _ _ _ _ _ _ _ _ _ _ _
      | exact ih2 _ _ _ _ _ _ _ _ _ _
      | exact ih3 _ _ _ _ _ _ _ _ _ _ _ _ _ _ _ _ _ _ _
      | exact ih4 _ _ _ _ _ _ _ _ _ _ _ _ _ _ _ _ _ _ _ _
      | exact sluicewaylaw05_shown.mono _
      | exact sluicewayref05_Accept.mono _ _ _ _ _ _ _ _
      | exact window_Try.mono _ _ _ _ _ _ _ _ _ _
      | exact LeO.none _
      | refine LeO.ite ?_ ?_
      | refine LeO.bind ?_ (fun _ => ?_)
    · intro y0 y1 y2 y3 y4 y5 y6 y7 y8 y9 y10 y11 y12 y13 y14 y15 y16 y17 y18 y19
      unfold sluicewaylaw05_WindowTries.l0
      repeat' first
      | (with_reducible exact ih0 _ _ _ _ _ _ _ _ _ _ _ _)
      | (with_reducible exact ih1 _ _ _ _ _ _ _ _ _ _ _ _)
      | (with_reducible exact ih2 _ _ _ _ _ _ _ _ _ _)
      | (with_reducible exact ih3 _ _ _ _ _ _ _ _ _ _ _ _ _ _ _ _ _ _ _)
      | (with_reducible exact ih4 _ _ _ _ _ _ _ _ _ _ _ _ _ _ _ _ _ _ _ _)
      | (with_reducible exact sluicewaylaw05_shown.mono _)
      | (with_reducible exact sluicewayref05_Accept.mono _ _ _ _ _ _ _ _)
      | (with_reducible exact window_Try.mono _ _ _ _ _ _ _ _ _ _)
      | (with_reducible exact LeO.refl _)
      | (with_reducible exact LeO.none _)
      | (with_reducible refine LeO.ite ?_ ?_)
      | (with_reducible refine LeO.bind ?_ (fun _ => ?_))
      | exact ih0 _ _ _ _ _ _ _ _ _ _ _ _
      | exact ih1 _ _ _ _ _ _ _ _ _ _ _ _
      | exact ih2 _ _ _ _ _ _ _ _ _ _
      | exact ih3 _ _ _ _ _ _ _ _ _ _ _ _ _ _ _ _ _ _ _
      | exact ih4 _ _ _ _ _ _ _ _ _ _ _ _ _ _ _ _ _ _ _ _
      | exact sluicewaylaw05_shown.mono _
      | exact sluicewayref05_Accept.mono _ _ _ _ _ _ _ _
      | exact window_Try.mono _ _ _ _ _ _ _ _ _ _
      | exact LeO.none _
      | refine LeO.ite ?_ ?_
      | refine LeO.bind ?_ (fun _ => ?_)
theorem sluicewaylaw05_WindowTries.mono : ∀ a0 a1 a2 a3 a4 a5 a6 a7 a8 a9 k, LeO (sluicewaylaw05_WindowTries.f k a0 a1 a2 a3 a4 a5 a6 a7 a8 a9) (sluicewaylaw05_WindowTries.f (k + 1) a0 a1 a2 a3 a4 a5 a6 a7 a8 a9) := by
  intro a0 a1 a2 a3 a4 a5 a6 a7 a8 a9 k
  obtain ⟨ih0, ih1, ih2, ih3, ih4⟩ := sluicewaylaw05_WindowTries.mono_l k
  unfold sluicewaylaw05_WindowTries.f
  repeat' first
      | (with_reducible exact ih0 _ _ _ _ _ _ _ _ _ _ _ _)
      | (with_reducible exact ih1 _ _ _ _ _ _ _ _ _ _ _ _)
      | (with_reducible exact ih2 _ _ _ _ _ _ _ _ _ _)
      | (with_reducible exact ih3 _ _ _ _ _ _ _ _ _ _ _ _ _ _ _ _ _ _ _)
      | (with_reducible exact ih4 _ _ _ _ _ _ _ _ _ _ _ _ _ _ _ _ _ _ _ _)
      | (with_reducible exact sluicewaylaw05_shown.mono _)
      | (with_reducible exact sluicewayref05_Accept.mono _ _ _ _ _ _ _ _)
      | (with_reducible exact window_Try.mono _ _ _ _ _ _ _ _ _ _)
      | (with_reducible exact LeO.refl _)
      | (with_reducible exact LeO.none _)
      | (with_reducible refine LeO.ite ?_ ?_)
      | (with_reducible refine LeO.bind ?_ (fun _ => ?_))
      | exact ih0 _ _ _ _ _ _ _ _ _ _ _ _
      | exact ih1 _ _ _ _ _ _ _ _ _ _ _ _
      | exact ih2 _ _ _ _ _ _ _ _ _ _
      | exact ih3 _ _ _ _ _ _ _ _ _ _ _ _ _ _ _ _ _ _ _
      | exact ih4 _ _ _ _ _ _ _ _ _ _ _ _ _ _ _ _ _ _ _ _
      | exact sluicewaylaw05_shown.mono _
      | exact sluicewayref05_Accept.mono _ _ _ _ _ _ _ _
      | exact window_Try.mono _ _ _ _ _ _ _ _ _ _
      | exact LeO.none _
      | refine LeO.ite ?_ ?_
      | refine LeO.bind ?_ (fun _ => ?_)
set_option maxHeartbeats 8000000 in
set_option maxRecDepth 100000 in
theorem sluicewaylaw05_WindowTries.calls (k : Nat) (a0_0 : Int) (a0_1 : Int) (a0_2 : Int) (a0_3 : Int) (a0_4 : Int) (a0_5 : Int) (A1 : Option Addr) (c1 : Nat) (l1 : List Int) (a2 : Int) (a3 : Int) (a4 : Int) (r : Bool) (w : World) (hr1 : Kd.C (Kd.int .u8) w A1 l1.length l1) (hc1 : l1.length ≤ c1) (h : sluicewaylaw05_WindowTries.f k a0_0 a0_1 a0_2 a0_3 a0_4 a0_5 l1 a2 a3 a4 = some r) :
    Calls Try.prog 19 #[.agg #[.int .i64 a0_0, .int .i64 a0_1, .int .i64 a0_2, .int .i64 a0_3, .int .i64 a0_4, .int .i64 a0_5], .slice A1 l1.length c1, .int .i64 a2, .int .i64 a3, .int .i64 a4] w fun e w' => e = .returned (.bool r) ∧ Below w.heap.size w w' := by
  have hu48 := Try.underlying48
  have HR1 := Aside0.mk hr1
  have HC1 := Aside0.mk hc1
  clear hr1 hc1
  have HB := Aside0.mk (Below.refl w.heap.size w)
  have H : ((sluicewaylaw05_shown.f k).bind fun t203 => (if 0 ≤ (mn (l1.length : Int) 70) then (if (mn (l1.length : Int) 70) ≤ (l1.length : Int) then ((some (l1.take ((mn (l1.length : Int) 70) : Int).toNat : List Int)).bind fun y204 => (if a0_0 > 1000000 then (sluicewaylaw05_WindowTries.j0 k y204 a2 a3 a4 t203 true a0_0 a0_1 a0_2 a0_3 a0_4 a0_5) else (sluicewaylaw05_WindowTries.j0 k y204 a2 a3 a4 t203 (decide (a0_3 > 1000100)) a0_0 a0_1 a0_2 a0_3 a0_4 a0_5))) else (none)) else (none))) = some r := h
  clear h
  replace H := Option.bind_eq_some_iff.mp H
  obtain ⟨t203, A60, H⟩ := H
  replace H : (if 0 ≤ (mn (l1.length : Int) 70) then (if (mn (l1.length : Int) 70) ≤ (l1.length : Int) then ((some (l1.take ((mn (l1.length : Int) 70) : Int).toNat : List Int)).bind fun y204 => (if a0_0 > 1000000 then (sluicewaylaw05_WindowTries.j0 k y204 a2 a3 a4 t203 true a0_0 a0_1 a0_2 a0_3 a0_4 a0_5) else (sluicewaylaw05_WindowTries.j0 k y204 a2 a3 a4 t203 (decide (a0_3 > 1000100)) a0_0 a0_1 a0_2 a0_3 a0_4 a0_5))) else (none)) else (none)) = some r := H
  have A6 := Aside0.mk A60
  clear A60
  obtain ⟨ji7, hji7⟩ : ∃ j_ : Int, (mn (l1.length : Int) 70) = j_ := ⟨_, rfl⟩
  replace H : (if 0 ≤ (ji7) then (if (ji7) ≤ (l1.length : Int) then ((some (l1.take ((ji7) : Int).toNat : List Int)).bind fun y204 => (if a0_0 > 1000000 then (sluicewaylaw05_WindowTries.j0 k y204 a2 a3 a4 t203 true a0_0 a0_1 a0_2 a0_3 a0_4 a0_5) else (sluicewaylaw05_WindowTries.j0 k y204 a2 a3 a4 t203 (decide (a0_3 > 1000100)) a0_0 a0_1 a0_2 a0_3 a0_4 a0_5))) else (none)) else (none)) = some r := by first | (rw [hji7] at H; exact H) | (simp only [hji7] at H ⊢; exact H)
  (try rw [hji7] at A6)
  (try (have hji7h : ji7 ≤ 70 := by (rw [← hji7]; unfold mn; (repeat' split) <;> omega)))
  (try (have hji7g : ji7 ≤ 64 := by omega))
  (try (have hji7l : 0 ≤ ji7 := by (rw [← hji7]; unfold mn; (repeat' split) <;> omega)))
  (try (have hji7m : 0 ≤ ji7 := by omega))
  have hji7_ : (if 70 < (l1.length : Int) then 70 else (l1.length : Int)) = ji7 := hji7
  by_cases c8 : 0 ≤ (ji7)
  · rw [if_pos c8] at H
    have c8b0 := eq_true c8
    have c8b1 : decide (0 ≤ (ji7)) = true := decide_eq_true c8
    clear c8
    by_cases c9 : (ji7) ≤ (l1.length : Int)
    · rw [if_pos c9] at H
      have c9b0 := eq_true c9
      have c9b1 : decide ((ji7) ≤ (l1.length : Int)) = true := decide_eq_true c9
      clear c9
      obtain ⟨y204, hy204⟩ : ∃ y_ : List Int, y_ = (l1.take ((ji7) : Int).toNat) := ⟨_, rfl⟩
      replace H : (if a0_0 > 1000000 then (sluicewaylaw05_WindowTries.j0 k y204 a2 a3 a4 t203 true a0_0 a0_1 a0_2 a0_3 a0_4 a0_5) else (sluicewaylaw05_WindowTries.j0 k y204 a2 a3 a4 t203 (decide (a0_3 > 1000100)) a0_0 a0_1 a0_2 a0_3 a0_4 a0_5)) = some r := by first | (rw [hy204]; with_reducible exact H) | (have H2_ := (Option.bind_some _ _).symm.trans H; rw [hy204]; with_reducible exact H2_) | (have H2_ := (Option.bind_some _ _).symm.trans H; with_reducible exact H2_) | with_reducible exact H | (rw [hy204]; exact H) | exact H
      have Ny204 := Aside0.mk hy204
      clear hy204
      have HC10 := Aside0.mk H
      clear H
      go_enter Try.func19, Try.ntmps19
      go_upto_region 3 with (first | ((with_reducible refine gate_dst (N := 5) rfl ?_); refine box_event ?hg (N := 5) ?hd (cs := #[.int .i64 a0_0, .int .i64 a0_1, .int .i64 a0_2, .int .i64 a0_3, .int .i64 a0_4, .int .i64 a0_5]) (t := 48) ?hr ?_; (case hd => rfl); (case hg => rfl); (case hr => first | (go_simp; done) | (go_simp; rfl)); intro gb202 hg w11 hbox hb; have n0_ := Aside0.mk (below_step (by repeat (first | (with_reducible first | exact HB.out | apply below_alloc | apply pw_below_drewN | apply below_drew1) | exact HB.out)) hb); have n1_ := Aside0.mk (hbox); have n2_ := Aside0.mk ((by rw [hg]; exact (below_size (by repeat (first | (with_reducible first | exact HB.out | apply below_alloc | apply pw_below_drewN | apply below_drew1) | exact HB.out))) : w.heap.size ≤ gb202)); have n3_ := Aside0.mk ((by rw [hg]; exact (below_size (by repeat (first | (with_reducible first | exact HB.out | apply below_alloc | apply pw_below_drewN | apply below_drew1) | exact HB.out))) : w.heap.size ≤ gb202)); clear HB; have HB := n0_; have BK202 := n1_; have GW202 := n2_; have GE202 := n3_; clear n0_ n1_ n2_ n3_; clear hb hbox hg) | ((with_reducible refine gate_callee (f := 33) rfl ?_); refine goesL_ (some 26) rfl rfl Try.func33 (by kernel_rfl) rfl #[] rfl (by (try simp only [List.map_toArray, List.map_cons, List.map_nil]); first | done | rfl | (simp only [List.length_drop, List.length_take]; rfl)) ?_; (with_reducible refine (sluicewaylaw05_shown.calls k  t203 _ A6.out).mono ?_); rintro e w12 ⟨rfl, hb⟩; refine ⟨_, rfl, ?_⟩; have n0_ := Aside0.mk (blk_below (g := gb202) (o := .cells #[.int .i64 a0_0, .int .i64 a0_1, .int .i64 a0_2, .int .i64 a0_3, .int .i64 a0_4, .int .i64 a0_5] 48 (0, 0)) (by (with_reducible repeat (first | refine blk_drewN ?_ _ | refine blk_drew ?_ | refine blk_alloc ?_ _)); exact BK202.out) hb); have n1_ := Aside0.mk (below_step (by repeat (first | (with_reducible first | exact HB.out | apply below_alloc | apply pw_below_drewN | apply below_drew1 | refine below_set ?_ GE202.out) | exact HB.out)) hb); clear BK202; clear HB; have BK202 := n0_; have HB := n1_; clear n0_ n1_; (try clear hb); (try clear hb2); (try clear hk); (try clear hi); have q13 : ((ji7) : Int) ≤ ((l1.length : Int) : Int) := of_decide_eq_true (by first | (with_reducible assumption) | assumption); obtain ⟨i013, hi013, _, hsz13, _⟩ := info_parts info5; have hroom13 : l1.length ≤ c1 := HC1.out; have hC13 : Kd.C (Kd.int .u8) _ A1 l1.length l1 := HR1.out; have hcut13 := cut_to (P := Try.prog) 22 5 .i64 Try.underlying22 hi013 A1 l1.length c1 (ji7) (of_decide_eq_true (by first | (with_reducible assumption) | assumption)) q13 hroom13; have hr13 := Kd.C_take (m := ((ji7) : Int).toNat) hC13 (by omega); have hy13 : y204.length = ((ji7) : Int).toNat := (by rw [Ny204.out, List.length_take]; omega); rw [← Ny204.out] at hr13; rw [← hy13] at hcut13; have HR207 := Aside0.mk hr13; have HC207 := Aside0.mk (show y204.length ≤ c1 from by omega); clear hr13 hC13 hroom13 hi013 hsz13; have KY13 := Aside0.mk hy13; clear hy13; replace q13 := eq_true q13))
      (try simp only [Act.put, List.setIfInBounds_toArray, List.set_cons_zero, List.set_cons_succ])
      go_cut [39] (fun v39 wc => ∃ (kq : Nat) (x39_9 : Bool), v39 = .bool x39_9 ∧ Aside0 (sluicewaylaw05_WindowTries.j0 kq y204 a2 a3 a4 t203 x39_9 a0_0 a0_1 a0_2 a0_3 a0_4 a0_5 = some r) ∧ Aside0 (kq ≤ k) ∧ Aside0 (wc.heap[gb202]? = some (.cells #[.int .i64 a0_0, .int .i64 a0_1, .int .i64 a0_2, .int .i64 a0_3, .int .i64 a0_4, .int .i64 a0_5] 48 (0, 0))) ∧ Aside0 (Below w.heap.size w wc))
      case first =>
        have H := HC10.out
        clear HC10
        by_cases c14 : a0_0 > 1000000
        · rw [if_pos c14] at H
          have c14b0 : decide (1000000 < a0_0) = true := decide_eq_true c14
          clear c14
          (first | rw [c14b0] | (simp only [i64_w, i32_w]; rw [c14b0]) | skip)
          have H' := Aside0.mk H
          clear H
          have hcz15_0 : w12.cell? ⟨gb202, 0, none⟩ = some (.int .i64 a0_0) := (blk_cell BK202.out 0).trans rfl
          have hcz15_1 : w12.cell? ⟨gb202, 1, none⟩ = some (.int .i64 a0_1) := (blk_cell BK202.out 1).trans rfl
          have hcz15_2 : w12.cell? ⟨gb202, 2, none⟩ = some (.int .i64 a0_2) := (blk_cell BK202.out 2).trans rfl
          have hcz15_3 : w12.cell? ⟨gb202, 3, none⟩ = some (.int .i64 a0_3) := (blk_cell BK202.out 3).trans rfl
          have hcz15_4 : w12.cell? ⟨gb202, 4, none⟩ = some (.int .i64 a0_4) := (blk_cell BK202.out 4).trans rfl
          have hcz15_5 : w12.cell? ⟨gb202, 5, none⟩ = some (.int .i64 a0_5) := (blk_cell BK202.out 5).trans rfl
          have hfz15_0 := blk_frozen BK202.out 0
          have hfz15_1 := blk_frozen BK202.out 1
          have hfz15_2 := blk_frozen BK202.out 2
          have hfz15_3 := blk_frozen BK202.out 3
          have hfz15_4 := blk_frozen BK202.out 4
          have hfz15_5 := blk_frozen BK202.out 5
          go_wp2
          go_meet
          case rel => exact ⟨_, (true), (by first | rfl | (simp; done) | (simp [*]; done)), H', ⟨by first | omega | exact Nat.le_refl _⟩, ⟨by (with_reducible repeat (first | refine blk_drewN ?_ _ | refine blk_drew ?_ | refine blk_alloc ?_ _)); exact BK202.out⟩, ⟨by repeat (first | (with_reducible first | exact HB.out | apply below_alloc | apply pw_below_drewN | apply below_drew1 | refine below_set ?_ GE202.out) | exact HB.out)⟩⟩
        · rw [if_neg c14] at H
          have c14b0 : decide (1000000 < a0_0) = false := decide_eq_false c14
          clear c14
          (first | rw [c14b0] | (simp only [i64_w, i32_w]; rw [c14b0]) | skip)
          have H' := Aside0.mk H
          clear H
          have hcz16_0 : w12.cell? ⟨gb202, 0, none⟩ = some (.int .i64 a0_0) := (blk_cell BK202.out 0).trans rfl
          have hcz16_1 : w12.cell? ⟨gb202, 1, none⟩ = some (.int .i64 a0_1) := (blk_cell BK202.out 1).trans rfl
          have hcz16_2 : w12.cell? ⟨gb202, 2, none⟩ = some (.int .i64 a0_2) := (blk_cell BK202.out 2).trans rfl
          have hcz16_3 : w12.cell? ⟨gb202, 3, none⟩ = some (.int .i64 a0_3) := (blk_cell BK202.out 3).trans rfl
          have hcz16_4 : w12.cell? ⟨gb202, 4, none⟩ = some (.int .i64 a0_4) := (blk_cell BK202.out 4).trans rfl
          have hcz16_5 : w12.cell? ⟨gb202, 5, none⟩ = some (.int .i64 a0_5) := (blk_cell BK202.out 5).trans rfl
          have hfz16_0 := blk_frozen BK202.out 0
          have hfz16_1 := blk_frozen BK202.out 1
          have hfz16_2 := blk_frozen BK202.out 2
          have hfz16_3 := blk_frozen BK202.out 3
          have hfz16_4 := blk_frozen BK202.out 4
          have hfz16_5 := blk_frozen BK202.out 5
          go_wp2
          go_meet
          case rel => exact ⟨_, (decide (a0_3 > 1000100)), (by first | rfl | (simp; done) | (simp [*]; done)), H', ⟨by first | omega | exact Nat.le_refl _⟩, ⟨by (with_reducible repeat (first | refine blk_drewN ?_ _ | refine blk_drew ?_ | refine blk_alloc ?_ _)); exact BK202.out⟩, ⟨by repeat (first | (with_reducible first | exact HB.out | apply below_alloc | apply pw_below_drewN | apply below_drew1 | refine below_set ?_ GE202.out) | exact HB.out)⟩⟩
      case rest =>
        clear HC10
        try clear c1
        try clear q1
        try clear p2
        try clear c3
        try clear c8
        try clear c8b0
        try clear c8b1
        try clear c9
        try clear c9b0
        try clear c9b1
        try clear q13
        try clear c14
        try clear c14b0
        try clear hcz15_0
        try clear hcz15_1
        try clear hcz15_2
        try clear hcz15_3
        try clear hcz15_4
        try clear hcz15_5
        try clear hcz16_0
        try clear hcz16_1
        try clear hcz16_2
        try clear hcz16_3
        try clear hcz16_4
        try clear hcz16_5
        try clear hfz15_0
        try clear hfz15_1
        try clear hfz15_2
        try clear hfz15_3
        try clear hfz15_4
        try clear hfz15_5
        try clear hfz16_0
        try clear hfz16_1
        try clear hfz16_2
        try clear hfz16_3
        try clear hfz16_4
        try clear hfz16_5
        try clear q13
        obtain ⟨kq, x39_9, rfl, HA, HJ9, BK202, HB⟩ := hcut
        cases kq with
        | zero => exact absurd HA.out (by simp [sluicewaylaw05_WindowTries.j0])
        | succ kj9 =>
          have H := HA.out
          clear HA
          simp only [sluicewaylaw05_WindowTries.j0] at H
          by_cases c17 : x39_9 = true
          · subst c17
            have H1 : (some t203) = some r := by rw [if_pos rfl] at H; exact H
            clear H
            have H := H1
            clear H1
            obtain rfl := Option.some.inj H
            go_wp2
            go_ret
            exact ⟨by first | rfl | (simp [errW_none, errW_some] <;> rfl) | (simp only [← hji7]; first | rfl | (simp [errW_none, errW_some] <;> rfl)) | (simp [*, errW_none, errW_some] <;> rfl), by repeat (first | (with_reducible first | exact HB.out | apply below_alloc | apply pw_below_drewN | apply below_drew1 | refine below_set ?_ GE202.out) | exact HB.out)⟩
          · replace c17 := Bool.eq_false_iff.mpr c17
            subst c17
            have H1 : (if a4 > 0 then ((window_Right.f a0_0 a0_1 a0_2 a0_3 a0_4 a0_5).bind fun t208 => (sluicewaylaw05_WindowTries.j1 kj9 y204 a2 a3 a4 t203 t208 a0_0 a0_1 a0_2 a0_3 a0_4 a0_5)) else (sluicewaylaw05_WindowTries.j1 kj9 y204 a2 a3 a4 t203 false a0_0 a0_1 a0_2 a0_3 a0_4 a0_5)) = some r := by rw [if_neg (show ¬ (false = true) by decide)] at H; exact H
            clear H
            have H := H1
            clear H1
            have HC18 := Aside0.mk H
            clear H
            go_upto_region 5 with (fail)
            go_cut [46] (fun v46 wc => ∃ (kq : Nat) (x46_17 : Bool), v46 = .bool x46_17 ∧ Aside0 (sluicewaylaw05_WindowTries.j1 kq y204 a2 a3 a4 t203 x46_17 a0_0 a0_1 a0_2 a0_3 a0_4 a0_5 = some r) ∧ Aside0 (kq ≤ kj9) ∧ Aside0 (wc.heap[gb202]? = some (.cells #[.int .i64 a0_0, .int .i64 a0_1, .int .i64 a0_2, .int .i64 a0_3, .int .i64 a0_4, .int .i64 a0_5] 48 (0, 0))) ∧ Aside0 (Below w.heap.size w wc))
            case first =>
              have H := HC18.out
              clear HC18
              by_cases c19 : a4 > 0
              · rw [if_pos c19] at H
                have c19b0 : decide (0 < a4) = true := decide_eq_true c19
                clear c19
                (first | rw [c19b0] | (simp only [i64_w, i32_w]; rw [c19b0]) | skip)
                replace H := Option.bind_eq_some_iff.mp H
                obtain ⟨t208, A200, H⟩ := H
                replace H : (sluicewaylaw05_WindowTries.j1 kj9 y204 a2 a3 a4 t203 t208 a0_0 a0_1 a0_2 a0_3 a0_4 a0_5) = some r := H
                have A20 := Aside0.mk A200
                clear A200
                have H' := Aside0.mk H
                clear H
                have hcz21_0 : wc.cell? ⟨gb202, 0, none⟩ = some (.int .i64 a0_0) := (blk_cell BK202.out 0).trans rfl
                have hcz21_1 : wc.cell? ⟨gb202, 1, none⟩ = some (.int .i64 a0_1) := (blk_cell BK202.out 1).trans rfl
                have hcz21_2 : wc.cell? ⟨gb202, 2, none⟩ = some (.int .i64 a0_2) := (blk_cell BK202.out 2).trans rfl
                have hcz21_3 : wc.cell? ⟨gb202, 3, none⟩ = some (.int .i64 a0_3) := (blk_cell BK202.out 3).trans rfl
                have hcz21_4 : wc.cell? ⟨gb202, 4, none⟩ = some (.int .i64 a0_4) := (blk_cell BK202.out 4).trans rfl
                have hcz21_5 : wc.cell? ⟨gb202, 5, none⟩ = some (.int .i64 a0_5) := (blk_cell BK202.out 5).trans rfl
                have hfz21_0 := blk_frozen BK202.out 0
                have hfz21_1 := blk_frozen BK202.out 1
                have hfz21_2 := blk_frozen BK202.out 2
                have hfz21_3 := blk_frozen BK202.out 3
                have hfz21_4 := blk_frozen BK202.out 4
                have hfz21_5 := blk_frozen BK202.out 5
                go_wp2_with (first | (go_at_call 34; (with_reducible refine (window_Right.calls a0_0 a0_1 a0_2 a0_3 a0_4 a0_5 t208 _ A20.out).mono ?_); rintro e w22 ⟨rfl, hb⟩; have n0_ := Aside0.mk (blk_below (g := gb202) (o := .cells #[.int .i64 a0_0, .int .i64 a0_1, .int .i64 a0_2, .int .i64 a0_3, .int .i64 a0_4, .int .i64 a0_5] 48 (0, 0)) (by (with_reducible repeat (first | refine blk_drewN ?_ _ | refine blk_drew ?_ | refine blk_alloc ?_ _)); exact BK202.out) hb); have n1_ := Aside0.mk (below_step (by repeat (first | (with_reducible first | exact HB.out | apply below_alloc | apply pw_below_drewN | apply below_drew1 | refine below_set ?_ GE202.out) | exact HB.out)) hb); clear BK202; clear HB; have BK202 := n0_; have HB := n1_; clear n0_ n1_; (try clear hb); (try clear hb2); (try clear hk); (try clear hi)))
                go_meet
                case rel => exact ⟨_, (t208), (by first | rfl | (simp; done) | (simp [*]; done)), H', ⟨by have := HJ9.out; first | omega | exact Nat.le_refl _⟩, ⟨by (with_reducible repeat (first | refine blk_drewN ?_ _ | refine blk_drew ?_ | refine blk_alloc ?_ _)); exact BK202.out⟩, ⟨by repeat (first | (with_reducible first | exact HB.out | apply below_alloc | apply pw_below_drewN | apply below_drew1 | refine below_set ?_ GE202.out) | exact HB.out)⟩⟩
              · rw [if_neg c19] at H
                have c19b0 : decide (0 < a4) = false := decide_eq_false c19
                clear c19
                (first | rw [c19b0] | (simp only [i64_w, i32_w]; rw [c19b0]) | skip)
                have H' := Aside0.mk H
                clear H
                go_wp2
                go_meet
                case rel => exact ⟨_, (false), (by first | rfl | (simp; done) | (simp [*]; done)), H', ⟨by have := HJ9.out; first | omega | exact Nat.le_refl _⟩, ⟨by (with_reducible repeat (first | refine blk_drewN ?_ _ | refine blk_drew ?_ | refine blk_alloc ?_ _)); exact BK202.out⟩, ⟨by repeat (first | (with_reducible first | exact HB.out | apply below_alloc | apply pw_below_drewN | apply below_drew1 | refine below_set ?_ GE202.out) | exact HB.out)⟩⟩
            case rest =>
              clear HC18
              try clear c1
              try clear q1
              try clear p2
              try clear c3
              try clear c8
              try clear c8b0
              try clear c8b1
              try clear c9
              try clear c9b0
              try clear c9b1
              try clear q13
              try clear c14
              try clear c14b0
              try clear c17
              try clear c19
              try clear c19b0
              try clear hcz15_0
              try clear hcz15_1
              try clear hcz15_2
              try clear hcz15_3
              try clear hcz15_4
              try clear hcz15_5
              try clear hcz16_0
              try clear hcz16_1
              try clear hcz16_2
              try clear hcz16_3
              try clear hcz16_4
              try clear hcz16_5
              try clear hcz21_0
              try clear hcz21_1
              try clear hcz21_2
              try clear hcz21_3
              try clear hcz21_4
              try clear hcz21_5
              try clear hfz15_0
              try clear hfz15_1
              try clear hfz15_2
              try clear hfz15_3
              try clear hfz15_4
              try clear hfz15_5
              try clear hfz16_0
              try clear hfz16_1
              try clear hfz16_2
              try clear hfz16_3
              try clear hfz16_4
              try clear hfz16_5
              try clear hfz21_0
              try clear hfz21_1
              try clear hfz21_2
              try clear hfz21_3
              try clear hfz21_4
              try clear hfz21_5
              try clear p2
              try clear q1
              try clear q13
              obtain ⟨kq, x46_17, rfl, HA, HJ17, BK202, HB⟩ := hcut
              cases kq with
              | zero => exact absurd HA.out (by simp [sluicewaylaw05_WindowTries.j1])
              | succ kj17 =>
                have H := HA.out
                clear HA
                simp only [sluicewaylaw05_WindowTries.j1] at H
                have HC23 := Aside0.mk H
                clear H
                go_upto_if 46 with (fail)
                go_cut [3] (fun v3 wc => ∃ (kq : Nat) (x3_22 : Int), v3 = .int .i64 x3_22 ∧ Aside0 (sluicewaylaw05_WindowTries.j2 kq y204 a2 x3_22 t203 a0_0 a0_1 a0_2 a0_3 a0_4 a0_5 = some r) ∧ Aside0 (kq ≤ kj17) ∧ Aside0 (wc.heap[gb202]? = some (.cells #[.int .i64 a0_0, .int .i64 a0_1, .int .i64 a0_2, .int .i64 a0_3, .int .i64 a0_4, .int .i64 a0_5] 48 (0, 0))) ∧ Aside0 (Below w.heap.size w wc))
                case first =>
                  have H := HC23.out
                  clear HC23
                  by_cases c24 : x46_17 = true
                  · subst c24
                    have H1 : ((otp_Code.f y204 (wrap64 (a0_0 + (Int.tmod (Go.bits .and .i64 a4 255) 100))) a2).bind fun bt209 => (if bt209.2 = 0 then (sluicewaylaw05_WindowTries.j2 kj17 y204 a2 bt209.1 t203 a0_0 a0_1 a0_2 a0_3 a0_4 a0_5) else (sluicewaylaw05_WindowTries.j2 kj17 y204 a2 a3 t203 a0_0 a0_1 a0_2 a0_3 a0_4 a0_5))) = some r := by rw [if_pos rfl] at H; exact H
                    clear H
                    have H := H1
                    clear H1
                    replace H := Option.bind_eq_some_iff.mp H
                    obtain ⟨⟨t209, t210⟩, A250, H⟩ := H
                    replace H : (if t210 = 0 then (sluicewaylaw05_WindowTries.j2 kj17 y204 a2 t209 t203 a0_0 a0_1 a0_2 a0_3 a0_4 a0_5) else (sluicewaylaw05_WindowTries.j2 kj17 y204 a2 a3 t203 a0_0 a0_1 a0_2 a0_3 a0_4 a0_5)) = some r := H
                    have A25 := Aside0.mk A250
                    clear A250
                    by_cases c26 : t210 = 0
                    · rw [if_pos c26] at H
                      have c26b0 : (t210 == 0) = true := beq_iff_eq.mpr c26
                      have c26b1 : (t210 != 0) = false := bne_eq_false_iff_eq.mpr c26
                      clear c26
                      (first | rw [c26b0] | (simp only [i64_w, i32_w]; rw [c26b0]) | skip)
                      have H' := Aside0.mk H
                      clear H
                      have hcz27_0 : wc.cell? ⟨gb202, 0, none⟩ = some (.int .i64 a0_0) := (blk_cell BK202.out 0).trans rfl
                      have hcz27_1 : wc.cell? ⟨gb202, 1, none⟩ = some (.int .i64 a0_1) := (blk_cell BK202.out 1).trans rfl
                      have hcz27_2 : wc.cell? ⟨gb202, 2, none⟩ = some (.int .i64 a0_2) := (blk_cell BK202.out 2).trans rfl
                      have hcz27_3 : wc.cell? ⟨gb202, 3, none⟩ = some (.int .i64 a0_3) := (blk_cell BK202.out 3).trans rfl
                      have hcz27_4 : wc.cell? ⟨gb202, 4, none⟩ = some (.int .i64 a0_4) := (blk_cell BK202.out 4).trans rfl
                      have hcz27_5 : wc.cell? ⟨gb202, 5, none⟩ = some (.int .i64 a0_5) := (blk_cell BK202.out 5).trans rfl
                      have hfz27_0 := blk_frozen BK202.out 0
                      have hfz27_1 := blk_frozen BK202.out 1
                      have hfz27_2 := blk_frozen BK202.out 2
                      have hfz27_3 := blk_frozen BK202.out 3
                      have hfz27_4 := blk_frozen BK202.out 4
                      have hfz27_5 := blk_frozen BK202.out 5
                      go_wp2_with (first | ((with_reducible refine gate_callee (f := 40) rfl ?_); refine goesL_ (some 56) rfl rfl Try.func40 (by kernel_rfl) rfl #[.slice A1 y204.length c1, .int .i64 (wrap64 (a0_0 + (Int.tmod (Go.bits .and .i64 a4 255) 100))), .int .i64 a2] rfl (by (try simp only [List.map_toArray, List.map_cons, List.map_nil]); first | done | rfl | (simp only [List.length_drop, List.length_take]; rfl)) ?_; (with_reducible refine (otp_Code.calls _ _ y204 (wrap64 (a0_0 + (Int.tmod (Go.bits .and .i64 a4 255) 100))) a2 t209 t210 _ ?side1 ?side2 A25.out).mono ?_); (case side1 => repeat (first | exact (Kd.C_below HR207.out HB.out) | (with_reducible refine Kd.C_alloc ?_ _) | (with_reducible refine Kd.C_drewN ?_ _) | (with_reducible refine Kd.C_drew ?_))); (case side2 => exact HC207.out); rintro e w28 ⟨rfl, hb⟩; refine ⟨_, rfl, ?_⟩; have n0_ := Aside0.mk (blk_below (g := gb202) (o := .cells #[.int .i64 a0_0, .int .i64 a0_1, .int .i64 a0_2, .int .i64 a0_3, .int .i64 a0_4, .int .i64 a0_5] 48 (0, 0)) (by (with_reducible repeat (first | refine blk_drewN ?_ _ | refine blk_drew ?_ | refine blk_alloc ?_ _)); exact BK202.out) hb); have n1_ := Aside0.mk (below_step (by repeat (first | (with_reducible first | exact HB.out | apply below_alloc | apply pw_below_drewN | apply below_drew1 | refine below_set ?_ GE202.out) | exact HB.out)) hb); clear BK202; clear HB; have BK202 := n0_; have HB := n1_; clear n0_ n1_; (try clear hb); (try clear hb2); (try clear hk); (try clear hi)))
                      go_meet
                      case rel => exact ⟨_, (t209), (by first | rfl | (simp; done) | (simp [*]; done)), H', ⟨by have := HJ9.out; have := HJ17.out; first | omega | exact Nat.le_refl _⟩, ⟨by (with_reducible repeat (first | refine blk_drewN ?_ _ | refine blk_drew ?_ | refine blk_alloc ?_ _)); exact BK202.out⟩, ⟨by repeat (first | (with_reducible first | exact HB.out | apply below_alloc | apply pw_below_drewN | apply below_drew1 | refine below_set ?_ GE202.out) | exact HB.out)⟩⟩
                    · rw [if_neg c26] at H
                      have c26b0 : (t210 == 0) = false := beq_eq_false_iff_ne.mpr c26
                      have c26b1 : (t210 != 0) = true := bne_iff_ne.mpr c26
                      (first | rw [c26b0] | (simp only [i64_w, i32_w]; rw [c26b0]) | skip)
                      have H' := Aside0.mk H
                      clear H
                      have hcz29_0 : wc.cell? ⟨gb202, 0, none⟩ = some (.int .i64 a0_0) := (blk_cell BK202.out 0).trans rfl
                      have hcz29_1 : wc.cell? ⟨gb202, 1, none⟩ = some (.int .i64 a0_1) := (blk_cell BK202.out 1).trans rfl
                      have hcz29_2 : wc.cell? ⟨gb202, 2, none⟩ = some (.int .i64 a0_2) := (blk_cell BK202.out 2).trans rfl
                      have hcz29_3 : wc.cell? ⟨gb202, 3, none⟩ = some (.int .i64 a0_3) := (blk_cell BK202.out 3).trans rfl
                      have hcz29_4 : wc.cell? ⟨gb202, 4, none⟩ = some (.int .i64 a0_4) := (blk_cell BK202.out 4).trans rfl
                      have hcz29_5 : wc.cell? ⟨gb202, 5, none⟩ = some (.int .i64 a0_5) := (blk_cell BK202.out 5).trans rfl
                      have hfz29_0 := blk_frozen BK202.out 0
                      have hfz29_1 := blk_frozen BK202.out 1
                      have hfz29_2 := blk_frozen BK202.out 2
                      have hfz29_3 := blk_frozen BK202.out 3
                      have hfz29_4 := blk_frozen BK202.out 4
                      have hfz29_5 := blk_frozen BK202.out 5
                      go_wp2_with (first | ((with_reducible refine gate_callee (f := 40) rfl ?_); refine goesL_ (some 56) rfl rfl Try.func40 (by kernel_rfl) rfl #[.slice A1 y204.length c1, .int .i64 (wrap64 (a0_0 + (Int.tmod (Go.bits .and .i64 a4 255) 100))), .int .i64 a2] rfl (by (try simp only [List.map_toArray, List.map_cons, List.map_nil]); first | done | rfl | (simp only [List.length_drop, List.length_take]; rfl)) ?_; (with_reducible refine (otp_Code.calls _ _ y204 (wrap64 (a0_0 + (Int.tmod (Go.bits .and .i64 a4 255) 100))) a2 t209 t210 _ ?side1 ?side2 A25.out).mono ?_); (case side1 => repeat (first | exact (Kd.C_below HR207.out HB.out) | (with_reducible refine Kd.C_alloc ?_ _) | (with_reducible refine Kd.C_drewN ?_ _) | (with_reducible refine Kd.C_drew ?_))); (case side2 => exact HC207.out); rintro e w30 ⟨rfl, hb⟩; refine ⟨_, rfl, ?_⟩; have n0_ := Aside0.mk (blk_below (g := gb202) (o := .cells #[.int .i64 a0_0, .int .i64 a0_1, .int .i64 a0_2, .int .i64 a0_3, .int .i64 a0_4, .int .i64 a0_5] 48 (0, 0)) (by (with_reducible repeat (first | refine blk_drewN ?_ _ | refine blk_drew ?_ | refine blk_alloc ?_ _)); exact BK202.out) hb); have n1_ := Aside0.mk (below_step (by repeat (first | (with_reducible first | exact HB.out | apply below_alloc | apply pw_below_drewN | apply below_drew1 | refine below_set ?_ GE202.out) | exact HB.out)) hb); clear BK202; clear HB; have BK202 := n0_; have HB := n1_; clear n0_ n1_; (try clear hb); (try clear hb2); (try clear hk); (try clear hi)))
                      go_meet
                      case rel => exact ⟨_, (a3), (by first | rfl | (simp; done) | (simp [*]; done)), H', ⟨by have := HJ9.out; have := HJ17.out; first | omega | exact Nat.le_refl _⟩, ⟨by (with_reducible repeat (first | refine blk_drewN ?_ _ | refine blk_drew ?_ | refine blk_alloc ?_ _)); exact BK202.out⟩, ⟨by repeat (first | (with_reducible first | exact HB.out | apply below_alloc | apply pw_below_drewN | apply below_drew1 | refine below_set ?_ GE202.out) | exact HB.out)⟩⟩
                  · replace c24 := Bool.eq_false_iff.mpr c24
                    subst c24
                    have H1 : (sluicewaylaw05_WindowTries.j2 kj17 y204 a2 a3 t203 a0_0 a0_1 a0_2 a0_3 a0_4 a0_5) = some r := by rw [if_neg (show ¬ (false = true) by decide)] at H; exact H
                    clear H
                    have H := H1
                    clear H1
                    have H' := Aside0.mk H
                    clear H
                    go_wp2
                    go_meet
                    case rel => exact ⟨_, (a3), (by first | rfl | (simp; done) | (simp [*]; done)), H', ⟨by have := HJ9.out; have := HJ17.out; first | omega | exact Nat.le_refl _⟩, ⟨by (with_reducible repeat (first | refine blk_drewN ?_ _ | refine blk_drew ?_ | refine blk_alloc ?_ _)); exact BK202.out⟩, ⟨by repeat (first | (with_reducible first | exact HB.out | apply below_alloc | apply pw_below_drewN | apply below_drew1 | refine below_set ?_ GE202.out) | exact HB.out)⟩⟩
                case rest =>
                  clear HC23
                  try clear c1
                  try clear q1
                  try clear c2
                  try clear p2
                  try clear c3
                  try clear c4
                  try clear p6
                  try clear c8
                  try clear c8b0
                  try clear c8b1
                  try clear c9
                  try clear c9b0
                  try clear c9b1
                  try clear q13
                  try clear c14
                  try clear c14b0
                  try clear c17
                  try clear c19
                  try clear c19b0
                  try clear c24
                  try clear c26
                  try clear c26b0
                  try clear c26b1
                  try clear hcz15_0
                  try clear hcz15_1
                  try clear hcz15_2
                  try clear hcz15_3
                  try clear hcz15_4
                  try clear hcz15_5
                  try clear hcz16_0
                  try clear hcz16_1
                  try clear hcz16_2
                  try clear hcz16_3
                  try clear hcz16_4
                  try clear hcz16_5
                  try clear hcz21_0
                  try clear hcz21_1
                  try clear hcz21_2
                  try clear hcz21_3
                  try clear hcz21_4
                  try clear hcz21_5
                  try clear hcz27_0
                  try clear hcz27_1
                  try clear hcz27_2
                  try clear hcz27_3
                  try clear hcz27_4
                  try clear hcz27_5
                  try clear hcz29_0
                  try clear hcz29_1
                  try clear hcz29_2
                  try clear hcz29_3
                  try clear hcz29_4
                  try clear hcz29_5
                  try clear hfz15_0
                  try clear hfz15_1
                  try clear hfz15_2
                  try clear hfz15_3
                  try clear hfz15_4
                  try clear hfz15_5
                  try clear hfz16_0
                  try clear hfz16_1
                  try clear hfz16_2
                  try clear hfz16_3
                  try clear hfz16_4
                  try clear hfz16_5
                  try clear hfz21_0
                  try clear hfz21_1
                  try clear hfz21_2
                  try clear hfz21_3
                  try clear hfz21_4
                  try clear hfz21_5
                  try clear hfz27_0
                  try clear hfz27_1
                  try clear hfz27_2
                  try clear hfz27_3
                  try clear hfz27_4
                  try clear hfz27_5
                  try clear hfz29_0
                  try clear hfz29_1
                  try clear hfz29_2
                  try clear hfz29_3
                  try clear hfz29_4
                  try clear hfz29_5
                  try clear p2
                  try clear q1
                  try clear q13
                  obtain ⟨kq, x3_22, rfl, HA, HJ22, BK202, HB⟩ := hcut
                  cases kq with
                  | zero => exact absurd HA.out (by simp [sluicewaylaw05_WindowTries.j2])
                  | succ kj22 =>
                    have H := HA.out
                    clear HA
                    simp only [sluicewaylaw05_WindowTries.j2] at H
                    replace H := Option.bind_eq_some_iff.mp H
                    obtain ⟨⟨t211, t212, t213, t214, t215, t216, t217, t218⟩, A310, H⟩ := H
                    replace H : ((sluicewayref04_Right.f y204 0 a2).bind fun t220 => (if t220 = true then ((sluicewayref05_Right.f a0_0 a0_1 a0_2 a0_3 a0_4 a0_5).bind fun t221 => (sluicewaylaw05_WindowTries.j3 kj22 y204 a2 x3_22 t203 t217 t218 (!t221) a0_0 a0_1 a0_2 a0_3 a0_4 a0_5 t211 t212 t213 t214 t215 t216)) else (sluicewaylaw05_WindowTries.j3 kj22 y204 a2 x3_22 t203 t217 t218 true a0_0 a0_1 a0_2 a0_3 a0_4 a0_5 t211 t212 t213 t214 t215 t216))) = some r := H
                    have A31 := Aside0.mk A310
                    clear A310
                    have HC32 := Aside0.mk H
                    clear H
                    have hcz33_0 : wc.cell? ⟨gb202, 0, none⟩ = some (.int .i64 a0_0) := (blk_cell BK202.out 0).trans rfl
                    have hcz33_1 : wc.cell? ⟨gb202, 1, none⟩ = some (.int .i64 a0_1) := (blk_cell BK202.out 1).trans rfl
                    have hcz33_2 : wc.cell? ⟨gb202, 2, none⟩ = some (.int .i64 a0_2) := (blk_cell BK202.out 2).trans rfl
                    have hcz33_3 : wc.cell? ⟨gb202, 3, none⟩ = some (.int .i64 a0_3) := (blk_cell BK202.out 3).trans rfl
                    have hcz33_4 : wc.cell? ⟨gb202, 4, none⟩ = some (.int .i64 a0_4) := (blk_cell BK202.out 4).trans rfl
                    have hcz33_5 : wc.cell? ⟨gb202, 5, none⟩ = some (.int .i64 a0_5) := (blk_cell BK202.out 5).trans rfl
                    have hfz33_0 := blk_frozen BK202.out 0
                    have hfz33_1 := blk_frozen BK202.out 1
                    have hfz33_2 := blk_frozen BK202.out 2
                    have hfz33_3 := blk_frozen BK202.out 3
                    have hfz33_4 := blk_frozen BK202.out 4
                    have hfz33_5 := blk_frozen BK202.out 5
                    go_upto_region 10 with (first | ((with_reducible refine gate_callee (f := 41) rfl ?_); refine goesL_ (some 67) rfl rfl Try.func41 (by kernel_rfl) rfl #[.agg #[.int .i64 a0_0, .int .i64 a0_1, .int .i64 a0_2, .int .i64 a0_3, .int .i64 a0_4, .int .i64 a0_5], .slice A1 y204.length c1, .int .i64 a2, .int .i64 x3_22] rfl (by (try simp only [List.map_toArray, List.map_cons, List.map_nil]); first | done | rfl | (simp only [List.length_drop, List.length_take]; rfl)) ?_; (with_reducible refine (window_Try.calls kj22 a0_0 a0_1 a0_2 a0_3 a0_4 a0_5 _ _ y204 a2 x3_22 t211 t212 t213 t214 t215 t216 t217 t218 _ ?side1 ?side2 A31.out).mono ?_); (case side1 => repeat (first | exact (Kd.C_below HR207.out HB.out) | (with_reducible refine Kd.C_alloc ?_ _) | (with_reducible refine Kd.C_drewN ?_ _) | (with_reducible refine Kd.C_drew ?_))); (case side2 => exact HC207.out); rintro e w34 ⟨rfl, hb⟩; refine ⟨_, rfl, ?_⟩; have n0_ := Aside0.mk (blk_below (g := gb202) (o := .cells #[.int .i64 a0_0, .int .i64 a0_1, .int .i64 a0_2, .int .i64 a0_3, .int .i64 a0_4, .int .i64 a0_5] 48 (0, 0)) (by (with_reducible repeat (first | refine blk_drewN ?_ _ | refine blk_drew ?_ | refine blk_alloc ?_ _)); exact BK202.out) hb); have n1_ := Aside0.mk (below_step (by repeat (first | (with_reducible first | exact HB.out | apply below_alloc | apply pw_below_drewN | apply below_drew1 | refine below_set ?_ GE202.out) | exact HB.out)) hb); clear BK202; clear HB; have BK202 := n0_; have HB := n1_; clear n0_ n1_; (try clear hb); (try clear hb2); (try clear hk); (try clear hi)) | ((with_reducible refine gate_dst (N := 14) rfl ?_); refine box_event ?hg (N := 14) ?hd (cs := #[.int .i64 0, .int .i64 0, .int .i64 0, .int .i64 0, .int .i64 0, .int .i64 0]) (t := 48) ?hr ?_; (case hd => rfl); (case hg => rfl); (case hr => first | (go_simp; done) | (go_simp; rfl)); intro gb219 hg w35 hbox hb; have n0_ := Aside0.mk (blk_below (g := gb202) (o := .cells #[.int .i64 a0_0, .int .i64 a0_1, .int .i64 a0_2, .int .i64 a0_3, .int .i64 a0_4, .int .i64 a0_5] 48 (0, 0)) (by (with_reducible repeat (first | refine blk_drewN ?_ _ | refine blk_drew ?_ | refine blk_alloc ?_ _)); exact BK202.out) hb); have n1_ := Aside0.mk (below_step (by repeat (first | (with_reducible first | exact HB.out | apply below_alloc | apply pw_below_drewN | apply below_drew1 | refine below_set ?_ GE202.out) | exact HB.out)) hb); have n2_ := Aside0.mk (hbox); have n3_ := Aside0.mk ((by rw [hg]; exact (below_size (by repeat (first | (with_reducible first | exact HB.out | apply below_alloc | apply pw_below_drewN | apply below_drew1 | refine below_set ?_ GE202.out) | exact HB.out))) : w.heap.size ≤ gb219)); have n4_ := Aside0.mk ((by rw [hg]; exact (below_size (by repeat (first | (with_reducible first | exact HB.out | apply below_alloc | apply pw_below_drewN | apply below_drew1 | refine below_set ?_ GE202.out) | exact HB.out))) : w.heap.size ≤ gb219)); have n5_ := Aside0.mk ((by rw [hg]; exact Nat.ne_of_lt (blk_lt (g := gb202) (o := .cells #[.int .i64 a0_0, .int .i64 a0_1, .int .i64 a0_2, .int .i64 a0_3, .int .i64 a0_4, .int .i64 a0_5] 48 (0, 0)) (by (with_reducible repeat (first | refine blk_drewN ?_ _ | refine blk_drew ?_ | refine blk_alloc ?_ _)); exact BK202.out)) : gb202 ≠ gb219)); have n6_ := Aside0.mk ((by rw [hg]; exact Nat.ne_of_gt (blk_lt (g := gb202) (o := .cells #[.int .i64 a0_0, .int .i64 a0_1, .int .i64 a0_2, .int .i64 a0_3, .int .i64 a0_4, .int .i64 a0_5] 48 (0, 0)) (by (with_reducible repeat (first | refine blk_drewN ?_ _ | refine blk_drew ?_ | refine blk_alloc ?_ _)); exact BK202.out)) : gb219 ≠ gb202)); clear BK202; clear HB; have BK202 := n0_; have HB := n1_; have BK219 := n2_; have GW219 := n3_; have GE219 := n4_; have NB202_219 := n5_; have NB219_202 := n6_; clear n0_ n1_ n2_ n3_ n4_ n5_ n6_; clear hb hbox hg; have hnb36 := NB219_202.out; have hnc36 := NB202_219.out; have hcz37_0 : w35.cell? ⟨gb219, 0, none⟩ = some (.int .i64 0) := (blk_cell BK219.out 0).trans rfl; have hcz37_1 : w35.cell? ⟨gb219, 1, none⟩ = some (.int .i64 0) := (blk_cell BK219.out 1).trans rfl; have hcz37_2 : w35.cell? ⟨gb219, 2, none⟩ = some (.int .i64 0) := (blk_cell BK219.out 2).trans rfl; have hcz37_3 : w35.cell? ⟨gb219, 3, none⟩ = some (.int .i64 0) := (blk_cell BK219.out 3).trans rfl; have hcz37_4 : w35.cell? ⟨gb219, 4, none⟩ = some (.int .i64 0) := (blk_cell BK219.out 4).trans rfl; have hcz37_5 : w35.cell? ⟨gb219, 5, none⟩ = some (.int .i64 0) := (blk_cell BK219.out 5).trans rfl; have hfz37_0 := blk_frozen BK219.out 0; have hfz37_1 := blk_frozen BK219.out 1; have hfz37_2 := blk_frozen BK219.out 2; have hfz37_3 := blk_frozen BK219.out 3; have hfz37_4 := blk_frozen BK219.out 4; have hfz37_5 := blk_frozen BK219.out 5))
                    (try simp only [Act.put, List.setIfInBounds_toArray, List.set_cons_zero, List.set_cons_succ])
                    go_cut [79] (fun v79 wc => ∃ (kq : Nat) (x79_31 : Bool), v79 = .bool x79_31 ∧ Aside0 (sluicewaylaw05_WindowTries.j3 kq y204 a2 x3_22 t203 t217 t218 x79_31 a0_0 a0_1 a0_2 a0_3 a0_4 a0_5 t211 t212 t213 t214 t215 t216 = some r) ∧ Aside0 (kq ≤ kj22) ∧ Aside0 (wc.heap[gb202]? = some (.cells #[.int .i64 a0_0, .int .i64 a0_1, .int .i64 a0_2, .int .i64 a0_3, .int .i64 a0_4, .int .i64 a0_5] 48 (0, 0))) ∧ Aside0 (wc.heap[gb219]? = some (.cells #[.int .i64 t211, .int .i64 t212, .int .i64 t213, .int .i64 t214, .int .i64 t215, .int .i64 t216] 48 (0, 0))) ∧ Aside0 (Below w.heap.size w wc))
                    case first =>
                      have H := HC32.out
                      clear HC32
                      replace H := Option.bind_eq_some_iff.mp H
                      obtain ⟨t220, A380, H⟩ := H
                      replace H : (if t220 = true then ((sluicewayref05_Right.f a0_0 a0_1 a0_2 a0_3 a0_4 a0_5).bind fun t221 => (sluicewaylaw05_WindowTries.j3 kj22 y204 a2 x3_22 t203 t217 t218 (!t221) a0_0 a0_1 a0_2 a0_3 a0_4 a0_5 t211 t212 t213 t214 t215 t216)) else (sluicewaylaw05_WindowTries.j3 kj22 y204 a2 x3_22 t203 t217 t218 true a0_0 a0_1 a0_2 a0_3 a0_4 a0_5 t211 t212 t213 t214 t215 t216)) = some r := H
                      have A38 := Aside0.mk A380
                      clear A380
                      by_cases c39 : t220 = true
                      · subst c39
                        have H1 : ((sluicewayref05_Right.f a0_0 a0_1 a0_2 a0_3 a0_4 a0_5).bind fun t221 => (sluicewaylaw05_WindowTries.j3 kj22 y204 a2 x3_22 t203 t217 t218 (!t221) a0_0 a0_1 a0_2 a0_3 a0_4 a0_5 t211 t212 t213 t214 t215 t216)) = some r := by rw [if_pos rfl] at H; exact H
                        clear H
                        have H := H1
                        clear H1
                        replace H := Option.bind_eq_some_iff.mp H
                        obtain ⟨t221, A400, H⟩ := H
                        replace H : (sluicewaylaw05_WindowTries.j3 kj22 y204 a2 x3_22 t203 t217 t218 (!t221) a0_0 a0_1 a0_2 a0_3 a0_4 a0_5 t211 t212 t213 t214 t215 t216) = some r := H
                        have A40 := Aside0.mk A400
                        clear A400
                        have H' := Aside0.mk H
                        clear H
                        go_wp2_with (first | ((with_reducible refine gate_callee (f := 42) rfl ?_); refine goesL_ (some 73) rfl rfl Try.func42 (by kernel_rfl) rfl #[.slice A1 y204.length c1, .int .i64 0, .int .i64 a2] rfl (by (try simp only [List.map_toArray, List.map_cons, List.map_nil]); first | done | rfl | (simp only [List.length_drop, List.length_take]; rfl)) ?_; (with_reducible refine (sluicewayref04_Right.calls _ _ y204 0 a2 true _ ?side1 ?side2 A38.out).mono ?_); (case side1 => exact Kd.C_below HR207.out (by repeat (first | (with_reducible first | exact HB.out | apply below_alloc | apply pw_below_drewN | apply below_drew1 | refine below_set ?_ GE202.out | refine below_set ?_ GE219.out) | exact HB.out))); (case side2 => exact HC207.out); rintro e w' ⟨rfl, ⟨nd, rfl⟩⟩; refine ⟨_, rfl, ?_⟩; have hnb41 := NB202_219.out; have hnc41 := NB219_202.out; have hcz42_0 : w35.cell? ⟨gb202, 0, none⟩ = some (.int .i64 a0_0) := (blk_cell BK202.out 0).trans rfl; have hcz42_1 : w35.cell? ⟨gb202, 1, none⟩ = some (.int .i64 a0_1) := (blk_cell BK202.out 1).trans rfl; have hcz42_2 : w35.cell? ⟨gb202, 2, none⟩ = some (.int .i64 a0_2) := (blk_cell BK202.out 2).trans rfl; have hcz42_3 : w35.cell? ⟨gb202, 3, none⟩ = some (.int .i64 a0_3) := (blk_cell BK202.out 3).trans rfl; have hcz42_4 : w35.cell? ⟨gb202, 4, none⟩ = some (.int .i64 a0_4) := (blk_cell BK202.out 4).trans rfl; have hcz42_5 : w35.cell? ⟨gb202, 5, none⟩ = some (.int .i64 a0_5) := (blk_cell BK202.out 5).trans rfl; have hfz42_0 := blk_frozen BK202.out 0; have hfz42_1 := blk_frozen BK202.out 1; have hfz42_2 := blk_frozen BK202.out 2; have hfz42_3 := blk_frozen BK202.out 3; have hfz42_4 := blk_frozen BK202.out 4; have hfz42_5 := blk_frozen BK202.out 5) | (go_at_call 39; (with_reducible refine (sluicewayref05_Right.calls a0_0 a0_1 a0_2 a0_3 a0_4 a0_5 t221 _ A40.out).mono ?_); rintro e w43 ⟨rfl, hb⟩; have n0_ := Aside0.mk (blk_below (g := gb202) (o := .cells #[.int .i64 a0_0, .int .i64 a0_1, .int .i64 a0_2, .int .i64 a0_3, .int .i64 a0_4, .int .i64 a0_5] 48 (0, 0)) (by (with_reducible repeat (first | refine blk_drewN ?_ _ | refine blk_drew ?_ | refine blk_alloc ?_ _)); refine blk_far ?_ NB202_219.out _; (with_reducible repeat (first | refine blk_drewN ?_ _ | refine blk_drew ?_ | refine blk_alloc ?_ _)); refine blk_far ?_ NB202_219.out _; (with_reducible repeat (first | refine blk_drewN ?_ _ | refine blk_drew ?_ | refine blk_alloc ?_ _)); refine blk_far ?_ NB202_219.out _; (with_reducible repeat (first | refine blk_drewN ?_ _ | refine blk_drew ?_ | refine blk_alloc ?_ _)); refine blk_far ?_ NB202_219.out _; (with_reducible repeat (first | refine blk_drewN ?_ _ | refine blk_drew ?_ | refine blk_alloc ?_ _)); refine blk_far ?_ NB202_219.out _; (with_reducible repeat (first | refine blk_drewN ?_ _ | refine blk_drew ?_ | refine blk_alloc ?_ _)); refine blk_far ?_ NB202_219.out _; (with_reducible repeat (first | refine blk_drewN ?_ _ | refine blk_drew ?_ | refine blk_alloc ?_ _)); exact BK202.out) hb); have n1_ := Aside0.mk (blk_below (g := gb219) (o := .cells #[.int .i64 t211, .int .i64 t212, .int .i64 t213, .int .i64 t214, .int .i64 t215, .int .i64 t216] 48 (0, 0)) (by (with_reducible repeat (first | refine blk_drewN ?_ _ | refine blk_drew ?_ | refine blk_alloc ?_ _)); refine blk_put (cs := #[.int .i64 t211, .int .i64 t212, .int .i64 t213, .int .i64 t214, .int .i64 t215, .int .i64 0]) ?_ 5 _ rfl; (with_reducible repeat (first | refine blk_drewN ?_ _ | refine blk_drew ?_ | refine blk_alloc ?_ _)); refine blk_put (cs := #[.int .i64 t211, .int .i64 t212, .int .i64 t213, .int .i64 t214, .int .i64 0, .int .i64 0]) ?_ 4 _ rfl; (with_reducible repeat (first | refine blk_drewN ?_ _ | refine blk_drew ?_ | refine blk_alloc ?_ _)); refine blk_put (cs := #[.int .i64 t211, .int .i64 t212, .int .i64 t213, .int .i64 0, .int .i64 0, .int .i64 0]) ?_ 3 _ rfl; (with_reducible repeat (first | refine blk_drewN ?_ _ | refine blk_drew ?_ | refine blk_alloc ?_ _)); refine blk_put (cs := #[.int .i64 t211, .int .i64 t212, .int .i64 0, .int .i64 0, .int .i64 0, .int .i64 0]) ?_ 2 _ rfl; (with_reducible repeat (first | refine blk_drewN ?_ _ | refine blk_drew ?_ | refine blk_alloc ?_ _)); refine blk_put (cs := #[.int .i64 t211, .int .i64 0, .int .i64 0, .int .i64 0, .int .i64 0, .int .i64 0]) ?_ 1 _ rfl; (with_reducible repeat (first | refine blk_drewN ?_ _ | refine blk_drew ?_ | refine blk_alloc ?_ _)); refine blk_put (cs := #[.int .i64 0, .int .i64 0, .int .i64 0, .int .i64 0, .int .i64 0, .int .i64 0]) ?_ 0 _ rfl; (with_reducible repeat (first | refine blk_drewN ?_ _ | refine blk_drew ?_ | refine blk_alloc ?_ _)); exact BK219.out) hb); have n2_ := Aside0.mk (below_step (by repeat (first | (with_reducible first | exact HB.out | apply below_alloc | apply pw_below_drewN | apply below_drew1 | refine below_set ?_ GE202.out | refine below_set ?_ GE219.out) | exact HB.out)) hb); clear BK202; clear BK219; clear HB; have BK202 := n0_; have BK219 := n1_; have HB := n2_; clear n0_ n1_ n2_; (try clear hb); (try clear hb2); (try clear hk); (try clear hi)))
                        go_meet
                        case rel => exact ⟨_, (!t221), (by first | rfl | (simp; done) | (simp [*]; done)), H', ⟨by have := HJ9.out; have := HJ17.out; have := HJ22.out; first | omega | exact Nat.le_refl _⟩, ⟨by (with_reducible repeat (first | refine blk_drewN ?_ _ | refine blk_drew ?_ | refine blk_alloc ?_ _)); exact BK202.out⟩, ⟨by (with_reducible repeat (first | refine blk_drewN ?_ _ | refine blk_drew ?_ | refine blk_alloc ?_ _)); exact BK219.out⟩, ⟨by repeat (first | (with_reducible first | exact HB.out | apply below_alloc | apply pw_below_drewN | apply below_drew1 | refine below_set ?_ GE202.out | refine below_set ?_ GE219.out) | exact HB.out)⟩⟩
                      · replace c39 := Bool.eq_false_iff.mpr c39
                        subst c39
                        have H1 : (sluicewaylaw05_WindowTries.j3 kj22 y204 a2 x3_22 t203 t217 t218 true a0_0 a0_1 a0_2 a0_3 a0_4 a0_5 t211 t212 t213 t214 t215 t216) = some r := by rw [if_neg (show ¬ (false = true) by decide)] at H; exact H
                        clear H
                        have H := H1
                        clear H1
                        have H' := Aside0.mk H
                        clear H
                        go_wp2_with (first | ((with_reducible refine gate_callee (f := 42) rfl ?_); refine goesL_ (some 73) rfl rfl Try.func42 (by kernel_rfl) rfl #[.slice A1 y204.length c1, .int .i64 0, .int .i64 a2] rfl (by (try simp only [List.map_toArray, List.map_cons, List.map_nil]); first | done | rfl | (simp only [List.length_drop, List.length_take]; rfl)) ?_; (with_reducible refine (sluicewayref04_Right.calls _ _ y204 0 a2 false _ ?side1 ?side2 A38.out).mono ?_); (case side1 => exact Kd.C_below HR207.out (by repeat (first | (with_reducible first | exact HB.out | apply below_alloc | apply pw_below_drewN | apply below_drew1 | refine below_set ?_ GE202.out | refine below_set ?_ GE219.out) | exact HB.out))); (case side2 => exact HC207.out); rintro e w' ⟨rfl, ⟨nd, rfl⟩⟩; refine ⟨_, rfl, ?_⟩))
                        go_meet
                        case rel => exact ⟨_, (true), (by first | rfl | (simp; done) | (simp [*]; done)), H', ⟨by have := HJ9.out; have := HJ17.out; have := HJ22.out; first | omega | exact Nat.le_refl _⟩, ⟨by (with_reducible repeat (first | refine blk_drewN ?_ _ | refine blk_drew ?_ | refine blk_alloc ?_ _)); refine blk_far ?_ NB202_219.out _; (with_reducible repeat (first | refine blk_drewN ?_ _ | refine blk_drew ?_ | refine blk_alloc ?_ _)); refine blk_far ?_ NB202_219.out _; (with_reducible repeat (first | refine blk_drewN ?_ _ | refine blk_drew ?_ | refine blk_alloc ?_ _)); refine blk_far ?_ NB202_219.out _; (with_reducible repeat (first | refine blk_drewN ?_ _ | refine blk_drew ?_ | refine blk_alloc ?_ _)); refine blk_far ?_ NB202_219.out _; (with_reducible repeat (first | refine blk_drewN ?_ _ | refine blk_drew ?_ | refine blk_alloc ?_ _)); refine blk_far ?_ NB202_219.out _; (with_reducible repeat (first | refine blk_drewN ?_ _ | refine blk_drew ?_ | refine blk_alloc ?_ _)); refine blk_far ?_ NB202_219.out _; (with_reducible repeat (first | refine blk_drewN ?_ _ | refine blk_drew ?_ | refine blk_alloc ?_ _)); exact BK202.out⟩, ⟨by (with_reducible repeat (first | refine blk_drewN ?_ _ | refine blk_drew ?_ | refine blk_alloc ?_ _)); refine blk_put (cs := #[.int .i64 t211, .int .i64 t212, .int .i64 t213, .int .i64 t214, .int .i64 t215, .int .i64 0]) ?_ 5 _ rfl; (with_reducible repeat (first | refine blk_drewN ?_ _ | refine blk_drew ?_ | refine blk_alloc ?_ _)); refine blk_put (cs := #[.int .i64 t211, .int .i64 t212, .int .i64 t213, .int .i64 t214, .int .i64 0, .int .i64 0]) ?_ 4 _ rfl; (with_reducible repeat (first | refine blk_drewN ?_ _ | refine blk_drew ?_ | refine blk_alloc ?_ _)); refine blk_put (cs := #[.int .i64 t211, .int .i64 t212, .int .i64 t213, .int .i64 0, .int .i64 0, .int .i64 0]) ?_ 3 _ rfl; (with_reducible repeat (first | refine blk_drewN ?_ _ | refine blk_drew ?_ | refine blk_alloc ?_ _)); refine blk_put (cs := #[.int .i64 t211, .int .i64 t212, .int .i64 0, .int .i64 0, .int .i64 0, .int .i64 0]) ?_ 2 _ rfl; (with_reducible repeat (first | refine blk_drewN ?_ _ | refine blk_drew ?_ | refine blk_alloc ?_ _)); refine blk_put (cs := #[.int .i64 t211, .int .i64 0, .int .i64 0, .int .i64 0, .int .i64 0, .int .i64 0]) ?_ 1 _ rfl; (with_reducible repeat (first | refine blk_drewN ?_ _ | refine blk_drew ?_ | refine blk_alloc ?_ _)); refine blk_put (cs := #[.int .i64 0, .int .i64 0, .int .i64 0, .int .i64 0, .int .i64 0, .int .i64 0]) ?_ 0 _ rfl; (with_reducible repeat (first | refine blk_drewN ?_ _ | refine blk_drew ?_ | refine blk_alloc ?_ _)); exact BK219.out⟩, ⟨by repeat (first | (with_reducible first | exact HB.out | apply below_alloc | apply pw_below_drewN | apply below_drew1 | refine below_set ?_ GE202.out | refine below_set ?_ GE219.out) | exact HB.out)⟩⟩
                    case rest =>
                      clear HC32
                      try clear c1
                      try clear q1
                      try clear c2
                      try clear p2
                      try clear c3
                      try clear c4
                      try clear p6
                      try clear c8
                      try clear c8b0
                      try clear c8b1
                      try clear c9
                      try clear c9b0
                      try clear c9b1
                      try clear q13
                      try clear c14
                      try clear c14b0
                      try clear c17
                      try clear c19
                      try clear c19b0
                      try clear c24
                      try clear c26
                      try clear c26b0
                      try clear c26b1
                      try clear c33
                      try clear c36
                      try clear c39
                      try clear c40
                      try clear c41
                      try clear c42
                      try clear hcz15_0
                      try clear hcz15_1
                      try clear hcz15_2
                      try clear hcz15_3
                      try clear hcz15_4
                      try clear hcz15_5
                      try clear hcz16_0
                      try clear hcz16_1
                      try clear hcz16_2
                      try clear hcz16_3
                      try clear hcz16_4
                      try clear hcz16_5
                      try clear hcz21_0
                      try clear hcz21_1
                      try clear hcz21_2
                      try clear hcz21_3
                      try clear hcz21_4
                      try clear hcz21_5
                      try clear hcz27_0
                      try clear hcz27_1
                      try clear hcz27_2
                      try clear hcz27_3
                      try clear hcz27_4
                      try clear hcz27_5
                      try clear hcz29_0
                      try clear hcz29_1
                      try clear hcz29_2
                      try clear hcz29_3
                      try clear hcz29_4
                      try clear hcz29_5
                      try clear hcz33_0
                      try clear hcz33_1
                      try clear hcz33_2
                      try clear hcz33_3
                      try clear hcz33_4
                      try clear hcz33_5
                      try clear hcz37_0
                      try clear hcz37_1
                      try clear hcz37_2
                      try clear hcz37_3
                      try clear hcz37_4
                      try clear hcz37_5
                      try clear hcz42_0
                      try clear hcz42_1
                      try clear hcz42_2
                      try clear hcz42_3
                      try clear hcz42_4
                      try clear hcz42_5
                      try clear hfz15_0
                      try clear hfz15_1
                      try clear hfz15_2
                      try clear hfz15_3
                      try clear hfz15_4
                      try clear hfz15_5
                      try clear hfz16_0
                      try clear hfz16_1
                      try clear hfz16_2
                      try clear hfz16_3
                      try clear hfz16_4
                      try clear hfz16_5
                      try clear hfz21_0
                      try clear hfz21_1
                      try clear hfz21_2
                      try clear hfz21_3
                      try clear hfz21_4
                      try clear hfz21_5
                      try clear hfz27_0
                      try clear hfz27_1
                      try clear hfz27_2
                      try clear hfz27_3
                      try clear hfz27_4
                      try clear hfz27_5
                      try clear hfz29_0
                      try clear hfz29_1
                      try clear hfz29_2
                      try clear hfz29_3
                      try clear hfz29_4
                      try clear hfz29_5
                      try clear hfz33_0
                      try clear hfz33_1
                      try clear hfz33_2
                      try clear hfz33_3
                      try clear hfz33_4
                      try clear hfz33_5
                      try clear hfz37_0
                      try clear hfz37_1
                      try clear hfz37_2
                      try clear hfz37_3
                      try clear hfz37_4
                      try clear hfz37_5
                      try clear hfz42_0
                      try clear hfz42_1
                      try clear hfz42_2
                      try clear hfz42_3
                      try clear hfz42_4
                      try clear hfz42_5
                      try clear p2
                      try clear p6
                      try clear q1
                      try clear q13
                      obtain ⟨kq, x79_31, rfl, HA, HJ31, BK202, BK219, HB⟩ := hcut
                      cases kq with
                      | zero => exact absurd HA.out (by simp [sluicewaylaw05_WindowTries.j3])
                      | succ kj31 =>
                        have H := HA.out
                        clear HA
                        simp only [sluicewaylaw05_WindowTries.j3] at H
                        by_cases c44 : x79_31 = true
                        · subst c44
                          have H1 : (if t203 = true then (if (t211 == a0_0 && (t212 == a0_1 && (t213 == a0_2 && (t214 == a0_3 && (t215 == a0_4 && (t216 == a0_5)))))) = true then (if t217 = 0 then (some (t218 == 1)) else (none)) else (none)) else (none)) = some r := by rw [if_pos rfl] at H; exact H
                          clear H
                          have H := H1
                          clear H1
                          by_cases c45 : t203 = true
                          · subst c45
                            have H1 : (if (t211 == a0_0 && (t212 == a0_1 && (t213 == a0_2 && (t214 == a0_3 && (t215 == a0_4 && (t216 == a0_5)))))) = true then (if t217 = 0 then (some (t218 == 1)) else (none)) else (none)) = some r := by rw [if_pos rfl] at H; exact H
                            clear H
                            have H := H1
                            clear H1
                            by_cases c46 : (t211 == a0_0 && (t212 == a0_1 && (t213 == a0_2 && (t214 == a0_3 && (t215 == a0_4 && (t216 == a0_5)))))) = true
                            · rw [if_pos c46] at H
                              have c46b0 : (t211 == a0_0 && (t212 == a0_1 && (t213 == a0_2 && (t214 == a0_3 && (t215 == a0_4 && (t216 == a0_5)))))) = true := c46
                              (try (have c46b1 : decide (t211 = a0_0 && (t212 == a0_1 && (t213 == a0_2 && (t214 == a0_3 && (t215 == a0_4 && (t216 == a0_5)))))) = true := by simpa using c46))
                              (try (have c46b2 : (t211 == a0_0 && (t212 == a0_1 && (t213 == a0_2 && (t214 == a0_3 && (t215 == a0_4 && (t216 == a0_5)))))) = true := by simpa using c46))
                              clear c46
                              by_cases c47 : t217 = 0
                              · rw [if_pos c47] at H
                                have c47b0 : (t217 == 0) = true := beq_iff_eq.mpr c47
                                have c47b1 : (t217 != 0) = false := bne_eq_false_iff_eq.mpr c47
                                clear c47
                                obtain rfl := Option.some.inj H
                                have hnb48 := NB219_202.out
                                have hnc48 := NB202_219.out
                                have hcz49_0 : wc.cell? ⟨gb219, 0, none⟩ = some (.int .i64 t211) := (blk_cell BK219.out 0).trans rfl
                                have hcz49_1 : wc.cell? ⟨gb219, 1, none⟩ = some (.int .i64 t212) := (blk_cell BK219.out 1).trans rfl
                                have hcz49_2 : wc.cell? ⟨gb219, 2, none⟩ = some (.int .i64 t213) := (blk_cell BK219.out 2).trans rfl
                                have hcz49_3 : wc.cell? ⟨gb219, 3, none⟩ = some (.int .i64 t214) := (blk_cell BK219.out 3).trans rfl
                                have hcz49_4 : wc.cell? ⟨gb219, 4, none⟩ = some (.int .i64 t215) := (blk_cell BK219.out 4).trans rfl
                                have hcz49_5 : wc.cell? ⟨gb219, 5, none⟩ = some (.int .i64 t216) := (blk_cell BK219.out 5).trans rfl
                                have hfz49_0 := blk_frozen BK219.out 0
                                have hfz49_1 := blk_frozen BK219.out 1
                                have hfz49_2 := blk_frozen BK219.out 2
                                have hfz49_3 := blk_frozen BK219.out 3
                                have hfz49_4 := blk_frozen BK219.out 4
                                have hfz49_5 := blk_frozen BK219.out 5
                                have hcz50_0 : wc.cell? ⟨gb202, 0, none⟩ = some (.int .i64 a0_0) := (blk_cell BK202.out 0).trans rfl
                                have hcz50_1 : wc.cell? ⟨gb202, 1, none⟩ = some (.int .i64 a0_1) := (blk_cell BK202.out 1).trans rfl
                                have hcz50_2 : wc.cell? ⟨gb202, 2, none⟩ = some (.int .i64 a0_2) := (blk_cell BK202.out 2).trans rfl
                                have hcz50_3 : wc.cell? ⟨gb202, 3, none⟩ = some (.int .i64 a0_3) := (blk_cell BK202.out 3).trans rfl
                                have hcz50_4 : wc.cell? ⟨gb202, 4, none⟩ = some (.int .i64 a0_4) := (blk_cell BK202.out 4).trans rfl
                                have hcz50_5 : wc.cell? ⟨gb202, 5, none⟩ = some (.int .i64 a0_5) := (blk_cell BK202.out 5).trans rfl
                                have hfz50_0 := blk_frozen BK202.out 0
                                have hfz50_1 := blk_frozen BK202.out 1
                                have hfz50_2 := blk_frozen BK202.out 2
                                have hfz50_3 := blk_frozen BK202.out 3
                                have hfz50_4 := blk_frozen BK202.out 4
                                have hfz50_5 := blk_frozen BK202.out 5
                                go_wp2
                                go_ret
                                exact ⟨by first | rfl | (simp [errW_none, errW_some] <;> rfl) | (simp only [← hji7]; first | rfl | (simp [errW_none, errW_some] <;> rfl)) | (simp [*, errW_none, errW_some] <;> rfl), by repeat (first | (with_reducible first | exact HB.out | apply below_alloc | apply pw_below_drewN | apply below_drew1 | refine below_set ?_ GE202.out | refine below_set ?_ GE219.out) | exact HB.out)⟩
                              · rw [if_neg c47] at H
                                exact absurd H (by simp)
                            · rw [if_neg c46] at H
                              exact absurd H (by simp)
                          · replace c45 := Bool.eq_false_iff.mpr c45
                            subst c45
                            have H1 : (none) = some r := by rw [if_neg (show ¬ (false = true) by decide)] at H; exact H
                            clear H
                            have H := H1
                            clear H1
                            exact absurd H (by simp)
                        · replace c44 := Bool.eq_false_iff.mpr c44
                          subst c44
                          have H1 : (sluicewaylaw05_WindowTries.l0 kj31 y204 a2 x3_22 t203 t217 t218 ([] : List Int) a0_0 a0_0 a0_1 a0_2 a0_3 a0_4 a0_5 t211 t212 t213 t214 t215 t216) = some r := by rw [if_neg (show ¬ (false = true) by decide)] at H; exact H
                          clear H
                          have H := H1
                          clear H1
                          have H' := Aside0.mk H
                          clear H
                          have hnb51 := NB202_219.out
                          have hnc51 := NB219_202.out
                          have hcz52_0 : wc.cell? ⟨gb202, 0, none⟩ = some (.int .i64 a0_0) := (blk_cell BK202.out 0).trans rfl
                          have hcz52_1 : wc.cell? ⟨gb202, 1, none⟩ = some (.int .i64 a0_1) := (blk_cell BK202.out 1).trans rfl
                          have hcz52_2 : wc.cell? ⟨gb202, 2, none⟩ = some (.int .i64 a0_2) := (blk_cell BK202.out 2).trans rfl
                          have hcz52_3 : wc.cell? ⟨gb202, 3, none⟩ = some (.int .i64 a0_3) := (blk_cell BK202.out 3).trans rfl
                          have hcz52_4 : wc.cell? ⟨gb202, 4, none⟩ = some (.int .i64 a0_4) := (blk_cell BK202.out 4).trans rfl
                          have hcz52_5 : wc.cell? ⟨gb202, 5, none⟩ = some (.int .i64 a0_5) := (blk_cell BK202.out 5).trans rfl
                          have hfz52_0 := blk_frozen BK202.out 0
                          have hfz52_1 := blk_frozen BK202.out 1
                          have hfz52_2 := blk_frozen BK202.out 2
                          have hfz52_3 := blk_frozen BK202.out 3
                          have hfz52_4 := blk_frozen BK202.out 4
                          have hfz52_5 := blk_frozen BK202.out 5
                          go_wp2
                          go_loopg [17, 18] kj31 (fun kq v17 v18 w' => ∃ (x17_5 : List Int) (x18_5 : Int), v18 = .int .i64 x18_5 ∧ Aside0 (sluicewaylaw05_WindowTries.l0 kq y204 a2 x3_22 t203 t217 t218 x17_5 x18_5 a0_0 a0_1 a0_2 a0_3 a0_4 a0_5 t211 t212 t213 t214 t215 t216 = some r) ∧ Aside0 (kq ≤ kj31) ∧ Aside0 (Kd.R (Kd.int .i64) 3 w' w.heap.size (fun _ => True) v17 x17_5) ∧ Aside0 (w'.heap[gb202]? = some (.cells #[.int .i64 a0_0, .int .i64 a0_1, .int .i64 a0_2, .int .i64 a0_3, .int .i64 a0_4, .int .i64 a0_5] 48 (0, 0))) ∧ Aside0 (w'.heap[gb219]? = some (.cells #[.int .i64 t211, .int .i64 t212, .int .i64 t213, .int .i64 t214, .int .i64 t215, .int .i64 t216] 48 (0, 0))) ∧ Aside0 (Below w.heap.size w w'))
                          case atStart => exact ⟨(([] : List Int)), (a0_0), (by first | rfl | (simp; done) | (simp [*]; done)), H', ⟨Nat.le_refl _⟩, ⟨by first | exact Kd.R_nil _ _ _ _ _ | exact Kd.N_nil _ _ _ _ _ | exact Kd.V_nil _ _ _ _ _ | exact Kd.Q_nil _ _ _ _ _ | exact Kd.S_nil _ _ _ _ _⟩, ⟨by (with_reducible repeat (first | refine blk_drewN ?_ _ | refine blk_drew ?_ | refine blk_alloc ?_ _)); exact BK202.out⟩, ⟨by (with_reducible repeat (first | refine blk_drewN ?_ _ | refine blk_drew ?_ | refine blk_alloc ?_ _)); exact BK219.out⟩, ⟨by repeat (first | (with_reducible first | exact HB.out | apply below_alloc | apply pw_below_drewN | apply below_drew1 | refine below_set ?_ GE202.out | refine below_set ?_ GE219.out) | exact HB.out)⟩⟩
                          case round =>
                            clear H'
                            try clear c1
                            try clear q1
                            try clear c2
                            try clear p2
                            try clear c3
                            try clear c4
                            try clear c5
                            try clear p6
                            try clear c8
                            try clear c8b0
                            try clear c8b1
                            try clear c9
                            try clear c9b0
                            try clear c9b1
                            try clear q13
                            try clear c14
                            try clear c14b0
                            try clear c17
                            try clear c19
                            try clear c19b0
                            try clear c24
                            try clear c26
                            try clear c26b0
                            try clear c26b1
                            try clear c33
                            try clear c36
                            try clear c39
                            try clear c40
                            try clear c41
                            try clear c42
                            try clear c44
                            try clear c45
                            try clear c46
                            try clear c46b0
                            try clear c46b1
                            try clear c46b2
                            try clear c47
                            try clear c47b0
                            try clear c47b1
                            try clear c48
                            try clear c51
                            try clear hcz15_0
                            try clear hcz15_1
                            try clear hcz15_2
                            try clear hcz15_3
                            try clear hcz15_4
                            try clear hcz15_5
                            try clear hcz16_0
                            try clear hcz16_1
                            try clear hcz16_2
                            try clear hcz16_3
                            try clear hcz16_4
                            try clear hcz16_5
                            try clear hcz21_0
                            try clear hcz21_1
                            try clear hcz21_2
                            try clear hcz21_3
                            try clear hcz21_4
                            try clear hcz21_5
                            try clear hcz27_0
                            try clear hcz27_1
                            try clear hcz27_2
                            try clear hcz27_3
                            try clear hcz27_4
                            try clear hcz27_5
                            try clear hcz29_0
                            try clear hcz29_1
                            try clear hcz29_2
                            try clear hcz29_3
                            try clear hcz29_4
                            try clear hcz29_5
                            try clear hcz33_0
                            try clear hcz33_1
                            try clear hcz33_2
                            try clear hcz33_3
                            try clear hcz33_4
                            try clear hcz33_5
                            try clear hcz37_0
                            try clear hcz37_1
                            try clear hcz37_2
                            try clear hcz37_3
                            try clear hcz37_4
                            try clear hcz37_5
                            try clear hcz42_0
                            try clear hcz42_1
                            try clear hcz42_2
                            try clear hcz42_3
                            try clear hcz42_4
                            try clear hcz42_5
                            try clear hcz49_0
                            try clear hcz49_1
                            try clear hcz49_2
                            try clear hcz49_3
                            try clear hcz49_4
                            try clear hcz49_5
                            try clear hcz50_0
                            try clear hcz50_1
                            try clear hcz50_2
                            try clear hcz50_3
                            try clear hcz50_4
                            try clear hcz50_5
                            try clear hcz52_0
                            try clear hcz52_1
                            try clear hcz52_2
                            try clear hcz52_3
                            try clear hcz52_4
                            try clear hcz52_5
                            try clear hfz15_0
                            try clear hfz15_1
                            try clear hfz15_2
                            try clear hfz15_3
                            try clear hfz15_4
                            try clear hfz15_5
                            try clear hfz16_0
                            try clear hfz16_1
                            try clear hfz16_2
                            try clear hfz16_3
                            try clear hfz16_4
                            try clear hfz16_5
                            try clear hfz21_0
                            try clear hfz21_1
                            try clear hfz21_2
                            try clear hfz21_3
                            try clear hfz21_4
                            try clear hfz21_5
                            try clear hfz27_0
                            try clear hfz27_1
                            try clear hfz27_2
                            try clear hfz27_3
                            try clear hfz27_4
                            try clear hfz27_5
                            try clear hfz29_0
                            try clear hfz29_1
                            try clear hfz29_2
                            try clear hfz29_3
                            try clear hfz29_4
                            try clear hfz29_5
                            try clear hfz33_0
                            try clear hfz33_1
                            try clear hfz33_2
                            try clear hfz33_3
                            try clear hfz33_4
                            try clear hfz33_5
                            try clear hfz37_0
                            try clear hfz37_1
                            try clear hfz37_2
                            try clear hfz37_3
                            try clear hfz37_4
                            try clear hfz37_5
                            try clear hfz42_0
                            try clear hfz42_1
                            try clear hfz42_2
                            try clear hfz42_3
                            try clear hfz42_4
                            try clear hfz42_5
                            try clear hfz49_0
                            try clear hfz49_1
                            try clear hfz49_2
                            try clear hfz49_3
                            try clear hfz49_4
                            try clear hfz49_5
                            try clear hfz50_0
                            try clear hfz50_1
                            try clear hfz50_2
                            try clear hfz50_3
                            try clear hfz50_4
                            try clear hfz50_5
                            try clear hfz52_0
                            try clear hfz52_1
                            try clear hfz52_2
                            try clear hfz52_3
                            try clear hfz52_4
                            try clear hfz52_5
                            try clear p2
                            try clear p6
                            try clear q1
                            try clear q13
                            obtain ⟨x17_5, x18_5, rfl, HA, HK5, HO_17, BK202, BK219, HB⟩ := hrel
                            cases gk with
                            | zero => exact absurd HA.out (by simp [sluicewaylaw05_WindowTries.l0])
                            | succ k5 =>
                              have H := HA.out
                              clear HA
                              simp only [sluicewaylaw05_WindowTries.l0] at H
                              by_cases c53 : x18_5 ≤ (wrap64 ((wrap64 (a0_0 + a0_1)) + a0_2))
                              · rw [if_pos c53] at H
                                have c53b0 : decide (x18_5 ≤ (wrap64 ((wrap64 (a0_0 + a0_1)) + a0_2))) = true := decide_eq_true c53
                                clear c53
                                replace H := Option.bind_eq_some_iff.mp H
                                obtain ⟨⟨t222, t223⟩, A540, H⟩ := H
                                replace H : (if t223 = 0 then (if t222 = x3_22 then (if x17_5.length < 17592186044416 then (sluicewaylaw05_WindowTries.l0 k5 y204 a2 x3_22 t203 t217 t218 (x17_5 ++ [x18_5]) (wrap64 (x18_5 + 1)) a0_0 a0_1 a0_2 a0_3 a0_4 a0_5 t211 t212 t213 t214 t215 t216) else (none)) else (sluicewaylaw05_WindowTries.l0 k5 y204 a2 x3_22 t203 t217 t218 x17_5 (wrap64 (x18_5 + 1)) a0_0 a0_1 a0_2 a0_3 a0_4 a0_5 t211 t212 t213 t214 t215 t216)) else (sluicewaylaw05_WindowTries.l0 k5 y204 a2 x3_22 t203 t217 t218 x17_5 (wrap64 (x18_5 + 1)) a0_0 a0_1 a0_2 a0_3 a0_4 a0_5 t211 t212 t213 t214 t215 t216)) = some r := H
                                have A54 := Aside0.mk A540
                                clear A540
                                by_cases c55 : t223 = 0
                                · rw [if_pos c55] at H
                                  have c55b0 : (t223 == 0) = true := beq_iff_eq.mpr c55
                                  have c55b1 : (t223 != 0) = false := bne_eq_false_iff_eq.mpr c55
                                  clear c55
                                  by_cases c56 : t222 = x3_22
                                  · rw [if_pos c56] at H
                                    have c56b0 : (t222 == x3_22) = true := beq_iff_eq.mpr c56
                                    have c56b1 : (t222 != x3_22) = false := bne_eq_false_iff_eq.mpr c56
                                    clear c56
                                    by_cases c57 : x17_5.length < 17592186044416
                                    · rw [if_pos c57] at H
                                      have LMc57 := Aside0.mk c57
                                      clear c57
                                      obtain ⟨y224, hy224⟩ : ∃ y_ : List Int, y_ = (x17_5 ++ [x18_5]) := ⟨_, rfl⟩
                                      replace H : (sluicewaylaw05_WindowTries.l0 k5 y204 a2 x3_22 t203 t217 t218 y224 (wrap64 (x18_5 + 1)) a0_0 a0_1 a0_2 a0_3 a0_4 a0_5 t211 t212 t213 t214 t215 t216) = some r := by first | (rw [hy224]; with_reducible exact H) | (have H2_ := (Option.bind_some _ _).symm.trans H; rw [hy224]; with_reducible exact H2_) | (have H2_ := (Option.bind_some _ _).symm.trans H; with_reducible exact H2_) | with_reducible exact H | (rw [hy224]; exact H) | exact H
                                      have Ny224 := Aside0.mk hy224
                                      clear hy224
                                      have H' := Aside0.mk H
                                      clear H
                                      have hnb58 := NB202_219.out
                                      have hnc58 := NB219_202.out
                                      have hcz59_0 : wr.cell? ⟨gb202, 0, none⟩ = some (.int .i64 a0_0) := (blk_cell BK202.out 0).trans rfl
                                      have hcz59_1 : wr.cell? ⟨gb202, 1, none⟩ = some (.int .i64 a0_1) := (blk_cell BK202.out 1).trans rfl
                                      have hcz59_2 : wr.cell? ⟨gb202, 2, none⟩ = some (.int .i64 a0_2) := (blk_cell BK202.out 2).trans rfl
                                      have hcz59_3 : wr.cell? ⟨gb202, 3, none⟩ = some (.int .i64 a0_3) := (blk_cell BK202.out 3).trans rfl
                                      have hcz59_4 : wr.cell? ⟨gb202, 4, none⟩ = some (.int .i64 a0_4) := (blk_cell BK202.out 4).trans rfl
                                      have hcz59_5 : wr.cell? ⟨gb202, 5, none⟩ = some (.int .i64 a0_5) := (blk_cell BK202.out 5).trans rfl
                                      have hfz59_0 := blk_frozen BK202.out 0
                                      have hfz59_1 := blk_frozen BK202.out 1
                                      have hfz59_2 := blk_frozen BK202.out 2
                                      have hfz59_3 := blk_frozen BK202.out 3
                                      have hfz59_4 := blk_frozen BK202.out 4
                                      have hfz59_5 := blk_frozen BK202.out 5
                                      go_wp2_with (first | ((with_reducible refine gate_callee (f := 40) rfl ?_); refine goesL_ (some 112) rfl rfl Try.func40 (by kernel_rfl) rfl #[.slice A1 y204.length c1, .int .i64 x18_5, .int .i64 a2] rfl (by (try simp only [List.map_toArray, List.map_cons, List.map_nil]); first | done | rfl | (simp only [List.length_drop, List.length_take]; rfl)) ?_; (with_reducible refine (otp_Code.calls _ _ y204 x18_5 a2 t222 t223 _ ?side1 ?side2 A54.out).mono ?_); (case side1 => repeat (first | exact (Kd.C_below HR207.out HB.out) | (with_reducible refine Kd.C_alloc ?_ _) | (with_reducible refine Kd.C_drewN ?_ _) | (with_reducible refine Kd.C_drew ?_))); (case side2 => exact HC207.out); rintro e w60 ⟨rfl, hb⟩; refine ⟨_, rfl, ?_⟩; have n0_ := Aside0.mk (Kd.R_below (by (with_reducible repeat (first | apply Kd.R_alloc | apply Kd.R_drewN | apply Kd.R_drew)); exact HO_17.out) hb); have n1_ := Aside0.mk (blk_below (g := gb202) (o := .cells #[.int .i64 a0_0, .int .i64 a0_1, .int .i64 a0_2, .int .i64 a0_3, .int .i64 a0_4, .int .i64 a0_5] 48 (0, 0)) (by (with_reducible repeat (first | refine blk_drewN ?_ _ | refine blk_drew ?_ | refine blk_alloc ?_ _)); exact BK202.out) hb); have n2_ := Aside0.mk (blk_below (g := gb219) (o := .cells #[.int .i64 t211, .int .i64 t212, .int .i64 t213, .int .i64 t214, .int .i64 t215, .int .i64 t216] 48 (0, 0)) (by (with_reducible repeat (first | refine blk_drewN ?_ _ | refine blk_drew ?_ | refine blk_alloc ?_ _)); exact BK219.out) hb); have n3_ := Aside0.mk (below_step (by repeat (first | (with_reducible first | exact HB.out | apply below_alloc | apply pw_below_drewN | apply below_drew1 | refine below_set ?_ GE202.out | refine below_set ?_ GE219.out) | exact HB.out)) hb); clear HO_17; clear BK202; clear BK219; clear HB; have HO_17 := n0_; have BK202 := n1_; have BK219 := n2_; have HB := n3_; clear n0_ n1_ n2_ n3_; (try clear hb); (try clear hb2); (try clear hk); (try clear hi)) | ((with_reducible refine gate_builtin (b := .append) (xs := #[.tmp 122, .tmp 124]) rfl ?_); at_builtin; refine Kd.R_append (Kd.int .i64) (w0 := w) w.heap.size rfl (.tmp 122) (.tmp 124) 54 3 (.int .i64 0) 8 rfl Try.underlying54 info3 rfl (by decide) (by omega) u17 x17_5 x18_5 [.int .i64 x18_5] (fun _ => True) (fun _ => False) rfl rfl ?aP (fun _ hk => hk.elim) ?aF ?aO ?aB ?aS ?aL ?_; (case aP => exact rfl); (case aB => exact (by repeat (first | (with_reducible first | exact HB.out | apply below_alloc | apply pw_below_drewN | apply below_drew1 | refine below_set ?_ GE202.out | refine below_set ?_ GE219.out) | exact HB.out))); (case aF => exact (fun _ _ => trivial)); (case aO => exact (by (with_reducible repeat (first | apply Kd.R_alloc | apply Kd.R_drewN | apply Kd.R_drew)); exact HO_17.out)); (case aS => exact (below_size (by repeat (first | (with_reducible first | exact HB.out | apply below_alloc | apply pw_below_drewN | apply below_drew1 | refine below_set ?_ GE202.out | refine below_set ?_ GE219.out) | exact HB.out)))); (case aL => have := LMc57.out; omega); intro v225 w61 ho hb hg hat; rw [← Ny224.out] at ho; have n0_ := Aside0.mk (blk_grown (g := gb202) (o := .cells #[.int .i64 a0_0, .int .i64 a0_1, .int .i64 a0_2, .int .i64 a0_3, .int .i64 a0_4, .int .i64 a0_5] 48 (0, 0)) (by (with_reducible repeat (first | refine blk_drewN ?_ _ | refine blk_drew ?_ | refine blk_alloc ?_ _)); exact BK202.out) hg (Kd.R_ne HO_17.out BK202.out (by decide))); have n1_ := Aside0.mk (blk_grown (g := gb219) (o := .cells #[.int .i64 t211, .int .i64 t212, .int .i64 t213, .int .i64 t214, .int .i64 t215, .int .i64 t216] 48 (0, 0)) (by (with_reducible repeat (first | refine blk_drewN ?_ _ | refine blk_drew ?_ | refine blk_alloc ?_ _)); exact BK219.out) hg (Kd.R_ne HO_17.out BK219.out (by decide))); have n2_ := Aside0.mk (hb); have n3_ := Aside0.mk (ho); clear BK202; clear BK219; clear HB; clear HO_17; have BK202 := n0_; have BK219 := n1_; have HB := n2_; have HO226 := n3_; clear n0_ n1_ n2_ n3_; clear ho hb hg hat))
                                      go_roundg k5
                                      case measure => have := HJ9.out; have := HJ17.out; have := HJ22.out; have := HJ31.out; have := HK5.out; omega
                                      case rel => exact ⟨(y224), (wrap64 (x18_5 + 1)), (by first | rfl | (simp; done) | (simp [*]; done)), H', ⟨by have := HJ9.out; have := HJ17.out; have := HJ22.out; have := HJ31.out; have := HK5.out; omega⟩, ⟨by (with_reducible repeat (first | apply Kd.R_alloc | apply Kd.R_drewN | apply Kd.R_drew)); exact HO226.out⟩, ⟨by (with_reducible repeat (first | refine blk_drewN ?_ _ | refine blk_drew ?_ | refine blk_alloc ?_ _)); exact BK202.out⟩, ⟨by (with_reducible repeat (first | refine blk_drewN ?_ _ | refine blk_drew ?_ | refine blk_alloc ?_ _)); exact BK219.out⟩, ⟨by repeat (first | (with_reducible first | exact HB.out | apply below_alloc | apply pw_below_drewN | apply below_drew1 | refine below_set ?_ GE202.out | refine below_set ?_ GE219.out) | exact HB.out)⟩⟩
                                    · rw [if_neg c57] at H
                                      exact absurd H (by simp)
                                  · rw [if_neg c56] at H
                                    have c56b0 : (t222 == x3_22) = false := beq_eq_false_iff_ne.mpr c56
                                    have c56b1 : (t222 != x3_22) = true := bne_iff_ne.mpr c56
                                    have H' := Aside0.mk H
                                    clear H
                                    have hnb62 := NB202_219.out
                                    have hnc62 := NB219_202.out
                                    have hcz63_0 : wr.cell? ⟨gb202, 0, none⟩ = some (.int .i64 a0_0) := (blk_cell BK202.out 0).trans rfl
                                    have hcz63_1 : wr.cell? ⟨gb202, 1, none⟩ = some (.int .i64 a0_1) := (blk_cell BK202.out 1).trans rfl
                                    have hcz63_2 : wr.cell? ⟨gb202, 2, none⟩ = some (.int .i64 a0_2) := (blk_cell BK202.out 2).trans rfl
                                    have hcz63_3 : wr.cell? ⟨gb202, 3, none⟩ = some (.int .i64 a0_3) := (blk_cell BK202.out 3).trans rfl
                                    have hcz63_4 : wr.cell? ⟨gb202, 4, none⟩ = some (.int .i64 a0_4) := (blk_cell BK202.out 4).trans rfl
                                    have hcz63_5 : wr.cell? ⟨gb202, 5, none⟩ = some (.int .i64 a0_5) := (blk_cell BK202.out 5).trans rfl
                                    have hfz63_0 := blk_frozen BK202.out 0
                                    have hfz63_1 := blk_frozen BK202.out 1
                                    have hfz63_2 := blk_frozen BK202.out 2
                                    have hfz63_3 := blk_frozen BK202.out 3
                                    have hfz63_4 := blk_frozen BK202.out 4
                                    have hfz63_5 := blk_frozen BK202.out 5
                                    go_wp2_with (first | ((with_reducible refine gate_callee (f := 40) rfl ?_); refine goesL_ (some 112) rfl rfl Try.func40 (by kernel_rfl) rfl #[.slice A1 y204.length c1, .int .i64 x18_5, .int .i64 a2] rfl (by (try simp only [List.map_toArray, List.map_cons, List.map_nil]); first | done | rfl | (simp only [List.length_drop, List.length_take]; rfl)) ?_; (with_reducible refine (otp_Code.calls _ _ y204 x18_5 a2 t222 t223 _ ?side1 ?side2 A54.out).mono ?_); (case side1 => repeat (first | exact (Kd.C_below HR207.out HB.out) | (with_reducible refine Kd.C_alloc ?_ _) | (with_reducible refine Kd.C_drewN ?_ _) | (with_reducible refine Kd.C_drew ?_))); (case side2 => exact HC207.out); rintro e w64 ⟨rfl, hb⟩; refine ⟨_, rfl, ?_⟩; have n0_ := Aside0.mk (Kd.R_below (by (with_reducible repeat (first | apply Kd.R_alloc | apply Kd.R_drewN | apply Kd.R_drew)); exact HO_17.out) hb); have n1_ := Aside0.mk (blk_below (g := gb202) (o := .cells #[.int .i64 a0_0, .int .i64 a0_1, .int .i64 a0_2, .int .i64 a0_3, .int .i64 a0_4, .int .i64 a0_5] 48 (0, 0)) (by (with_reducible repeat (first | refine blk_drewN ?_ _ | refine blk_drew ?_ | refine blk_alloc ?_ _)); exact BK202.out) hb); have n2_ := Aside0.mk (blk_below (g := gb219) (o := .cells #[.int .i64 t211, .int .i64 t212, .int .i64 t213, .int .i64 t214, .int .i64 t215, .int .i64 t216] 48 (0, 0)) (by (with_reducible repeat (first | refine blk_drewN ?_ _ | refine blk_drew ?_ | refine blk_alloc ?_ _)); exact BK219.out) hb); have n3_ := Aside0.mk (below_step (by repeat (first | (with_reducible first | exact HB.out | apply below_alloc | apply pw_below_drewN | apply below_drew1 | refine below_set ?_ GE202.out | refine below_set ?_ GE219.out) | exact HB.out)) hb); clear HO_17; clear BK202; clear BK219; clear HB; have HO_17 := n0_; have BK202 := n1_; have BK219 := n2_; have HB := n3_; clear n0_ n1_ n2_ n3_; (try clear hb); (try clear hb2); (try clear hk); (try clear hi)))
                                    go_roundg k5
                                    case measure => have := HJ9.out; have := HJ17.out; have := HJ22.out; have := HJ31.out; have := HK5.out; omega
                                    case rel => exact ⟨(x17_5), (wrap64 (x18_5 + 1)), (by first | rfl | (simp; done) | (simp [*]; done)), H', ⟨by have := HJ9.out; have := HJ17.out; have := HJ22.out; have := HJ31.out; have := HK5.out; omega⟩, ⟨by (with_reducible repeat (first | apply Kd.R_alloc | apply Kd.R_drewN | apply Kd.R_drew)); exact HO_17.out⟩, ⟨by (with_reducible repeat (first | refine blk_drewN ?_ _ | refine blk_drew ?_ | refine blk_alloc ?_ _)); exact BK202.out⟩, ⟨by (with_reducible repeat (first | refine blk_drewN ?_ _ | refine blk_drew ?_ | refine blk_alloc ?_ _)); exact BK219.out⟩, ⟨by repeat (first | (with_reducible first | exact HB.out | apply below_alloc | apply pw_below_drewN | apply below_drew1 | refine below_set ?_ GE202.out | refine below_set ?_ GE219.out) | exact HB.out)⟩⟩
                                · rw [if_neg c55] at H
                                  have c55b0 : (t223 == 0) = false := beq_eq_false_iff_ne.mpr c55
                                  have c55b1 : (t223 != 0) = true := bne_iff_ne.mpr c55
                                  have H' := Aside0.mk H
                                  clear H
                                  have hnb65 := NB202_219.out
                                  have hnc65 := NB219_202.out
                                  have hcz66_0 : wr.cell? ⟨gb202, 0, none⟩ = some (.int .i64 a0_0) := (blk_cell BK202.out 0).trans rfl
                                  have hcz66_1 : wr.cell? ⟨gb202, 1, none⟩ = some (.int .i64 a0_1) := (blk_cell BK202.out 1).trans rfl
                                  have hcz66_2 : wr.cell? ⟨gb202, 2, none⟩ = some (.int .i64 a0_2) := (blk_cell BK202.out 2).trans rfl
                                  have hcz66_3 : wr.cell? ⟨gb202, 3, none⟩ = some (.int .i64 a0_3) := (blk_cell BK202.out 3).trans rfl
                                  have hcz66_4 : wr.cell? ⟨gb202, 4, none⟩ = some (.int .i64 a0_4) := (blk_cell BK202.out 4).trans rfl
                                  have hcz66_5 : wr.cell? ⟨gb202, 5, none⟩ = some (.int .i64 a0_5) := (blk_cell BK202.out 5).trans rfl
                                  have hfz66_0 := blk_frozen BK202.out 0
                                  have hfz66_1 := blk_frozen BK202.out 1
                                  have hfz66_2 := blk_frozen BK202.out 2
                                  have hfz66_3 := blk_frozen BK202.out 3
                                  have hfz66_4 := blk_frozen BK202.out 4
                                  have hfz66_5 := blk_frozen BK202.out 5
                                  go_wp2_with (first | ((with_reducible refine gate_callee (f := 40) rfl ?_); refine goesL_ (some 112) rfl rfl Try.func40 (by kernel_rfl) rfl #[.slice A1 y204.length c1, .int .i64 x18_5, .int .i64 a2] rfl (by (try simp only [List.map_toArray, List.map_cons, List.map_nil]); first | done | rfl | (simp only [List.length_drop, List.length_take]; rfl)) ?_; (with_reducible refine (otp_Code.calls _ _ y204 x18_5 a2 t222 t223 _ ?side1 ?side2 A54.out).mono ?_); (case side1 => repeat (first | exact (Kd.C_below HR207.out HB.out) | (with_reducible refine Kd.C_alloc ?_ _) | (with_reducible refine Kd.C_drewN ?_ _) | (with_reducible refine Kd.C_drew ?_))); (case side2 => exact HC207.out); rintro e w67 ⟨rfl, hb⟩; refine ⟨_, rfl, ?_⟩; have n0_ := Aside0.mk (Kd.R_below (by (with_reducible repeat (first | apply Kd.R_alloc | apply Kd.R_drewN | apply Kd.R_drew)); exact HO_17.out) hb); have n1_ := Aside0.mk (blk_below (g := gb202) (o := .cells #[.int .i64 a0_0, .int .i64 a0_1, .int .i64 a0_2, .int .i64 a0_3, .int .i64 a0_4, .int .i64 a0_5] 48 (0, 0)) (by (with_reducible repeat (first | refine blk_drewN ?_ _ | refine blk_drew ?_ | refine blk_alloc ?_ _)); exact BK202.out) hb); have n2_ := Aside0.mk (blk_below (g := gb219) (o := .cells #[.int .i64 t211, .int .i64 t212, .int .i64 t213, .int .i64 t214, .int .i64 t215, .int .i64 t216] 48 (0, 0)) (by (with_reducible repeat (first | refine blk_drewN ?_ _ | refine blk_drew ?_ | refine blk_alloc ?_ _)); exact BK219.out) hb); have n3_ := Aside0.mk (below_step (by repeat (first | (with_reducible first | exact HB.out | apply below_alloc | apply pw_below_drewN | apply below_drew1 | refine below_set ?_ GE202.out | refine below_set ?_ GE219.out) | exact HB.out)) hb); clear HO_17; clear BK202; clear BK219; clear HB; have HO_17 := n0_; have BK202 := n1_; have BK219 := n2_; have HB := n3_; clear n0_ n1_ n2_ n3_; (try clear hb); (try clear hb2); (try clear hk); (try clear hi)))
                                  go_roundg k5
                                  case measure => have := HJ9.out; have := HJ17.out; have := HJ22.out; have := HJ31.out; have := HK5.out; omega
                                  case rel => exact ⟨(x17_5), (wrap64 (x18_5 + 1)), (by first | rfl | (simp; done) | (simp [*]; done)), H', ⟨by have := HJ9.out; have := HJ17.out; have := HJ22.out; have := HJ31.out; have := HK5.out; omega⟩, ⟨by (with_reducible repeat (first | apply Kd.R_alloc | apply Kd.R_drewN | apply Kd.R_drew)); exact HO_17.out⟩, ⟨by (with_reducible repeat (first | refine blk_drewN ?_ _ | refine blk_drew ?_ | refine blk_alloc ?_ _)); exact BK202.out⟩, ⟨by (with_reducible repeat (first | refine blk_drewN ?_ _ | refine blk_drew ?_ | refine blk_alloc ?_ _)); exact BK219.out⟩, ⟨by repeat (first | (with_reducible first | exact HB.out | apply below_alloc | apply pw_below_drewN | apply below_drew1 | refine below_set ?_ GE202.out | refine below_set ?_ GE219.out) | exact HB.out)⟩⟩
                              · rw [if_neg c53] at H
                                have c53b0 : decide (x18_5 ≤ (wrap64 ((wrap64 (a0_0 + a0_1)) + a0_2))) = false := decide_eq_false c53
                                clear c53
                                replace H := Option.bind_eq_some_iff.mp H
                                obtain ⟨⟨t227, t228⟩, A680, H⟩ := H
                                replace H : (if t228 = 0 then (if t227 = x3_22 then (if x17_5.length < 17592186044416 then ((sluicewayref05_Accept.f k5 a0_0 a0_1 a0_2 a0_3 a0_4 a0_5 (x17_5 ++ [a0_3])).bind fun bt232 => (if t203 = true then (if (t211 == bt232.1 && (t212 == bt232.2.1 && (t213 == bt232.2.2.1 && (t214 == bt232.2.2.2.1 && (t215 == bt232.2.2.2.2.1 && (t216 == bt232.2.2.2.2.2.1)))))) = true then (if t217 = bt232.2.2.2.2.2.2.1 then (some (t218 == bt232.2.2.2.2.2.2.2)) else (none)) else (none)) else (none))) else (none)) else ((sluicewayref05_Accept.f k5 a0_0 a0_1 a0_2 a0_3 a0_4 a0_5 x17_5).bind fun bt241 => (if t203 = true then (if (t211 == bt241.1 && (t212 == bt241.2.1 && (t213 == bt241.2.2.1 && (t214 == bt241.2.2.2.1 && (t215 == bt241.2.2.2.2.1 && (t216 == bt241.2.2.2.2.2.1)))))) = true then (if t217 = bt241.2.2.2.2.2.2.1 then (some (t218 == bt241.2.2.2.2.2.2.2)) else (none)) else (none)) else (none)))) else ((sluicewayref05_Accept.f k5 a0_0 a0_1 a0_2 a0_3 a0_4 a0_5 x17_5).bind fun bt250 => (if t203 = true then (if (t211 == bt250.1 && (t212 == bt250.2.1 && (t213 == bt250.2.2.1 && (t214 == bt250.2.2.2.1 && (t215 == bt250.2.2.2.2.1 && (t216 == bt250.2.2.2.2.2.1)))))) = true then (if t217 = bt250.2.2.2.2.2.2.1 then (some (t218 == bt250.2.2.2.2.2.2.2)) else (none)) else (none)) else (none)))) = some r := H
                                have A68 := Aside0.mk A680
                                clear A680
                                by_cases c69 : t228 = 0
                                · rw [if_pos c69] at H
                                  have c69b0 : (t228 == 0) = true := beq_iff_eq.mpr c69
                                  have c69b1 : (t228 != 0) = false := bne_eq_false_iff_eq.mpr c69
                                  clear c69
                                  by_cases c70 : t227 = x3_22
                                  · rw [if_pos c70] at H
                                    have c70b0 : (t227 == x3_22) = true := beq_iff_eq.mpr c70
                                    have c70b1 : (t227 != x3_22) = false := bne_eq_false_iff_eq.mpr c70
                                    clear c70
                                    by_cases c71 : x17_5.length < 17592186044416
                                    · rw [if_pos c71] at H
                                      have LMc71 := Aside0.mk c71
                                      clear c71
                                      obtain ⟨y229, hy229⟩ : ∃ y_ : List Int, y_ = (x17_5 ++ [a0_3]) := ⟨_, rfl⟩
                                      replace H : ((sluicewayref05_Accept.f k5 a0_0 a0_1 a0_2 a0_3 a0_4 a0_5 y229).bind fun bt232 => (if t203 = true then (if (t211 == bt232.1 && (t212 == bt232.2.1 && (t213 == bt232.2.2.1 && (t214 == bt232.2.2.2.1 && (t215 == bt232.2.2.2.2.1 && (t216 == bt232.2.2.2.2.2.1)))))) = true then (if t217 = bt232.2.2.2.2.2.2.1 then (some (t218 == bt232.2.2.2.2.2.2.2)) else (none)) else (none)) else (none))) = some r := by first | (rw [hy229]; with_reducible exact H) | (have H2_ := (Option.bind_some _ _).symm.trans H; rw [hy229]; with_reducible exact H2_) | (have H2_ := (Option.bind_some _ _).symm.trans H; with_reducible exact H2_) | with_reducible exact H | (rw [hy229]; exact H) | exact H
                                      have Ny229 := Aside0.mk hy229
                                      clear hy229
                                      replace H := Option.bind_eq_some_iff.mp H
                                      obtain ⟨⟨t232, t233, t234, t235, t236, t237, t238, t239⟩, A720, H⟩ := H
                                      replace H : (if t203 = true then (if (t211 == t232 && (t212 == t233 && (t213 == t234 && (t214 == t235 && (t215 == t236 && (t216 == t237)))))) = true then (if t217 = t238 then (some (t218 == t239)) else (none)) else (none)) else (none)) = some r := H
                                      have A72 := Aside0.mk A720
                                      clear A720
                                      by_cases c73 : t203 = true
                                      · subst c73
                                        have H1 : (if (t211 == t232 && (t212 == t233 && (t213 == t234 && (t214 == t235 && (t215 == t236 && (t216 == t237)))))) = true then (if t217 = t238 then (some (t218 == t239)) else (none)) else (none)) = some r := by rw [if_pos rfl] at H; exact H
                                        clear H
                                        have H := H1
                                        clear H1
                                        by_cases c74 : (t211 == t232 && (t212 == t233 && (t213 == t234 && (t214 == t235 && (t215 == t236 && (t216 == t237)))))) = true
                                        · rw [if_pos c74] at H
                                          have c74b0 : (t211 == t232 && (t212 == t233 && (t213 == t234 && (t214 == t235 && (t215 == t236 && (t216 == t237)))))) = true := c74
                                          (try (have c74b1 : decide (t211 = t232 && (t212 == t233 && (t213 == t234 && (t214 == t235 && (t215 == t236 && (t216 == t237)))))) = true := by simpa using c74))
                                          (try (have c74b2 : (t211 == t232 && (t212 == t233 && (t213 == t234 && (t214 == t235 && (t215 == t236 && (t216 == t237)))))) = true := by simpa using c74))
                                          clear c74
                                          by_cases c75 : t217 = t238
                                          · rw [if_pos c75] at H
                                            have c75b0 : (t217 == t238) = true := beq_iff_eq.mpr c75
                                            have c75b1 : (t217 != t238) = false := bne_eq_false_iff_eq.mpr c75
                                            clear c75
                                            obtain rfl := Option.some.inj H
                                            have hnb76 := NB202_219.out
                                            have hnc76 := NB219_202.out
                                            have hcz77_0 : wr.cell? ⟨gb202, 0, none⟩ = some (.int .i64 a0_0) := (blk_cell BK202.out 0).trans rfl
                                            have hcz77_1 : wr.cell? ⟨gb202, 1, none⟩ = some (.int .i64 a0_1) := (blk_cell BK202.out 1).trans rfl
                                            have hcz77_2 : wr.cell? ⟨gb202, 2, none⟩ = some (.int .i64 a0_2) := (blk_cell BK202.out 2).trans rfl
                                            have hcz77_3 : wr.cell? ⟨gb202, 3, none⟩ = some (.int .i64 a0_3) := (blk_cell BK202.out 3).trans rfl
                                            have hcz77_4 : wr.cell? ⟨gb202, 4, none⟩ = some (.int .i64 a0_4) := (blk_cell BK202.out 4).trans rfl
                                            have hcz77_5 : wr.cell? ⟨gb202, 5, none⟩ = some (.int .i64 a0_5) := (blk_cell BK202.out 5).trans rfl
                                            have hfz77_0 := blk_frozen BK202.out 0
                                            have hfz77_1 := blk_frozen BK202.out 1
                                            have hfz77_2 := blk_frozen BK202.out 2
                                            have hfz77_3 := blk_frozen BK202.out 3
                                            have hfz77_4 := blk_frozen BK202.out 4
                                            have hfz77_5 := blk_frozen BK202.out 5
                                            go_wp2_with (first | ((with_reducible refine gate_callee (f := 40) rfl ?_); refine goesL_ (some 131) rfl rfl Try.func40 (by kernel_rfl) rfl #[.slice A1 y204.length c1, .int .i64 a0_3, .int .i64 a2] rfl (by (try simp only [List.map_toArray, List.map_cons, List.map_nil]); first | done | rfl | (simp only [List.length_drop, List.length_take]; rfl)) ?_; (with_reducible refine (otp_Code.calls _ _ y204 a0_3 a2 t227 t228 _ ?side1 ?side2 A68.out).mono ?_); (case side1 => repeat (first | exact (Kd.C_below HR207.out HB.out) | (with_reducible refine Kd.C_alloc ?_ _) | (with_reducible refine Kd.C_drewN ?_ _) | (with_reducible refine Kd.C_drew ?_))); (case side2 => exact HC207.out); rintro e w78 ⟨rfl, hb⟩; refine ⟨_, rfl, ?_⟩; have n0_ := Aside0.mk (Kd.R_below (by (with_reducible repeat (first | apply Kd.R_alloc | apply Kd.R_drewN | apply Kd.R_drew)); exact HO_17.out) hb); have n1_ := Aside0.mk (blk_below (g := gb202) (o := .cells #[.int .i64 a0_0, .int .i64 a0_1, .int .i64 a0_2, .int .i64 a0_3, .int .i64 a0_4, .int .i64 a0_5] 48 (0, 0)) (by (with_reducible repeat (first | refine blk_drewN ?_ _ | refine blk_drew ?_ | refine blk_alloc ?_ _)); exact BK202.out) hb); have n2_ := Aside0.mk (blk_below (g := gb219) (o := .cells #[.int .i64 t211, .int .i64 t212, .int .i64 t213, .int .i64 t214, .int .i64 t215, .int .i64 t216] 48 (0, 0)) (by (with_reducible repeat (first | refine blk_drewN ?_ _ | refine blk_drew ?_ | refine blk_alloc ?_ _)); exact BK219.out) hb); have n3_ := Aside0.mk (below_step (by repeat (first | (with_reducible first | exact HB.out | apply below_alloc | apply pw_below_drewN | apply below_drew1 | refine below_set ?_ GE202.out | refine below_set ?_ GE219.out) | exact HB.out)) hb); clear HO_17; clear BK202; clear BK219; clear HB; have HO_17 := n0_; have BK202 := n1_; have BK219 := n2_; have HB := n3_; clear n0_ n1_ n2_ n3_; (try clear hb); (try clear hb2); (try clear hk); (try clear hi); have hcz79_0 : w78.cell? ⟨gb202, 0, none⟩ = some (.int .i64 a0_0) := (blk_cell BK202.out 0).trans rfl; have hcz79_1 : w78.cell? ⟨gb202, 1, none⟩ = some (.int .i64 a0_1) := (blk_cell BK202.out 1).trans rfl; have hcz79_2 : w78.cell? ⟨gb202, 2, none⟩ = some (.int .i64 a0_2) := (blk_cell BK202.out 2).trans rfl; have hcz79_3 : w78.cell? ⟨gb202, 3, none⟩ = some (.int .i64 a0_3) := (blk_cell BK202.out 3).trans rfl; have hcz79_4 : w78.cell? ⟨gb202, 4, none⟩ = some (.int .i64 a0_4) := (blk_cell BK202.out 4).trans rfl; have hcz79_5 : w78.cell? ⟨gb202, 5, none⟩ = some (.int .i64 a0_5) := (blk_cell BK202.out 5).trans rfl; have hfz79_0 := blk_frozen BK202.out 0; have hfz79_1 := blk_frozen BK202.out 1; have hfz79_2 := blk_frozen BK202.out 2; have hfz79_3 := blk_frozen BK202.out 3; have hfz79_4 := blk_frozen BK202.out 4; have hfz79_5 := blk_frozen BK202.out 5) | ((with_reducible refine gate_builtin (b := .append) (xs := #[.tmp 141, .tmp 144]) rfl ?_); at_builtin; refine Kd.R_append (Kd.int .i64) (w0 := w) w.heap.size rfl (.tmp 141) (.tmp 144) 54 3 (.int .i64 0) 8 rfl Try.underlying54 info3 rfl (by decide) (by omega) u17 x17_5 a0_3 [.int .i64 a0_3] (fun _ => True) (fun _ => False) rfl rfl ?aP (fun _ hk => hk.elim) ?aF ?aO ?aB ?aS ?aL ?_; (case aP => exact rfl); (case aB => exact (by repeat (first | (with_reducible first | exact HB.out | apply below_alloc | apply pw_below_drewN | apply below_drew1 | refine below_set ?_ GE202.out | refine below_set ?_ GE219.out) | exact HB.out))); (case aF => exact (fun _ _ => trivial)); (case aO => exact (by (with_reducible repeat (first | apply Kd.R_alloc | apply Kd.R_drewN | apply Kd.R_drew)); exact HO_17.out)); (case aS => exact (below_size (by repeat (first | (with_reducible first | exact HB.out | apply below_alloc | apply pw_below_drewN | apply below_drew1 | refine below_set ?_ GE202.out | refine below_set ?_ GE219.out) | exact HB.out)))); (case aL => have := LMc71.out; omega); intro v230 w80 ho hb hg hat; rw [← Ny229.out] at ho; have n0_ := Aside0.mk (blk_grown (g := gb202) (o := .cells #[.int .i64 a0_0, .int .i64 a0_1, .int .i64 a0_2, .int .i64 a0_3, .int .i64 a0_4, .int .i64 a0_5] 48 (0, 0)) (by (with_reducible repeat (first | refine blk_drewN ?_ _ | refine blk_drew ?_ | refine blk_alloc ?_ _)); exact BK202.out) hg (Kd.R_ne HO_17.out BK202.out (by decide))); have n1_ := Aside0.mk (blk_grown (g := gb219) (o := .cells #[.int .i64 t211, .int .i64 t212, .int .i64 t213, .int .i64 t214, .int .i64 t215, .int .i64 t216] 48 (0, 0)) (by (with_reducible repeat (first | refine blk_drewN ?_ _ | refine blk_drew ?_ | refine blk_alloc ?_ _)); exact BK219.out) hg (Kd.R_ne HO_17.out BK219.out (by decide))); have n2_ := Aside0.mk (hb); have n3_ := Aside0.mk (ho); clear BK202; clear BK219; clear HB; clear HO_17; have BK202 := n0_; have BK219 := n1_; have HB := n2_; have HO231 := n3_; clear n0_ n1_ n2_ n3_; clear ho hb hg hat; have hcz81_0 : w80.cell? ⟨gb202, 0, none⟩ = some (.int .i64 a0_0) := (blk_cell BK202.out 0).trans rfl; have hcz81_1 : w80.cell? ⟨gb202, 1, none⟩ = some (.int .i64 a0_1) := (blk_cell BK202.out 1).trans rfl; have hcz81_2 : w80.cell? ⟨gb202, 2, none⟩ = some (.int .i64 a0_2) := (blk_cell BK202.out 2).trans rfl; have hcz81_3 : w80.cell? ⟨gb202, 3, none⟩ = some (.int .i64 a0_3) := (blk_cell BK202.out 3).trans rfl; have hcz81_4 : w80.cell? ⟨gb202, 4, none⟩ = some (.int .i64 a0_4) := (blk_cell BK202.out 4).trans rfl; have hcz81_5 : w80.cell? ⟨gb202, 5, none⟩ = some (.int .i64 a0_5) := (blk_cell BK202.out 5).trans rfl; have hfz81_0 := blk_frozen BK202.out 0; have hfz81_1 := blk_frozen BK202.out 1; have hfz81_2 := blk_frozen BK202.out 2; have hfz81_3 := blk_frozen BK202.out 3; have hfz81_4 := blk_frozen BK202.out 4; have hfz81_5 := blk_frozen BK202.out 5; obtain ⟨Ao82, co82, eo82⟩ := Kd.R_slice HO231.out; subst eo82) | ((with_reducible refine gate_callee (f := 36) rfl ?_); refine goesL_ (some 149) rfl rfl Try.func36 (by kernel_rfl) rfl #[.agg #[.int .i64 a0_0, .int .i64 a0_1, .int .i64 a0_2, .int .i64 a0_3, .int .i64 a0_4, .int .i64 a0_5], .slice Ao82 y229.length co82] rfl (by (try simp only [List.map_toArray, List.map_cons, List.map_nil]); first | done | rfl | (simp only [List.length_drop, List.length_take]; rfl)) ?_; (with_reducible refine (sluicewayref05_Accept.calls k5 a0_0 a0_1 a0_2 a0_3 a0_4 a0_5 _ _ y229 t232 t233 t234 t235 t236 t237 t238 t239 _ ?side1 ?side2 A72.out).mono ?_); (case side1 => repeat (first | exact (Kd.R_reads' HO231.out).2.2 | (with_reducible refine Kd.C_alloc ?_ _) | (with_reducible refine Kd.C_drewN ?_ _) | (with_reducible refine Kd.C_drew ?_))); (case side2 => exact (Kd.R_reads' HO231.out).2.1); rintro e w83 ⟨rfl, hb⟩; refine ⟨_, rfl, ?_⟩; have n0_ := Aside0.mk (Kd.R_below (by (with_reducible repeat (first | apply Kd.R_alloc | apply Kd.R_drewN | apply Kd.R_drew)); exact HO231.out) hb); have n1_ := Aside0.mk (blk_below (g := gb202) (o := .cells #[.int .i64 a0_0, .int .i64 a0_1, .int .i64 a0_2, .int .i64 a0_3, .int .i64 a0_4, .int .i64 a0_5] 48 (0, 0)) (by (with_reducible repeat (first | refine blk_drewN ?_ _ | refine blk_drew ?_ | refine blk_alloc ?_ _)); exact BK202.out) hb); have n2_ := Aside0.mk (blk_below (g := gb219) (o := .cells #[.int .i64 t211, .int .i64 t212, .int .i64 t213, .int .i64 t214, .int .i64 t215, .int .i64 t216] 48 (0, 0)) (by (with_reducible repeat (first | refine blk_drewN ?_ _ | refine blk_drew ?_ | refine blk_alloc ?_ _)); exact BK219.out) hb); have n3_ := Aside0.mk (below_step (by repeat (first | (with_reducible first | exact HB.out | apply below_alloc | apply pw_below_drewN | apply below_drew1 | refine below_set ?_ GE202.out | refine below_set ?_ GE219.out) | exact HB.out)) hb); clear HO231; clear BK202; clear BK219; clear HB; have HO231 := n0_; have BK202 := n1_; have BK219 := n2_; have HB := n3_; clear n0_ n1_ n2_ n3_; (try clear hb); (try clear hb2); (try clear hk); (try clear hi)) | ((with_reducible refine gate_dst (N := 23) rfl ?_); refine box_event ?hg (N := 23) ?hd (cs := #[.int .i64 0, .int .i64 0, .int .i64 0, .int .i64 0, .int .i64 0, .int .i64 0]) (t := 48) ?hr ?_; (case hd => rfl); (case hg => rfl); (case hr => first | (go_simp; done) | (go_simp; rfl)); intro gb240 hg w84 hbox hb; have n0_ := Aside0.mk (Kd.R_below (by (with_reducible repeat (first | apply Kd.R_alloc | apply Kd.R_drewN | apply Kd.R_drew)); exact HO231.out) hb); have n1_ := Aside0.mk (blk_below (g := gb202) (o := .cells #[.int .i64 a0_0, .int .i64 a0_1, .int .i64 a0_2, .int .i64 a0_3, .int .i64 a0_4, .int .i64 a0_5] 48 (0, 0)) (by (with_reducible repeat (first | refine blk_drewN ?_ _ | refine blk_drew ?_ | refine blk_alloc ?_ _)); exact BK202.out) hb); have n2_ := Aside0.mk (blk_below (g := gb219) (o := .cells #[.int .i64 t211, .int .i64 t212, .int .i64 t213, .int .i64 t214, .int .i64 t215, .int .i64 t216] 48 (0, 0)) (by (with_reducible repeat (first | refine blk_drewN ?_ _ | refine blk_drew ?_ | refine blk_alloc ?_ _)); exact BK219.out) hb); have n3_ := Aside0.mk (below_step (by repeat (first | (with_reducible first | exact HB.out | apply below_alloc | apply pw_below_drewN | apply below_drew1 | refine below_set ?_ GE202.out | refine below_set ?_ GE219.out) | exact HB.out)) hb); have n4_ := Aside0.mk (hbox); have n5_ := Aside0.mk ((by rw [hg]; exact (below_size (by repeat (first | (with_reducible first | exact HB.out | apply below_alloc | apply pw_below_drewN | apply below_drew1 | refine below_set ?_ GE202.out | refine below_set ?_ GE219.out) | exact HB.out))) : w.heap.size ≤ gb240)); have n6_ := Aside0.mk ((by rw [hg]; exact (below_size (by repeat (first | (with_reducible first | exact HB.out | apply below_alloc | apply pw_below_drewN | apply below_drew1 | refine below_set ?_ GE202.out | refine below_set ?_ GE219.out) | exact HB.out))) : w.heap.size ≤ gb240)); have n7_ := Aside0.mk ((by rw [hg]; exact Nat.ne_of_lt (blk_lt (g := gb202) (o := .cells #[.int .i64 a0_0, .int .i64 a0_1, .int .i64 a0_2, .int .i64 a0_3, .int .i64 a0_4, .int .i64 a0_5] 48 (0, 0)) (by (with_reducible repeat (first | refine blk_drewN ?_ _ | refine blk_drew ?_ | refine blk_alloc ?_ _)); exact BK202.out)) : gb202 ≠ gb240)); have n8_ := Aside0.mk ((by rw [hg]; exact Nat.ne_of_gt (blk_lt (g := gb202) (o := .cells #[.int .i64 a0_0, .int .i64 a0_1, .int .i64 a0_2, .int .i64 a0_3, .int .i64 a0_4, .int .i64 a0_5] 48 (0, 0)) (by (with_reducible repeat (first | refine blk_drewN ?_ _ | refine blk_drew ?_ | refine blk_alloc ?_ _)); exact BK202.out)) : gb240 ≠ gb202)); have n9_ := Aside0.mk ((by rw [hg]; exact Nat.ne_of_lt (blk_lt (g := gb219) (o := .cells #[.int .i64 t211, .int .i64 t212, .int .i64 t213, .int .i64 t214, .int .i64 t215, .int .i64 t216] 48 (0, 0)) (by (with_reducible repeat (first | refine blk_drewN ?_ _ | refine blk_drew ?_ | refine blk_alloc ?_ _)); exact BK219.out)) : gb219 ≠ gb240)); have n10_ := Aside0.mk ((by rw [hg]; exact Nat.ne_of_gt (blk_lt (g := gb219) (o := .cells #[.int .i64 t211, .int .i64 t212, .int .i64 t213, .int .i64 t214, .int .i64 t215, .int .i64 t216] 48 (0, 0)) (by (with_reducible repeat (first | refine blk_drewN ?_ _ | refine blk_drew ?_ | refine blk_alloc ?_ _)); exact BK219.out)) : gb240 ≠ gb219)); clear HO231; clear BK202; clear BK219; clear HB; have HO231 := n0_; have BK202 := n1_; have BK219 := n2_; have HB := n3_; have BK240 := n4_; have GW240 := n5_; have GE240 := n6_; have NB202_240 := n7_; have NB240_202 := n8_; have NB219_240 := n9_; have NB240_219 := n10_; clear n0_ n1_ n2_ n3_ n4_ n5_ n6_ n7_ n8_ n9_ n10_; clear hb hbox hg; have hnb85 := NB240_202.out; have hnc85 := NB202_240.out; have hnb86 := NB240_219.out; have hnc86 := NB219_240.out; have hcz87_0 : w84.cell? ⟨gb240, 0, none⟩ = some (.int .i64 0) := (blk_cell BK240.out 0).trans rfl; have hcz87_1 : w84.cell? ⟨gb240, 1, none⟩ = some (.int .i64 0) := (blk_cell BK240.out 1).trans rfl; have hcz87_2 : w84.cell? ⟨gb240, 2, none⟩ = some (.int .i64 0) := (blk_cell BK240.out 2).trans rfl; have hcz87_3 : w84.cell? ⟨gb240, 3, none⟩ = some (.int .i64 0) := (blk_cell BK240.out 3).trans rfl; have hcz87_4 : w84.cell? ⟨gb240, 4, none⟩ = some (.int .i64 0) := (blk_cell BK240.out 4).trans rfl; have hcz87_5 : w84.cell? ⟨gb240, 5, none⟩ = some (.int .i64 0) := (blk_cell BK240.out 5).trans rfl; have hfz87_0 := blk_frozen BK240.out 0; have hfz87_1 := blk_frozen BK240.out 1; have hfz87_2 := blk_frozen BK240.out 2; have hfz87_3 := blk_frozen BK240.out 3; have hfz87_4 := blk_frozen BK240.out 4; have hfz87_5 := blk_frozen BK240.out 5; have hcz88_0 : w84.cell? ⟨gb219, 0, none⟩ = some (.int .i64 t211) := (blk_cell BK219.out 0).trans rfl; have hcz88_1 : w84.cell? ⟨gb219, 1, none⟩ = some (.int .i64 t212) := (blk_cell BK219.out 1).trans rfl; have hcz88_2 : w84.cell? ⟨gb219, 2, none⟩ = some (.int .i64 t213) := (blk_cell BK219.out 2).trans rfl; have hcz88_3 : w84.cell? ⟨gb219, 3, none⟩ = some (.int .i64 t214) := (blk_cell BK219.out 3).trans rfl; have hcz88_4 : w84.cell? ⟨gb219, 4, none⟩ = some (.int .i64 t215) := (blk_cell BK219.out 4).trans rfl; have hcz88_5 : w84.cell? ⟨gb219, 5, none⟩ = some (.int .i64 t216) := (blk_cell BK219.out 5).trans rfl; have hfz88_0 := blk_frozen BK219.out 0; have hfz88_1 := blk_frozen BK219.out 1; have hfz88_2 := blk_frozen BK219.out 2; have hfz88_3 := blk_frozen BK219.out 3; have hfz88_4 := blk_frozen BK219.out 4; have hfz88_5 := blk_frozen BK219.out 5))
                                            go_ret
                                            exact ⟨by first | rfl | (simp [errW_none, errW_some] <;> rfl) | (simp only [← hji7]; first | rfl | (simp [errW_none, errW_some] <;> rfl)) | (simp [*, errW_none, errW_some] <;> rfl), by repeat (first | (with_reducible first | exact HB.out | apply below_alloc | apply pw_below_drewN | apply below_drew1 | refine below_set ?_ GE202.out | refine below_set ?_ GE219.out | refine below_set ?_ GE240.out) | exact HB.out)⟩
                                          · rw [if_neg c75] at H
                                            exact absurd H (by simp)
                                        · rw [if_neg c74] at H
                                          exact absurd H (by simp)
                                      · replace c73 := Bool.eq_false_iff.mpr c73
                                        subst c73
                                        have H1 : (none) = some r := by rw [if_neg (show ¬ (false = true) by decide)] at H; exact H
                                        clear H
                                        have H := H1
                                        clear H1
                                        exact absurd H (by simp)
                                    · rw [if_neg c71] at H
                                      exact absurd H (by simp)
                                  · rw [if_neg c70] at H
                                    have c70b0 : (t227 == x3_22) = false := beq_eq_false_iff_ne.mpr c70
                                    have c70b1 : (t227 != x3_22) = true := bne_iff_ne.mpr c70
                                    replace H := Option.bind_eq_some_iff.mp H
                                    obtain ⟨⟨t241, t242, t243, t244, t245, t246, t247, t248⟩, A890, H⟩ := H
                                    replace H : (if t203 = true then (if (t211 == t241 && (t212 == t242 && (t213 == t243 && (t214 == t244 && (t215 == t245 && (t216 == t246)))))) = true then (if t217 = t247 then (some (t218 == t248)) else (none)) else (none)) else (none)) = some r := H
                                    have A89 := Aside0.mk A890
                                    clear A890
                                    by_cases c90 : t203 = true
                                    · subst c90
                                      have H1 : (if (t211 == t241 && (t212 == t242 && (t213 == t243 && (t214 == t244 && (t215 == t245 && (t216 == t246)))))) = true then (if t217 = t247 then (some (t218 == t248)) else (none)) else (none)) = some r := by rw [if_pos rfl] at H; exact H
                                      clear H
                                      have H := H1
                                      clear H1
                                      by_cases c91 : (t211 == t241 && (t212 == t242 && (t213 == t243 && (t214 == t244 && (t215 == t245 && (t216 == t246)))))) = true
                                      · rw [if_pos c91] at H
                                        have c91b0 : (t211 == t241 && (t212 == t242 && (t213 == t243 && (t214 == t244 && (t215 == t245 && (t216 == t246)))))) = true := c91
                                        (try (have c91b1 : decide (t211 = t241 && (t212 == t242 && (t213 == t243 && (t214 == t244 && (t215 == t245 && (t216 == t246)))))) = true := by simpa using c91))
                                        (try (have c91b2 : (t211 == t241 && (t212 == t242 && (t213 == t243 && (t214 == t244 && (t215 == t245 && (t216 == t246)))))) = true := by simpa using c91))
                                        clear c91
                                        by_cases c92 : t217 = t247
                                        · rw [if_pos c92] at H
                                          have c92b0 : (t217 == t247) = true := beq_iff_eq.mpr c92
                                          have c92b1 : (t217 != t247) = false := bne_eq_false_iff_eq.mpr c92
                                          clear c92
                                          obtain rfl := Option.some.inj H
                                          have hnb93 := NB202_219.out
                                          have hnc93 := NB219_202.out
                                          have hcz94_0 : wr.cell? ⟨gb202, 0, none⟩ = some (.int .i64 a0_0) := (blk_cell BK202.out 0).trans rfl
                                          have hcz94_1 : wr.cell? ⟨gb202, 1, none⟩ = some (.int .i64 a0_1) := (blk_cell BK202.out 1).trans rfl
                                          have hcz94_2 : wr.cell? ⟨gb202, 2, none⟩ = some (.int .i64 a0_2) := (blk_cell BK202.out 2).trans rfl
                                          have hcz94_3 : wr.cell? ⟨gb202, 3, none⟩ = some (.int .i64 a0_3) := (blk_cell BK202.out 3).trans rfl
                                          have hcz94_4 : wr.cell? ⟨gb202, 4, none⟩ = some (.int .i64 a0_4) := (blk_cell BK202.out 4).trans rfl
                                          have hcz94_5 : wr.cell? ⟨gb202, 5, none⟩ = some (.int .i64 a0_5) := (blk_cell BK202.out 5).trans rfl
                                          have hfz94_0 := blk_frozen BK202.out 0
                                          have hfz94_1 := blk_frozen BK202.out 1
                                          have hfz94_2 := blk_frozen BK202.out 2
                                          have hfz94_3 := blk_frozen BK202.out 3
                                          have hfz94_4 := blk_frozen BK202.out 4
                                          have hfz94_5 := blk_frozen BK202.out 5
                                          go_wp2_with (first | ((with_reducible refine gate_callee (f := 40) rfl ?_); refine goesL_ (some 131) rfl rfl Try.func40 (by kernel_rfl) rfl #[.slice A1 y204.length c1, .int .i64 a0_3, .int .i64 a2] rfl (by (try simp only [List.map_toArray, List.map_cons, List.map_nil]); first | done | rfl | (simp only [List.length_drop, List.length_take]; rfl)) ?_; (with_reducible refine (otp_Code.calls _ _ y204 a0_3 a2 t227 t228 _ ?side1 ?side2 A68.out).mono ?_); (case side1 => repeat (first | exact (Kd.C_below HR207.out HB.out) | (with_reducible refine Kd.C_alloc ?_ _) | (with_reducible refine Kd.C_drewN ?_ _) | (with_reducible refine Kd.C_drew ?_))); (case side2 => exact HC207.out); rintro e w95 ⟨rfl, hb⟩; refine ⟨_, rfl, ?_⟩; have n0_ := Aside0.mk (Kd.R_below (by (with_reducible repeat (first | apply Kd.R_alloc | apply Kd.R_drewN | apply Kd.R_drew)); exact HO_17.out) hb); have n1_ := Aside0.mk (blk_below (g := gb202) (o := .cells #[.int .i64 a0_0, .int .i64 a0_1, .int .i64 a0_2, .int .i64 a0_3, .int .i64 a0_4, .int .i64 a0_5] 48 (0, 0)) (by (with_reducible repeat (first | refine blk_drewN ?_ _ | refine blk_drew ?_ | refine blk_alloc ?_ _)); exact BK202.out) hb); have n2_ := Aside0.mk (blk_below (g := gb219) (o := .cells #[.int .i64 t211, .int .i64 t212, .int .i64 t213, .int .i64 t214, .int .i64 t215, .int .i64 t216] 48 (0, 0)) (by (with_reducible repeat (first | refine blk_drewN ?_ _ | refine blk_drew ?_ | refine blk_alloc ?_ _)); exact BK219.out) hb); have n3_ := Aside0.mk (below_step (by repeat (first | (with_reducible first | exact HB.out | apply below_alloc | apply pw_below_drewN | apply below_drew1 | refine below_set ?_ GE202.out | refine below_set ?_ GE219.out) | exact HB.out)) hb); clear HO_17; clear BK202; clear BK219; clear HB; have HO_17 := n0_; have BK202 := n1_; have BK219 := n2_; have HB := n3_; clear n0_ n1_ n2_ n3_; (try clear hb); (try clear hb2); (try clear hk); (try clear hi); have hcz96_0 : w95.cell? ⟨gb202, 0, none⟩ = some (.int .i64 a0_0) := (blk_cell BK202.out 0).trans rfl; have hcz96_1 : w95.cell? ⟨gb202, 1, none⟩ = some (.int .i64 a0_1) := (blk_cell BK202.out 1).trans rfl; have hcz96_2 : w95.cell? ⟨gb202, 2, none⟩ = some (.int .i64 a0_2) := (blk_cell BK202.out 2).trans rfl; have hcz96_3 : w95.cell? ⟨gb202, 3, none⟩ = some (.int .i64 a0_3) := (blk_cell BK202.out 3).trans rfl; have hcz96_4 : w95.cell? ⟨gb202, 4, none⟩ = some (.int .i64 a0_4) := (blk_cell BK202.out 4).trans rfl; have hcz96_5 : w95.cell? ⟨gb202, 5, none⟩ = some (.int .i64 a0_5) := (blk_cell BK202.out 5).trans rfl; have hfz96_0 := blk_frozen BK202.out 0; have hfz96_1 := blk_frozen BK202.out 1; have hfz96_2 := blk_frozen BK202.out 2; have hfz96_3 := blk_frozen BK202.out 3; have hfz96_4 := blk_frozen BK202.out 4; have hfz96_5 := blk_frozen BK202.out 5; obtain ⟨Ao97, co97, eo97⟩ := Kd.R_slice HO_17.out; subst eo97) | ((with_reducible refine gate_callee (f := 36) rfl ?_); refine goesL_ (some 149) rfl rfl Try.func36 (by kernel_rfl) rfl #[.agg #[.int .i64 a0_0, .int .i64 a0_1, .int .i64 a0_2, .int .i64 a0_3, .int .i64 a0_4, .int .i64 a0_5], .slice Ao97 x17_5.length co97] rfl (by (try simp only [List.map_toArray, List.map_cons, List.map_nil]); first | done | rfl | (simp only [List.length_drop, List.length_take]; rfl)) ?_; (with_reducible refine (sluicewayref05_Accept.calls k5 a0_0 a0_1 a0_2 a0_3 a0_4 a0_5 _ _ x17_5 t241 t242 t243 t244 t245 t246 t247 t248 _ ?side1 ?side2 A89.out).mono ?_); (case side1 => repeat (first | exact (Kd.R_reads' HO_17.out).2.2 | (with_reducible refine Kd.C_alloc ?_ _) | (with_reducible refine Kd.C_drewN ?_ _) | (with_reducible refine Kd.C_drew ?_))); (case side2 => exact (Kd.R_reads' HO_17.out).2.1); rintro e w98 ⟨rfl, hb⟩; refine ⟨_, rfl, ?_⟩; have n0_ := Aside0.mk (Kd.R_below (by (with_reducible repeat (first | apply Kd.R_alloc | apply Kd.R_drewN | apply Kd.R_drew)); exact HO_17.out) hb); have n1_ := Aside0.mk (blk_below (g := gb202) (o := .cells #[.int .i64 a0_0, .int .i64 a0_1, .int .i64 a0_2, .int .i64 a0_3, .int .i64 a0_4, .int .i64 a0_5] 48 (0, 0)) (by (with_reducible repeat (first | refine blk_drewN ?_ _ | refine blk_drew ?_ | refine blk_alloc ?_ _)); exact BK202.out) hb); have n2_ := Aside0.mk (blk_below (g := gb219) (o := .cells #[.int .i64 t211, .int .i64 t212, .int .i64 t213, .int .i64 t214, .int .i64 t215, .int .i64 t216] 48 (0, 0)) (by (with_reducible repeat (first | refine blk_drewN ?_ _ | refine blk_drew ?_ | refine blk_alloc ?_ _)); exact BK219.out) hb); have n3_ := Aside0.mk (below_step (by repeat (first | (with_reducible first | exact HB.out | apply below_alloc | apply pw_below_drewN | apply below_drew1 | refine below_set ?_ GE202.out | refine below_set ?_ GE219.out) | exact HB.out)) hb); clear HO_17; clear BK202; clear BK219; clear HB; have HO_17 := n0_; have BK202 := n1_; have BK219 := n2_; have HB := n3_; clear n0_ n1_ n2_ n3_; (try clear hb); (try clear hb2); (try clear hk); (try clear hi)) | ((with_reducible refine gate_dst (N := 23) rfl ?_); refine box_event ?hg (N := 23) ?hd (cs := #[.int .i64 0, .int .i64 0, .int .i64 0, .int .i64 0, .int .i64 0, .int .i64 0]) (t := 48) ?hr ?_; (case hd => rfl); (case hg => rfl); (case hr => first | (go_simp; done) | (go_simp; rfl)); intro gb249 hg w99 hbox hb; have n0_ := Aside0.mk (Kd.R_below (by (with_reducible repeat (first | apply Kd.R_alloc | apply Kd.R_drewN | apply Kd.R_drew)); exact HO_17.out) hb); have n1_ := Aside0.mk (blk_below (g := gb202) (o := .cells #[.int .i64 a0_0, .int .i64 a0_1, .int .i64 a0_2, .int .i64 a0_3, .int .i64 a0_4, .int .i64 a0_5] 48 (0, 0)) (by (with_reducible repeat (first | refine blk_drewN ?_ _ | refine blk_drew ?_ | refine blk_alloc ?_ _)); exact BK202.out) hb); have n2_ := Aside0.mk (blk_below (g := gb219) (o := .cells #[.int .i64 t211, .int .i64 t212, .int .i64 t213, .int .i64 t214, .int .i64 t215, .int .i64 t216] 48 (0, 0)) (by (with_reducible repeat (first | refine blk_drewN ?_ _ | refine blk_drew ?_ | refine blk_alloc ?_ _)); exact BK219.out) hb); have n3_ := Aside0.mk (below_step (by repeat (first | (with_reducible first | exact HB.out | apply below_alloc | apply pw_below_drewN | apply below_drew1 | refine below_set ?_ GE202.out | refine below_set ?_ GE219.out) | exact HB.out)) hb); have n4_ := Aside0.mk (hbox); have n5_ := Aside0.mk ((by rw [hg]; exact (below_size (by repeat (first | (with_reducible first | exact HB.out | apply below_alloc | apply pw_below_drewN | apply below_drew1 | refine below_set ?_ GE202.out | refine below_set ?_ GE219.out) | exact HB.out))) : w.heap.size ≤ gb249)); have n6_ := Aside0.mk ((by rw [hg]; exact (below_size (by repeat (first | (with_reducible first | exact HB.out | apply below_alloc | apply pw_below_drewN | apply below_drew1 | refine below_set ?_ GE202.out | refine below_set ?_ GE219.out) | exact HB.out))) : w.heap.size ≤ gb249)); have n7_ := Aside0.mk ((by rw [hg]; exact Nat.ne_of_lt (blk_lt (g := gb202) (o := .cells #[.int .i64 a0_0, .int .i64 a0_1, .int .i64 a0_2, .int .i64 a0_3, .int .i64 a0_4, .int .i64 a0_5] 48 (0, 0)) (by (with_reducible repeat (first | refine blk_drewN ?_ _ | refine blk_drew ?_ | refine blk_alloc ?_ _)); exact BK202.out)) : gb202 ≠ gb249)); have n8_ := Aside0.mk ((by rw [hg]; exact Nat.ne_of_gt (blk_lt (g := gb202) (o := .cells #[.int .i64 a0_0, .int .i64 a0_1, .int .i64 a0_2, .int .i64 a0_3, .int .i64 a0_4, .int .i64 a0_5] 48 (0, 0)) (by (with_reducible repeat (first | refine blk_drewN ?_ _ | refine blk_drew ?_ | refine blk_alloc ?_ _)); exact BK202.out)) : gb249 ≠ gb202)); have n9_ := Aside0.mk ((by rw [hg]; exact Nat.ne_of_lt (blk_lt (g := gb219) (o := .cells #[.int .i64 t211, .int .i64 t212, .int .i64 t213, .int .i64 t214, .int .i64 t215, .int .i64 t216] 48 (0, 0)) (by (with_reducible repeat (first | refine blk_drewN ?_ _ | refine blk_drew ?_ | refine blk_alloc ?_ _)); exact BK219.out)) : gb219 ≠ gb249)); have n10_ := Aside0.mk ((by rw [hg]; exact Nat.ne_of_gt (blk_lt (g := gb219) (o := .cells #[.int .i64 t211, .int .i64 t212, .int .i64 t213, .int .i64 t214, .int .i64 t215, .int .i64 t216] 48 (0, 0)) (by (with_reducible repeat (first | refine blk_drewN ?_ _ | refine blk_drew ?_ | refine blk_alloc ?_ _)); exact BK219.out)) : gb249 ≠ gb219)); clear HO_17; clear BK202; clear BK219; clear HB; have HO_17 := n0_; have BK202 := n1_; have BK219 := n2_; have HB := n3_; have BK249 := n4_; have GW249 := n5_; have GE249 := n6_; have NB202_249 := n7_; have NB249_202 := n8_; have NB219_249 := n9_; have NB249_219 := n10_; clear n0_ n1_ n2_ n3_ n4_ n5_ n6_ n7_ n8_ n9_ n10_; clear hb hbox hg; have hnb100 := NB249_202.out; have hnc100 := NB202_249.out; have hnb101 := NB249_219.out; have hnc101 := NB219_249.out; have hcz102_0 : w99.cell? ⟨gb249, 0, none⟩ = some (.int .i64 0) := (blk_cell BK249.out 0).trans rfl; have hcz102_1 : w99.cell? ⟨gb249, 1, none⟩ = some (.int .i64 0) := (blk_cell BK249.out 1).trans rfl; have hcz102_2 : w99.cell? ⟨gb249, 2, none⟩ = some (.int .i64 0) := (blk_cell BK249.out 2).trans rfl; have hcz102_3 : w99.cell? ⟨gb249, 3, none⟩ = some (.int .i64 0) := (blk_cell BK249.out 3).trans rfl; have hcz102_4 : w99.cell? ⟨gb249, 4, none⟩ = some (.int .i64 0) := (blk_cell BK249.out 4).trans rfl; have hcz102_5 : w99.cell? ⟨gb249, 5, none⟩ = some (.int .i64 0) := (blk_cell BK249.out 5).trans rfl; have hfz102_0 := blk_frozen BK249.out 0; have hfz102_1 := blk_frozen BK249.out 1; have hfz102_2 := blk_frozen BK249.out 2; have hfz102_3 := blk_frozen BK249.out 3; have hfz102_4 := blk_frozen BK249.out 4; have hfz102_5 := blk_frozen BK249.out 5; have hcz103_0 : w99.cell? ⟨gb219, 0, none⟩ = some (.int .i64 t211) := (blk_cell BK219.out 0).trans rfl; have hcz103_1 : w99.cell? ⟨gb219, 1, none⟩ = some (.int .i64 t212) := (blk_cell BK219.out 1).trans rfl; have hcz103_2 : w99.cell? ⟨gb219, 2, none⟩ = some (.int .i64 t213) := (blk_cell BK219.out 2).trans rfl; have hcz103_3 : w99.cell? ⟨gb219, 3, none⟩ = some (.int .i64 t214) := (blk_cell BK219.out 3).trans rfl; have hcz103_4 : w99.cell? ⟨gb219, 4, none⟩ = some (.int .i64 t215) := (blk_cell BK219.out 4).trans rfl; have hcz103_5 : w99.cell? ⟨gb219, 5, none⟩ = some (.int .i64 t216) := (blk_cell BK219.out 5).trans rfl; have hfz103_0 := blk_frozen BK219.out 0; have hfz103_1 := blk_frozen BK219.out 1; have hfz103_2 := blk_frozen BK219.out 2; have hfz103_3 := blk_frozen BK219.out 3; have hfz103_4 := blk_frozen BK219.out 4; have hfz103_5 := blk_frozen BK219.out 5))
                                          go_ret
                                          exact ⟨by first | rfl | (simp [errW_none, errW_some] <;> rfl) | (simp only [← hji7]; first | rfl | (simp [errW_none, errW_some] <;> rfl)) | (simp [*, errW_none, errW_some] <;> rfl), by repeat (first | (with_reducible first | exact HB.out | apply below_alloc | apply pw_below_drewN | apply below_drew1 | refine below_set ?_ GE202.out | refine below_set ?_ GE219.out | refine below_set ?_ GE249.out) | exact HB.out)⟩
                                        · rw [if_neg c92] at H
                                          exact absurd H (by simp)
                                      · rw [if_neg c91] at H
                                        exact absurd H (by simp)
                                    · replace c90 := Bool.eq_false_iff.mpr c90
                                      subst c90
                                      have H1 : (none) = some r := by rw [if_neg (show ¬ (false = true) by decide)] at H; exact H
                                      clear H
                                      have H := H1
                                      clear H1
                                      exact absurd H (by simp)
                                · rw [if_neg c69] at H
                                  have c69b0 : (t228 == 0) = false := beq_eq_false_iff_ne.mpr c69
                                  have c69b1 : (t228 != 0) = true := bne_iff_ne.mpr c69
                                  replace H := Option.bind_eq_some_iff.mp H
                                  obtain ⟨⟨t250, t251, t252, t253, t254, t255, t256, t257⟩, A1040, H⟩ := H
                                  replace H : (if t203 = true then (if (t211 == t250 && (t212 == t251 && (t213 == t252 && (t214 == t253 && (t215 == t254 && (t216 == t255)))))) = true then (if t217 = t256 then (some (t218 == t257)) else (none)) else (none)) else (none)) = some r := H
                                  have A104 := Aside0.mk A1040
                                  clear A1040
                                  by_cases c105 : t203 = true
                                  · subst c105
                                    have H1 : (if (t211 == t250 && (t212 == t251 && (t213 == t252 && (t214 == t253 && (t215 == t254 && (t216 == t255)))))) = true then (if t217 = t256 then (some (t218 == t257)) else (none)) else (none)) = some r := by rw [if_pos rfl] at H; exact H
                                    clear H
                                    have H := H1
                                    clear H1
                                    by_cases c106 : (t211 == t250 && (t212 == t251 && (t213 == t252 && (t214 == t253 && (t215 == t254 && (t216 == t255)))))) = true
                                    · rw [if_pos c106] at H
                                      have c106b0 : (t211 == t250 && (t212 == t251 && (t213 == t252 && (t214 == t253 && (t215 == t254 && (t216 == t255)))))) = true := c106
                                      (try (have c106b1 : decide (t211 = t250 && (t212 == t251 && (t213 == t252 && (t214 == t253 && (t215 == t254 && (t216 == t255)))))) = true := by simpa using c106))
                                      (try (have c106b2 : (t211 == t250 && (t212 == t251 && (t213 == t252 && (t214 == t253 && (t215 == t254 && (t216 == t255)))))) = true := by simpa using c106))
                                      clear c106
                                      by_cases c107 : t217 = t256
                                      · rw [if_pos c107] at H
                                        have c107b0 : (t217 == t256) = true := beq_iff_eq.mpr c107
                                        have c107b1 : (t217 != t256) = false := bne_eq_false_iff_eq.mpr c107
                                        clear c107
                                        obtain rfl := Option.some.inj H
                                        have hnb108 := NB202_219.out
                                        have hnc108 := NB219_202.out
                                        have hcz109_0 : wr.cell? ⟨gb202, 0, none⟩ = some (.int .i64 a0_0) := (blk_cell BK202.out 0).trans rfl
                                        have hcz109_1 : wr.cell? ⟨gb202, 1, none⟩ = some (.int .i64 a0_1) := (blk_cell BK202.out 1).trans rfl
                                        have hcz109_2 : wr.cell? ⟨gb202, 2, none⟩ = some (.int .i64 a0_2) := (blk_cell BK202.out 2).trans rfl
                                        have hcz109_3 : wr.cell? ⟨gb202, 3, none⟩ = some (.int .i64 a0_3) := (blk_cell BK202.out 3).trans rfl
                                        have hcz109_4 : wr.cell? ⟨gb202, 4, none⟩ = some (.int .i64 a0_4) := (blk_cell BK202.out 4).trans rfl
                                        have hcz109_5 : wr.cell? ⟨gb202, 5, none⟩ = some (.int .i64 a0_5) := (blk_cell BK202.out 5).trans rfl
                                        have hfz109_0 := blk_frozen BK202.out 0
                                        have hfz109_1 := blk_frozen BK202.out 1
                                        have hfz109_2 := blk_frozen BK202.out 2
                                        have hfz109_3 := blk_frozen BK202.out 3
                                        have hfz109_4 := blk_frozen BK202.out 4
                                        have hfz109_5 := blk_frozen BK202.out 5
                                        go_wp2_with (first | ((with_reducible refine gate_callee (f := 40) rfl ?_); refine goesL_ (some 131) rfl rfl Try.func40 (by kernel_rfl) rfl #[.slice A1 y204.length c1, .int .i64 a0_3, .int .i64 a2] rfl (by (try simp only [List.map_toArray, List.map_cons, List.map_nil]); first | done | rfl | (simp only [List.length_drop, List.length_take]; rfl)) ?_; (with_reducible refine (otp_Code.calls _ _ y204 a0_3 a2 t227 t228 _ ?side1 ?side2 A68.out).mono ?_); (case side1 => repeat (first | exact (Kd.C_below HR207.out HB.out) | (with_reducible refine Kd.C_alloc ?_ _) | (with_reducible refine Kd.C_drewN ?_ _) | (with_reducible refine Kd.C_drew ?_))); (case side2 => exact HC207.out); rintro e w110 ⟨rfl, hb⟩; refine ⟨_, rfl, ?_⟩; have n0_ := Aside0.mk (Kd.R_below (by (with_reducible repeat (first | apply Kd.R_alloc | apply Kd.R_drewN | apply Kd.R_drew)); exact HO_17.out) hb); have n1_ := Aside0.mk (blk_below (g := gb202) (o := .cells #[.int .i64 a0_0, .int .i64 a0_1, .int .i64 a0_2, .int .i64 a0_3, .int .i64 a0_4, .int .i64 a0_5] 48 (0, 0)) (by (with_reducible repeat (first | refine blk_drewN ?_ _ | refine blk_drew ?_ | refine blk_alloc ?_ _)); exact BK202.out) hb); have n2_ := Aside0.mk (blk_below (g := gb219) (o := .cells #[.int .i64 t211, .int .i64 t212, .int .i64 t213, .int .i64 t214, .int .i64 t215, .int .i64 t216] 48 (0, 0)) (by (with_reducible repeat (first | refine blk_drewN ?_ _ | refine blk_drew ?_ | refine blk_alloc ?_ _)); exact BK219.out) hb); have n3_ := Aside0.mk (below_step (by repeat (first | (with_reducible first | exact HB.out | apply below_alloc | apply pw_below_drewN | apply below_drew1 | refine below_set ?_ GE202.out | refine below_set ?_ GE219.out) | exact HB.out)) hb); clear HO_17; clear BK202; clear BK219; clear HB; have HO_17 := n0_; have BK202 := n1_; have BK219 := n2_; have HB := n3_; clear n0_ n1_ n2_ n3_; (try clear hb); (try clear hb2); (try clear hk); (try clear hi); have hcz111_0 : w110.cell? ⟨gb202, 0, none⟩ = some (.int .i64 a0_0) := (blk_cell BK202.out 0).trans rfl; have hcz111_1 : w110.cell? ⟨gb202, 1, none⟩ = some (.int .i64 a0_1) := (blk_cell BK202.out 1).trans rfl; have hcz111_2 : w110.cell? ⟨gb202, 2, none⟩ = some (.int .i64 a0_2) := (blk_cell BK202.out 2).trans rfl; have hcz111_3 : w110.cell? ⟨gb202, 3, none⟩ = some (.int .i64 a0_3) := (blk_cell BK202.out 3).trans rfl; have hcz111_4 : w110.cell? ⟨gb202, 4, none⟩ = some (.int .i64 a0_4) := (blk_cell BK202.out 4).trans rfl; have hcz111_5 : w110.cell? ⟨gb202, 5, none⟩ = some (.int .i64 a0_5) := (blk_cell BK202.out 5).trans rfl; have hfz111_0 := blk_frozen BK202.out 0; have hfz111_1 := blk_frozen BK202.out 1; have hfz111_2 := blk_frozen BK202.out 2; have hfz111_3 := blk_frozen BK202.out 3; have hfz111_4 := blk_frozen BK202.out 4; have hfz111_5 := blk_frozen BK202.out 5; obtain ⟨Ao112, co112, eo112⟩ := Kd.R_slice HO_17.out; subst eo112) | ((with_reducible refine gate_callee (f := 36) rfl ?_); refine goesL_ (some 149) rfl rfl Try.func36 (by kernel_rfl) rfl #[.agg #[.int .i64 a0_0, .int .i64 a0_1, .int .i64 a0_2, .int .i64 a0_3, .int .i64 a0_4, .int .i64 a0_5], .slice Ao112 x17_5.length co112] rfl (by (try simp only [List.map_toArray, List.map_cons, List.map_nil]); first | done | rfl | (simp only [List.length_drop, List.length_take]; rfl)) ?_; (with_reducible refine (sluicewayref05_Accept.calls k5 a0_0 a0_1 a0_2 a0_3 a0_4 a0_5 _ _ x17_5 t250 t251 t252 t253 t254 t255 t256 t257 _ ?side1 ?side2 A104.out).mono ?_); (case side1 => repeat (first | exact (Kd.R_reads' HO_17.out).2.2 | (with_reducible refine Kd.C_alloc ?_ _) | (with_reducible refine Kd.C_drewN ?_ _) | (with_reducible refine Kd.C_drew ?_))); (case side2 => exact (Kd.R_reads' HO_17.out).2.1); rintro e w113 ⟨rfl, hb⟩; refine ⟨_, rfl, ?_⟩; have n0_ := Aside0.mk (Kd.R_below (by (with_reducible repeat (first | apply Kd.R_alloc | apply Kd.R_drewN | apply Kd.R_drew)); exact HO_17.out) hb); have n1_ := Aside0.mk (blk_below (g := gb202) (o := .cells #[.int .i64 a0_0, .int .i64 a0_1, .int .i64 a0_2, .int .i64 a0_3, .int .i64 a0_4, .int .i64 a0_5] 48 (0, 0)) (by (with_reducible repeat (first | refine blk_drewN ?_ _ | refine blk_drew ?_ | refine blk_alloc ?_ _)); exact BK202.out) hb); have n2_ := Aside0.mk (blk_below (g := gb219) (o := .cells #[.int .i64 t211, .int .i64 t212, .int .i64 t213, .int .i64 t214, .int .i64 t215, .int .i64 t216] 48 (0, 0)) (by (with_reducible repeat (first | refine blk_drewN ?_ _ | refine blk_drew ?_ | refine blk_alloc ?_ _)); exact BK219.out) hb); have n3_ := Aside0.mk (below_step (by repeat (first | (with_reducible first | exact HB.out | apply below_alloc | apply pw_below_drewN | apply below_drew1 | refine below_set ?_ GE202.out | refine below_set ?_ GE219.out) | exact HB.out)) hb); clear HO_17; clear BK202; clear BK219; clear HB; have HO_17 := n0_; have BK202 := n1_; have BK219 := n2_; have HB := n3_; clear n0_ n1_ n2_ n3_; (try clear hb); (try clear hb2); (try clear hk); (try clear hi)) | ((with_reducible refine gate_dst (N := 23) rfl ?_); refine box_event ?hg (N := 23) ?hd (cs := #[.int .i64 0, .int .i64 0, .int .i64 0, .int .i64 0, .int .i64 0, .int .i64 0]) (t := 48) ?hr ?_; (case hd => rfl); (case hg => rfl); (case hr => first | (go_simp; done) | (go_simp; rfl)); intro gb258 hg w114 hbox hb; have n0_ := Aside0.mk (Kd.R_below (by (with_reducible repeat (first | apply Kd.R_alloc | apply Kd.R_drewN | apply Kd.R_drew)); exact HO_17.out) hb); have n1_ := Aside0.mk (blk_below (g := gb202) (o := .cells #[.int .i64 a0_0, .int .i64 a0_1, .int .i64 a0_2, .int .i64 a0_3, .int .i64 a0_4, .int .i64 a0_5] 48 (0, 0)) (by (with_reducible repeat (first | refine blk_drewN ?_ _ | refine blk_drew ?_ | refine blk_alloc ?_ _)); exact BK202.out) hb); have n2_ := Aside0.mk (blk_below (g := gb219) (o := .cells #[.int .i64 t211, .int .i64 t212, .int .i64 t213, .int .i64 t214, .int .i64 t215, .int .i64 t216] 48 (0, 0)) (by (with_reducible repeat (first | refine blk_drewN ?_ _ | refine blk_drew ?_ | refine blk_alloc ?_ _)); exact BK219.out) hb); have n3_ := Aside0.mk (below_step (by repeat (first | (with_reducible first | exact HB.out | apply below_alloc | apply pw_below_drewN | apply below_drew1 | refine below_set ?_ GE202.out | refine below_set ?_ GE219.out) | exact HB.out)) hb); have n4_ := Aside0.mk (hbox); have n5_ := Aside0.mk ((by rw [hg]; exact (below_size (by repeat (first | (with_reducible first | exact HB.out | apply below_alloc | apply pw_below_drewN | apply below_drew1 | refine below_set ?_ GE202.out | refine below_set ?_ GE219.out) | exact HB.out))) : w.heap.size ≤ gb258)); have n6_ := Aside0.mk ((by rw [hg]; exact (below_size (by repeat (first | (with_reducible first | exact HB.out | apply below_alloc | apply pw_below_drewN | apply below_drew1 | refine below_set ?_ GE202.out | refine below_set ?_ GE219.out) | exact HB.out))) : w.heap.size ≤ gb258)); have n7_ := Aside0.mk ((by rw [hg]; exact Nat.ne_of_lt (blk_lt (g := gb202) (o := .cells #[.int .i64 a0_0, .int .i64 a0_1, .int .i64 a0_2, .int .i64 a0_3, .int .i64 a0_4, .int .i64 a0_5] 48 (0, 0)) (by (with_reducible repeat (first | refine blk_drewN ?_ _ | refine blk_drew ?_ | refine blk_alloc ?_ _)); exact BK202.out)) : gb202 ≠ gb258)); have n8_ := Aside0.mk ((by rw [hg]; exact Nat.ne_of_gt (blk_lt (g := gb202) (o := .cells #[.int .i64 a0_0, .int .i64 a0_1, .int .i64 a0_2, .int .i64 a0_3, .int .i64 a0_4, .int .i64 a0_5] 48 (0, 0)) (by (with_reducible repeat (first | refine blk_drewN ?_ _ | refine blk_drew ?_ | refine blk_alloc ?_ _)); exact BK202.out)) : gb258 ≠ gb202)); have n9_ := Aside0.mk ((by rw [hg]; exact Nat.ne_of_lt (blk_lt (g := gb219) (o := .cells #[.int .i64 t211, .int .i64 t212, .int .i64 t213, .int .i64 t214, .int .i64 t215, .int .i64 t216] 48 (0, 0)) (by (with_reducible repeat (first | refine blk_drewN ?_ _ | refine blk_drew ?_ | refine blk_alloc ?_ _)); exact BK219.out)) : gb219 ≠ gb258)); have n10_ := Aside0.mk ((by rw [hg]; exact Nat.ne_of_gt (blk_lt (g := gb219) (o := .cells #[.int .i64 t211, .int .i64 t212, .int .i64 t213, .int .i64 t214, .int .i64 t215, .int .i64 t216] 48 (0, 0)) (by (with_reducible repeat (first | refine blk_drewN ?_ _ | refine blk_drew ?_ | refine blk_alloc ?_ _)); exact BK219.out)) : gb258 ≠ gb219)); clear HO_17; clear BK202; clear BK219; clear HB; have HO_17 := n0_; have BK202 := n1_; have BK219 := n2_; have HB := n3_; have BK258 := n4_; have GW258 := n5_; have GE258 := n6_; have NB202_258 := n7_; have NB258_202 := n8_; have NB219_258 := n9_; have NB258_219 := n10_; clear n0_ n1_ n2_ n3_ n4_ n5_ n6_ n7_ n8_ n9_ n10_; clear hb hbox hg; have hnb115 := NB258_202.out; have hnc115 := NB202_258.out; have hnb116 := NB258_219.out; have hnc116 := NB219_258.out; have hcz117_0 : w114.cell? ⟨gb258, 0, none⟩ = some (.int .i64 0) := (blk_cell BK258.out 0).trans rfl; have hcz117_1 : w114.cell? ⟨gb258, 1, none⟩ = some (.int .i64 0) := (blk_cell BK258.out 1).trans rfl; have hcz117_2 : w114.cell? ⟨gb258, 2, none⟩ = some (.int .i64 0) := (blk_cell BK258.out 2).trans rfl; have hcz117_3 : w114.cell? ⟨gb258, 3, none⟩ = some (.int .i64 0) := (blk_cell BK258.out 3).trans rfl; have hcz117_4 : w114.cell? ⟨gb258, 4, none⟩ = some (.int .i64 0) := (blk_cell BK258.out 4).trans rfl; have hcz117_5 : w114.cell? ⟨gb258, 5, none⟩ = some (.int .i64 0) := (blk_cell BK258.out 5).trans rfl; have hfz117_0 := blk_frozen BK258.out 0; have hfz117_1 := blk_frozen BK258.out 1; have hfz117_2 := blk_frozen BK258.out 2; have hfz117_3 := blk_frozen BK258.out 3; have hfz117_4 := blk_frozen BK258.out 4; have hfz117_5 := blk_frozen BK258.out 5; have hcz118_0 : w114.cell? ⟨gb219, 0, none⟩ = some (.int .i64 t211) := (blk_cell BK219.out 0).trans rfl; have hcz118_1 : w114.cell? ⟨gb219, 1, none⟩ = some (.int .i64 t212) := (blk_cell BK219.out 1).trans rfl; have hcz118_2 : w114.cell? ⟨gb219, 2, none⟩ = some (.int .i64 t213) := (blk_cell BK219.out 2).trans rfl; have hcz118_3 : w114.cell? ⟨gb219, 3, none⟩ = some (.int .i64 t214) := (blk_cell BK219.out 3).trans rfl; have hcz118_4 : w114.cell? ⟨gb219, 4, none⟩ = some (.int .i64 t215) := (blk_cell BK219.out 4).trans rfl; have hcz118_5 : w114.cell? ⟨gb219, 5, none⟩ = some (.int .i64 t216) := (blk_cell BK219.out 5).trans rfl; have hfz118_0 := blk_frozen BK219.out 0; have hfz118_1 := blk_frozen BK219.out 1; have hfz118_2 := blk_frozen BK219.out 2; have hfz118_3 := blk_frozen BK219.out 3; have hfz118_4 := blk_frozen BK219.out 4; have hfz118_5 := blk_frozen BK219.out 5))
                                        go_ret
                                        exact ⟨by first | rfl | (simp [errW_none, errW_some] <;> rfl) | (simp only [← hji7]; first | rfl | (simp [errW_none, errW_some] <;> rfl)) | (simp [*, errW_none, errW_some] <;> rfl), by repeat (first | (with_reducible first | exact HB.out | apply below_alloc | apply pw_below_drewN | apply below_drew1 | refine below_set ?_ GE202.out | refine below_set ?_ GE219.out | refine below_set ?_ GE258.out) | exact HB.out)⟩
                                      · rw [if_neg c107] at H
                                        exact absurd H (by simp)
                                    · rw [if_neg c106] at H
                                      exact absurd H (by simp)
                                  · replace c105 := Bool.eq_false_iff.mpr c105
                                    subst c105
                                    have H1 : (none) = some r := by rw [if_neg (show ¬ (false = true) by decide)] at H; exact H
                                    clear H
                                    have H := H1
                                    clear H1
                                    exact absurd H (by simp)
    · rw [if_neg c9] at H
      exact absurd H (by simp)
  · rw [if_neg c8] at H
    exact absurd H (by simp)

end Go.Proofs.Ytijnmoceafcamaa.GWindowTries
