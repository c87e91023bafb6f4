-- Printed by a program of this session's own (the kit's print, patched: wip/scripts/patch.py), for this claim. Not trusted: Lean checks it.
import Derived.Test.YtpphoifjhhidfaaProg
import Derived.Below
import Derived.Deep.Draws
import Derived.Deep.AppendLies
import Derived.Maps.AppendAt
import Derived.OwnWalk
import Derived.Laws.BytesArg
import Derived.Laws.MakeOwn
import Derived.Laws.OwnMore
import Derived.Deep.OwnRows
import Derived.Tactics
import Derived.Lib.ConvBytes
import Derived.Laws.Slices
import Derived.WalkKit
import Derived.KernelRfl
import Derived.RowKit3
import Derived.Deep.LoopGhost
import Derived.Deep.QuietTactic
import Derived.BigQuiet
import Derived.WideLaws
import Derived.Deep.DeepCutAuto
import Derived.Deep.CutBlock
import Derived.Deep.RegionHeld3
import Derived.Laws.Rows
import Derived.Lib.AppendStr
import Derived.ArgAppend
import Derived.Laws.IdiomCopy
import Derived.OrdersHeld
import Derived.Laws.BitsLemmas
import Derived.RowKit
import Derived.Test.YtpphoifjhhidfaaOf
import Derived.Test.YtpphoifjhhidfaaGshownx0
import Derived.Test.YtpphoifjhhidfaaGDerBytesx6
import Derived.Test.YtpphoifjhhidfaaWWords
import Derived.Test.YtpphoifjhhidfaaWLast
import Derived.Test.YtpphoifjhhidfaaWTab
import Derived.Test.YtpphoifjhhidfaaWFour
import Derived.Test.YtpphoifjhhidfaaWQPut
import Derived.Test.YtpphoifjhhidfaaWApart
import Derived.Test.YtpphoifjhhidfaaWArr
import Derived.Test.YtpphoifjhhidfaaWZeros
import Derived.Test.YtpphoifjhhidfaaWFoot
import Derived.Test.YtpphoifjhhidfaaWKept
import Derived.Test.YtpphoifjhhidfaaWShare
import Derived.Test.YtpphoifjhhidfaaWN
import Derived.Test.YtpphoifjhhidfaaWFootNe
import Derived.Test.YtpphoifjhhidfaaWAt
import Derived.Test.YtpphoifjhhidfaaWEqStruct
import Derived.Test.YtpphoifjhhidfaaWRepsOne
import Derived.Test.YtpphoifjhhidfaaWInv
import Derived.Test.YtpphoifjhhidfaaWInvWords
import Derived.Test.YtpphoifjhhidfaaWGuard
import Derived.Test.YtpphoifjhhidfaaWNEv
import Derived.Test.YtpphoifjhhidfaaWMore
namespace Go.Proofs.Ytpphoifjhhidfaa.GDerReads
open Go.Proofs.Ytpphoifjhhidfaa.Der
open Go.Proofs.Ytpphoifjhhidfaa.GDerBytes
open Go.RowKit Go.Proofs.YtpphoifjhhidfaaW.PrintWords Go.Proofs.YtpphoifjhhidfaaW.PrintLast Go.Proofs.YtpphoifjhhidfaaW.PrintMore
attribute [local go_sem] max2_int min2_int max_two min_two max_three min_three max_four min_four   -- for this text's walks alone
set_option linter.unusedVariables false
set_option linter.unusedSimpArgs false



def errW : Option Int → Value
  | none => .nilIface
  | some c => .iface 0 (.int .i64 c)
theorem errW_none : errW none = .nilIface := rfl
theorem errW_some (c : Int) : errW (some c) = .iface 0 (.int .i64 c) := rfl

theorem info5 : (Try.prog.info? 5).map (fun i => (i.zero, i.size, i.bytes)) = some (some (.int .u8 0), 1, 1) := by kernel_rfl
theorem info35 : (Try.prog.info? 35).map (fun i => (i.zero, i.size, i.bytes)) = some (some (.agg #[(.int .i64 0), (.int .i64 0), (.string ⟨#[]⟩), (.int .i64 0), (.slice none 0 0)]), 5, 64) := by kernel_rfl
-- the values' own types
end Go.Proofs.Ytpphoifjhhidfaa.GDerReads

namespace Go.Proofs.Ytpphoifjhhidfaa.GDerReads
open Go.Proofs.Ytpphoifjhhidfaa.Der
open Go.Proofs.Ytpphoifjhhidfaa.GDerBytes
open Go.RowKit Go.Proofs.YtpphoifjhhidfaaW.PrintWords Go.Proofs.YtpphoifjhhidfaaW.PrintLast Go.Proofs.YtpphoifjhhidfaaW.PrintMore
attribute [local go_sem] max2_int min2_int max_two min_two max_three min_three max_four min_four   -- for this text's walks alone
set_option linter.unusedVariables false
set_option linter.unusedSimpArgs false

-- NOT PRINTED: function 56 (slices_IndexFunc_byte_byte)

-- NOT PRINTED: function 53 (slices_ContainsFunc_byte_byte)

-- NOT PRINTED: function 39 (der_plain)

-- NOT PRINTED: function 55 (der_Node_55)

-- NOT PRINTED: function 40 (der_Node_40)

-- NOT PRINTED: function 27 (der_right)

/-! ### der_Right: told elsewhere -/

/-! ### slices_Reverse_byte_byte: told elsewhere -/

/-! ### der_number: told elsewhere -/

-- NOT PRINTED: function 33 (der_content)

-- NOT PRINTED: function 50 (slices_Grow_byte_byte)

-- NOT PRINTED: function 34 (slices_Concat_byte_byte)

-- NOT PRINTED: function 35 (der_idents)

/-! ### der_length: told elsewhere -/

-- NOT PRINTED: function 25 (der_written)

/-! ### der_Bytes: told elsewhere -/

-- NOT PRINTED: function 30 (der_Node_30)

/-! ### der_Same: told elsewhere -/

/-! ### bytes_Equal: told elsewhere -/

-- NOT PRINTED: function 43 (der_cut)

/-! ### slices_Index_byte_byte: told elsewhere -/

-- NOT PRINTED: function 47 (der_kids)

-- NOT PRINTED: function 31 (der_read)

/-! ### der_Of: function 22 (given) -/
def der_Of.f (l0 : List Int) : Option (Int × Int × ByteArray × Int × (List (S24)) × Int) := ofF l0
theorem der_Of.calls (A0 : Option Addr) (c0 : Nat) (l0 : List Int) (r1 : Int) (r2 : Int) (r3 : ByteArray) (r4 : Int) (r5 : List (S24)) (r6 : Int) (w : World) (hr0 : Kd.C (Kd.int .u8) w A0 l0.length l0) (hc0 : l0.length ≤ c0) (h : der_Of.f l0 = some (r1, r2, r3, r4, r5, r6)) :
    Calls Try.prog 22 #[.slice A0 l0.length c0] w fun e w' => ∃ v4_ : Value, e = .returned (.tuple #[.agg #[.int .i64 r1, .int .i64 r2, .string r3, .int .i64 r4, v4_], .int .i64 r6]) ∧ Kd.R k24 24 w' w.heap.size (fun _ => True) v4_ r5 ∧ Below w.heap.size w w' :=
  of_of_f A0 c0 l0 r1 r2 r3 r4 r5 r6 w hr0 hc0 h

/-! ### sluicewaylaw01_shown: function 14 (given) -/
def sluicewaylaw01_shown.f : Option Bool := some true
theorem sluicewaylaw01_shown.calls (r : Bool) (w : World) (h : sluicewaylaw01_shown.f = some r) : Calls Try.prog 14 #[] w fun e w' => e = .returned (.bool r) ∧ Below w.heap.size w w' := by
  obtain rfl := Option.some.inj h
  exact shown_calls w

/-! ### sluicewaylaw01_of: function 18 (given) -/
def sluicewaylaw01_of.f (a0_0 : Int) (a0_1 : Int) (a0_2 : ByteArray) (a0_3 : Int) (l0_4 : List (S24)) : Option (Int × Int × ByteArray × Int × (List (S35))) := GDerBytes.sluicewaylaw01_of.f 8388608 a0_0 a0_1 a0_2 a0_3 l0_4
theorem sluicewaylaw01_of.calls (a0_0 : Int) (a0_1 : Int) (a0_2 : ByteArray) (a0_3 : Int) (A0_4 : Option Addr) (c0_4 : Nat) (l0_4 : List (S24)) (r1 : Int) (r2 : Int) (r3 : ByteArray) (r4 : Int) (r5 : List (S35)) (w : World) (hr0_4 : Kd.C k24 w A0_4 l0_4.length l0_4) (hc0_4 : l0_4.length ≤ c0_4) (h : sluicewaylaw01_of.f a0_0 a0_1 a0_2 a0_3 l0_4 = some (r1, r2, r3, r4, r5)) :
    Calls Try.prog 18 #[.agg #[.int .i64 a0_0, .int .i64 a0_1, .string a0_2, .int .i64 a0_3, .slice A0_4 l0_4.length c0_4]] w fun e w' => ∃ v4_ : Value, e = .returned (.agg #[.int .i64 r1, .int .i64 r2, .string r3, .int .i64 r4, v4_]) ∧ Kd.R k35 35 w' w.heap.size (fun _ => True) v4_ r5 ∧ Below w.heap.size w w' :=
  GDerBytes.sluicewaylaw01_of.calls 8388608 a0_0 a0_1 a0_2 a0_3 A0_4 c0_4 l0_4 r1 r2 r3 r4 r5 w hr0_4 hc0_4 h

/-! ### sluicewayref01_Number: told elsewhere -/

/-! ### sluicewayref01_places: told elsewhere -/

/-! ### sluicewayref01_Length: told elsewhere -/

/-! ### sluicewayref01_Written: function 26 (given) -/
def sluicewayref01_Written.f (a0_0 : Int) (a0_1 : Int) (a0_2 : ByteArray) (a0_3 : Int) (l0_4 : List (S35)) : Option ByteArray := GDerBytes.sluicewayref01_Written.f 8388608 a0_0 a0_1 a0_2 a0_3 l0_4
theorem sluicewayref01_Written.calls (a0_0 : Int) (a0_1 : Int) (a0_2 : ByteArray) (a0_3 : Int) (A0_4 : Option Addr) (c0_4 : Nat) (l0_4 : List (S35)) (r : ByteArray) (w : World) (hr0_4 : Kd.C k35 w A0_4 l0_4.length l0_4) (hc0_4 : l0_4.length ≤ c0_4) (h : sluicewayref01_Written.f a0_0 a0_1 a0_2 a0_3 l0_4 = some r) :
    Calls Try.prog 26 #[.agg #[.int .i64 a0_0, .int .i64 a0_1, .string a0_2, .int .i64 a0_3, .slice A0_4 l0_4.length c0_4]] w fun e w' => e = .returned (.string r) ∧ Below w.heap.size w w' :=
  GDerBytes.sluicewayref01_Written.calls 8388608 a0_0 a0_1 a0_2 a0_3 A0_4 c0_4 l0_4 r w hr0_4 hc0_4 h

/-! ### sluicewayref01_visible: told elsewhere -/

/-! ### sluicewayref01_shape: function 29 (given) -/
def sluicewayref01_shape.f (a0_0 : Int) (a0_1 : Int) (a0_2 : ByteArray) (a0_3 : Int) (l0_4 : List (S35)) : Option Bool := GDerBytes.sluicewayref01_shape.f 8388608 a0_0 a0_1 a0_2 a0_3 l0_4
theorem sluicewayref01_shape.calls (a0_0 : Int) (a0_1 : Int) (a0_2 : ByteArray) (a0_3 : Int) (A0_4 : Option Addr) (c0_4 : Nat) (l0_4 : List (S35)) (r : Bool) (w : World) (hr0_4 : Kd.C k35 w A0_4 l0_4.length l0_4) (hc0_4 : l0_4.length ≤ c0_4) (h : sluicewayref01_shape.f a0_0 a0_1 a0_2 a0_3 l0_4 = some r) :
    Calls Try.prog 29 #[.agg #[.int .i64 a0_0, .int .i64 a0_1, .string a0_2, .int .i64 a0_3, .slice A0_4 l0_4.length c0_4]] w fun e w' => e = .returned (.bool r) ∧ Below w.heap.size w w' :=
  GDerBytes.sluicewayref01_shape.calls 8388608 a0_0 a0_1 a0_2 a0_3 A0_4 c0_4 l0_4 r w hr0_4 hc0_4 h

/-! ### sluicewayref01_size: function 48 -/
mutual
def sluicewayref01_size.j0 : Nat → ByteArray → Int → Bool → Option (Int × Int)
  | 0, _, _, _ => none
  | k + 1, x0, x4, x32 => if x32 = true then (some ((-1), 0)) else (sluicewayref01_size.l0 k x0 x4 0 0)
def sluicewayref01_size.l0 : Nat → ByteArray → Int → Int → Int → Option (Int × Int)
  | 0, _, _, _, _ => none
  | k + 1, x0, x4, x5, x6 => if x6 < x4 then (if 0 ≤ (wrap64 (2 + x6)) then (if (wrap64 (2 + x6)) < (x0.size : Int) then (sluicewayref01_size.l0 k x0 x4 (wrap64 ((wrap64 (x5 * 256)) + (wrap64 (bt x0 (wrap64 (2 + x6)))))) (wrap64 (x6 + 1))) else (none)) else (none)) else (some (x5, wrap64 (1 + x4)))
end
def sluicewayref01_size.f (k : Nat) (a0 : ByteArray) : Option (Int × Int) := if (a0.size : Int) < 2 then (some ((-1), 0)) else (if 1 < (a0.size : Int) then (if (bt a0 1) < 128 then (some (wrap64 (bt a0 1), 1)) else (if (wrap64 ((wrap64 (bt a0 1)) - 128)) < 1 then (sluicewayref01_size.j0 k a0 (wrap64 ((wrap64 (bt a0 1)) - 128)) true) else (if (wrap64 ((wrap64 (bt a0 1)) - 128)) > 3 then (sluicewayref01_size.j0 k a0 (wrap64 ((wrap64 (bt a0 1)) - 128)) true) else (sluicewayref01_size.j0 k a0 (wrap64 ((wrap64 (bt a0 1)) - 128)) (decide ((a0.size : Int) < (wrap64 (2 + (wrap64 ((wrap64 (bt a0 1)) - 128)))))))))) else (none))
theorem sluicewayref01_size.mono_l : ∀ k, (∀ y0 y1 y2, LeO (sluicewayref01_size.j0 k y0 y1 y2) (sluicewayref01_size.j0 (k + 1) y0 y1 y2)) ∧ (∀ y0 y1 y2 y3, LeO (sluicewayref01_size.l0 k y0 y1 y2 y3) (sluicewayref01_size.l0 (k + 1) y0 y1 y2 y3))
  | 0 => ⟨fun _ _ _ r h => by simp [sluicewayref01_size.j0] at h, fun _ _ _ _ r h => by simp [sluicewayref01_size.l0] at h⟩
  | k + 1 => by
    obtain ⟨ih0, ih1⟩ := sluicewayref01_size.mono_l k
    refine ⟨?_, ?_⟩
    · intro y0 y1 y2
      unfold sluicewayref01_size.j0
      repeat' first
      | (with_reducible exact ih0 _ _ _)
      | (with_reducible exact ih1 _ _ _ _)
      | (with_reducible exact LeO.refl _)
      | (with_reducible exact LeO.none _)
      | (with_reducible refine LeO.ite ?_ ?_)
      | (with_reducible refine LeO.bind ?_ (fun _ => ?_))
      | exact ih0 _ _ _
      | exact ih1 _ _ _ _
      | exact LeO.none _
      | refine LeO.ite ?_ ?_
      | refine LeO.bind ?_ (fun _ => ?_)
    · intro y0 y1 y2 y3
      unfold sluicewayref01_size.l0
      repeat' first
      | (with_reducible exact ih0 _ _ _)
      | (with_reducible exact ih1 _ _ _ _)
      | (with_reducible exact LeO.refl _)
      | (with_reducible exact LeO.none _)
      | (with_reducible refine LeO.ite ?_ ?_)
      | (with_reducible refine LeO.bind ?_ (fun _ => ?_))
      | exact ih0 _ _ _
      | exact ih1 _ _ _ _
      | exact LeO.none _
      | refine LeO.ite ?_ ?_
      | refine LeO.bind ?_ (fun _ => ?_)
theorem sluicewayref01_size.mono : ∀ a0 k, LeO (sluicewayref01_size.f k a0) (sluicewayref01_size.f (k + 1) a0) := by
  intro a0 k
  obtain ⟨ih0, ih1⟩ := sluicewayref01_size.mono_l k
  unfold sluicewayref01_size.f
  repeat' first
      | (with_reducible exact ih0 _ _ _)
      | (with_reducible exact ih1 _ _ _ _)
      | (with_reducible exact LeO.refl _)
      | (with_reducible exact LeO.none _)
      | (with_reducible refine LeO.ite ?_ ?_)
      | (with_reducible refine LeO.bind ?_ (fun _ => ?_))
      | exact ih0 _ _ _
      | exact ih1 _ _ _ _
      | exact LeO.none _
      | refine LeO.ite ?_ ?_
      | refine LeO.bind ?_ (fun _ => ?_)
set_option maxHeartbeats 8000000 in
set_option maxRecDepth 100000 in
theorem sluicewayref01_size.calls (k : Nat) (a0 : ByteArray) (r1 : Int) (r2 : Int) (w : World) (h : sluicewayref01_size.f k a0 = some (r1, r2)) :
    Calls Try.prog 48 #[.string a0] w fun e w' => e = .returned (.tuple #[.int .i64 r1, .int .i64 r2]) ∧ Drawn0 w w' := by
  have H : (if (a0.size : Int) < 2 then (some ((-1), 0)) else (if 1 < (a0.size : Int) then (if (bt a0 1) < 128 then (some (wrap64 (bt a0 1), 1)) else (if (wrap64 ((wrap64 (bt a0 1)) - 128)) < 1 then (sluicewayref01_size.j0 k a0 (wrap64 ((wrap64 (bt a0 1)) - 128)) true) else (if (wrap64 ((wrap64 (bt a0 1)) - 128)) > 3 then (sluicewayref01_size.j0 k a0 (wrap64 ((wrap64 (bt a0 1)) - 128)) true) else (sluicewayref01_size.j0 k a0 (wrap64 ((wrap64 (bt a0 1)) - 128)) (decide ((a0.size : Int) < (wrap64 (2 + (wrap64 ((wrap64 (bt a0 1)) - 128)))))))))) else (none))) = some (r1, r2) := h
  clear h
  by_cases c2 : (a0.size : Int) < 2
  · rw [if_pos c2] at H
    have c2b0 : decide ((a0.size : Int) < 2) = true := decide_eq_true c2
    have c2b1 : decide (a0.size < 2) = true := decide_eq_true (by omega)
    clear c2
    simp only [Option.some.injEq, Prod.mk.injEq] at H
    obtain ⟨rfl, rfl⟩ := H
    go_enter Try.func48, Try.ntmps48
    go_wp2
    go_ret2
    exact ⟨by first | rfl | (simp; done) | (simp [*]; done), by repeat (first | exact Drawn0.refl _ | apply Drawn0.step)⟩
  · rw [if_neg c2] at H
    have c2b0 : decide ((a0.size : Int) < 2) = false := decide_eq_false c2
    have c2b1 : decide (a0.size < 2) = false := decide_eq_false (by omega)
    clear c2
    by_cases c3 : 1 < (a0.size : Int)
    · rw [if_pos c3] at H
      have c3b0 : decide (1 < (a0.size : Int)) = true := decide_eq_true c3
      have c3b1 : decide (1 < a0.size) = true := decide_eq_true (by omega)
      clear c3
      by_cases c5 : (bt a0 1) < 128
      · rw [if_pos c5] at H
        have c5b0 : decide ((bt a0 1) < 128) = true := decide_eq_true c5
        clear c5
        simp only [Option.some.injEq, Prod.mk.injEq] at H
        obtain ⟨rfl, rfl⟩ := H
        have p4 : 0 ≤ (1 : Int) := (by omega)
        have q4 : 1 < a0.size := (by have : (1 : Int) < (a0.size : Int) := of_decide_eq_true (by first | (with_reducible assumption) | assumption); omega)
        have hx4 : ∀ h : 1 < a0.size, ((a0[1]'h).toNat : Int) = bt a0 1 := bt_at a0 1
        clear p4
        have qi4 : (1 < (a0.size : Int)) = True := eq_true (of_decide_eq_true (by first | (with_reducible assumption) | assumption))
        replace q4 := eq_true q4
        have p6 : 0 ≤ (1 : Int) := (by omega)
        have q6 : 1 < a0.size := (by have : (1 : Int) < (a0.size : Int) := of_decide_eq_true (by first | (with_reducible assumption) | assumption); omega)
        have hx6 : ∀ h : 1 < a0.size, ((a0[1]'h).toNat : Int) = bt a0 1 := bt_at a0 1
        clear p6
        have qi6 : (1 < (a0.size : Int)) = True := eq_true (of_decide_eq_true (by first | (with_reducible assumption) | assumption))
        replace q6 := eq_true q6
        go_enter Try.func48, Try.ntmps48
        go_wp2
        go_ret2
        exact ⟨by first | rfl | (simp; done) | (simp [*]; done), by repeat (first | exact Drawn0.refl _ | apply Drawn0.step)⟩
      · rw [if_neg c5] at H
        have c5b0 : decide ((bt a0 1) < 128) = false := decide_eq_false c5
        clear c5
        have HC8 := Aside0.mk H
        clear H
        have p4 : 0 ≤ (1 : Int) := (by omega)
        have q4 : 1 < a0.size := (by have : (1 : Int) < (a0.size : Int) := of_decide_eq_true (by first | (with_reducible assumption) | assumption); omega)
        have hx4 : ∀ h : 1 < a0.size, ((a0[1]'h).toNat : Int) = bt a0 1 := bt_at a0 1
        clear p4
        have qi4 : (1 < (a0.size : Int)) = True := eq_true (of_decide_eq_true (by first | (with_reducible assumption) | assumption))
        replace q4 := eq_true q4
        have p7 : 0 ≤ (1 : Int) := (by omega)
        have q7 : 1 < a0.size := (by have : (1 : Int) < (a0.size : Int) := of_decide_eq_true (by first | (with_reducible assumption) | assumption); omega)
        have hx7 : ∀ h : 1 < a0.size, ((a0[1]'h).toNat : Int) = bt a0 1 := bt_at a0 1
        clear p7
        have qi7 : (1 < (a0.size : Int)) = True := eq_true (of_decide_eq_true (by first | (with_reducible assumption) | assumption))
        replace q7 := eq_true q7
        go_enter Try.func48, Try.ntmps48
        go_upto_region 6 with (fail)
        go_cut [32] (fun v32 wc => ∃ (kq : Nat) (x32_7 : Bool), v32 = .bool x32_7 ∧ Aside0 (sluicewayref01_size.j0 kq a0 (wrap64 ((wrap64 (bt a0 1)) - 128)) x32_7 = some (r1, r2)) ∧ Aside0 (kq ≤ k) ∧ Drawn0 w wc)
        case first =>
          have H := HC8.out
          clear HC8
          by_cases c9 : (wrap64 ((wrap64 (bt a0 1)) - 128)) < 1
          · rw [if_pos c9] at H
            have c9b0 : decide ((wrap64 ((wrap64 (bt a0 1)) - 128)) < 1) = true := decide_eq_true c9
            clear c9
            (first | rw [c9b0] | (simp only [i64_w, i32_w]; rw [c9b0]) | skip)
            have H' := Aside0.mk H
            clear H
            go_wp2
            go_meet
            case rel => exact ⟨_, (true), (by first | rfl | (simp; done) | (simp [*]; done)), H', ⟨by first | omega | exact Nat.le_refl _⟩, by repeat (first | exact Drawn0.refl _ | apply Drawn0.step)⟩
          · rw [if_neg c9] at H
            have c9b0 : decide ((wrap64 ((wrap64 (bt a0 1)) - 128)) < 1) = false := decide_eq_false c9
            clear c9
            (first | rw [c9b0] | (simp only [i64_w, i32_w]; rw [c9b0]) | skip)
            by_cases c10 : (wrap64 ((wrap64 (bt a0 1)) - 128)) > 3
            · rw [if_pos c10] at H
              have c10b0 : decide (3 < (wrap64 ((wrap64 (bt a0 1)) - 128))) = true := decide_eq_true c10
              clear c10
              have H' := Aside0.mk H
              clear H
              go_wp2
              go_meet
              case rel => exact ⟨_, (true), (by first | rfl | (simp; done) | (simp [*]; done)), H', ⟨by first | omega | exact Nat.le_refl _⟩, by repeat (first | exact Drawn0.refl _ | apply Drawn0.step)⟩
            · rw [if_neg c10] at H
              have c10b0 : decide (3 < (wrap64 ((wrap64 (bt a0 1)) - 128))) = false := decide_eq_false c10
              clear c10
              have H' := Aside0.mk H
              clear H
              go_wp2
              go_meet
              case rel => exact ⟨_, (decide ((a0.size : Int) < (wrap64 (2 + (wrap64 ((wrap64 (bt a0 1)) - 128)))))), (by first | rfl | (simp; done) | (simp [*]; done)), H', ⟨by first | omega | exact Nat.le_refl _⟩, by repeat (first | exact Drawn0.refl _ | apply Drawn0.step)⟩
        case rest =>
          clear HC8
          try clear c1
          try clear c2
          try clear c2b0
          try clear c2b1
          try clear p2
          try clear c3
          try clear c3b0
          try clear c3b1
          try clear c4
          try clear p4
          try clear q4
          try clear hx4
          try clear qi4
          try clear c5
          try clear c5b0
          try clear p6
          try clear q6
          try clear hx6
          try clear qi6
          try clear p7
          try clear q7
          try clear hx7
          try clear qi7
          try clear c9
          try clear c9b0
          try clear c10
          try clear c10b0
          try clear p4
          try clear p6
          try clear p7
          try clear q4
          try clear q6
          try clear q7
          obtain ⟨kq, x32_7, rfl, HA, HJ7, ⟨mc7, rfl⟩⟩ := hcut
          cases kq with
          | zero => exact absurd HA.out (by simp [sluicewayref01_size.j0])
          | succ kj7 =>
            have H := HA.out
            clear HA
            simp only [sluicewayref01_size.j0] at H
            by_cases c11 : x32_7 = true
            · subst c11
              have H1 : (some ((-1), 0)) = some (r1, r2) := by rw [if_pos rfl] at H; exact H
              clear H
              have H := H1
              clear H1
              simp only [Option.some.injEq, Prod.mk.injEq] at H
              obtain ⟨rfl, rfl⟩ := H
              go_wp2
              go_ret2
              exact ⟨by first | rfl | (simp; done) | (simp [*]; done), by repeat (first | exact Drawn0.refl _ | apply Drawn0.step)⟩
            · replace c11 := Bool.eq_false_iff.mpr c11
              subst c11
              have H1 : (sluicewayref01_size.l0 kj7 a0 (wrap64 ((wrap64 (bt a0 1)) - 128)) 0 0) = some (r1, r2) := by rw [if_neg (show ¬ (false = true) by decide)] at H; exact H
              clear H
              have H := H1
              clear H1
              have H' := Aside0.mk H
              clear H
              go_wp2
              go_loopg [5, 6] kj7 (fun kq v5 v6 w' => ∃ (x5_2 : Int) (x6_2 : Int), v5 = .int .i64 x5_2 ∧ v6 = .int .i64 x6_2 ∧ Aside0 (sluicewayref01_size.l0 kq a0 (wrap64 ((wrap64 (bt a0 1)) - 128)) x5_2 x6_2 = some (r1, r2)) ∧ Aside0 (kq ≤ kj7) ∧ Drawn0 w w')
              case atStart => exact ⟨(0), (0), (by first | rfl | (simp; done) | (simp [*]; done)), (by first | rfl | (simp; done) | (simp [*]; done)), H', ⟨Nat.le_refl _⟩, by repeat (first | exact Drawn0.refl _ | apply Drawn0.step)⟩
              case round =>
                clear H'
                try clear c1
                try clear c2
                try clear c2b0
                try clear c2b1
                try clear p2
                try clear c3
                try clear c3b0
                try clear c3b1
                try clear c4
                try clear p4
                try clear q4
                try clear hx4
                try clear qi4
                try clear c5
                try clear c5b0
                try clear p6
                try clear q6
                try clear hx6
                try clear qi6
                try clear c7
                try clear p7
                try clear q7
                try clear hx7
                try clear qi7
                try clear c9
                try clear c9b0
                try clear c10
                try clear c10b0
                try clear c11
                try clear p2
                try clear p4
                try clear p6
                try clear p7
                try clear q4
                try clear q6
                try clear q7
                obtain ⟨x5_2, x6_2, rfl, rfl, HA, HK2, ⟨m2, rfl⟩⟩ := hrel
                cases gk with
                | zero => exact absurd HA.out (by simp [sluicewayref01_size.l0])
                | succ k2 =>
                  have H := HA.out
                  clear HA
                  simp only [sluicewayref01_size.l0] at H
                  by_cases c12 : x6_2 < (wrap64 ((wrap64 (bt a0 1)) - 128))
                  · rw [if_pos c12] at H
                    have c12b0 : decide (x6_2 < (wrap64 ((wrap64 (bt a0 1)) - 128))) = true := decide_eq_true c12
                    clear c12
                    obtain ⟨ji13, hji13⟩ : ∃ j_ : Int, (wrap64 (2 + x6_2)) = j_ := ⟨_, rfl⟩
                    replace H : (if 0 ≤ (ji13) then (if (ji13) < (a0.size : Int) then (sluicewayref01_size.l0 k2 a0 (wrap64 ((wrap64 (bt a0 1)) - 128)) (wrap64 ((wrap64 (x5_2 * 256)) + (wrap64 (bt a0 (ji13))))) (wrap64 (x6_2 + 1))) else (none)) else (none)) = some (r1, r2) := by first | (rw [hji13] at H; exact H) | (simp only [hji13] at H ⊢; exact H)
                    have hji13w : (IntKind.i64.wrap (2 + x6_2)) = ji13 := (i64_w _).trans hji13
                    by_cases c14 : 0 ≤ (ji13)
                    · rw [if_pos c14] at H
                      have c14b0 : decide (0 ≤ (ji13)) = true := decide_eq_true c14
                      clear c14
                      by_cases c15 : (ji13) < (a0.size : Int)
                      · rw [if_pos c15] at H
                        have c15b0 : decide ((ji13) < (a0.size : Int)) = true := decide_eq_true c15
                        clear c15
                        have H' := Aside0.mk H
                        clear H
                        have p16 : 0 ≤ ((ji13) : Int) := of_decide_eq_true (by first | (with_reducible assumption) | assumption)
                        have q16 : (ji13) < (a0.size : Int) := of_decide_eq_true (by first | (with_reducible assumption) | assumption)
                        have hx16 := bt_at a0 (ji13)
                        replace p16 := eq_true p16
                        replace q16 := eq_true q16
                        go_wp2
                        go_roundg k2
                        case measure => have := HJ7.out; have := HK2.out; omega
                        case rel => exact ⟨(wrap64 ((wrap64 (x5_2 * 256)) + (wrap64 (bt a0 (ji13))))), (wrap64 (x6_2 + 1)), (by first | rfl | (simp; done) | (simp only [← hji13] <;> (first | rfl | simp)) | (simp [*]; done)), (by first | rfl | (simp; done) | (simp [*]; done)), H', ⟨by have := HJ7.out; have := HK2.out; omega⟩, by repeat (first | exact Drawn0.refl _ | apply Drawn0.step)⟩
                      · rw [if_neg c15] at H
                        exact absurd H (by simp)
                    · rw [if_neg c14] at H
                      exact absurd H (by simp)
                  · rw [if_neg c12] at H
                    have c12b0 : decide (x6_2 < (wrap64 ((wrap64 (bt a0 1)) - 128))) = false := decide_eq_false c12
                    clear c12
                    simp only [Option.some.injEq, Prod.mk.injEq] at H
                    obtain ⟨rfl, rfl⟩ := H
                    go_wp2
                    go_ret2
                    exact ⟨by first | rfl | (simp; done) | (simp [*]; done), by repeat (first | exact Drawn0.refl _ | apply Drawn0.step)⟩
    · rw [if_neg c3] at H
      exact absurd H (by simp)

/-! ### sluicewayref01_value: function 49 -/
def sluicewayref01_value.l0 : Nat → ByteArray → Int → Int → Option (Int)
  | 0, _, _, _ => none
  | k + 1, x0, x3, x4 => if x4 < (x0.size : Int) then (if 0 ≤ x4 then (if x4 = 0 then (if (wrap64 (bt x0 x4)) > 127 then (sluicewayref01_value.l0 k x0 (wrap64 ((wrap64 (x3 * 256)) + (wrap64 ((wrap64 (bt x0 x4)) - 256)))) (wrap64 (x4 + 1))) else (sluicewayref01_value.l0 k x0 (wrap64 ((wrap64 (x3 * 256)) + (wrap64 (bt x0 x4)))) (wrap64 (x4 + 1)))) else (sluicewayref01_value.l0 k x0 (wrap64 ((wrap64 (x3 * 256)) + (wrap64 (bt x0 x4)))) (wrap64 (x4 + 1)))) else (none)) else (some x3)
def sluicewayref01_value.f (k : Nat) (a0 : ByteArray) : Option (Int) := sluicewayref01_value.l0 k a0 0 0
theorem sluicewayref01_value.mono_l : ∀ k, (∀ y0 y1 y2, LeO (sluicewayref01_value.l0 k y0 y1 y2) (sluicewayref01_value.l0 (k + 1) y0 y1 y2))
  | 0 => fun _ _ _ r h => by simp [sluicewayref01_value.l0] at h
  | k + 1 => by
    have ih0 := sluicewayref01_value.mono_l k
    · intro y0 y1 y2
      unfold sluicewayref01_value.l0
      repeat' first
      | (with_reducible exact ih0 _ _ _)
      | (with_reducible exact LeO.refl _)
      | (with_reducible exact LeO.none _)
      | (with_reducible refine LeO.ite ?_ ?_)
      | (with_reducible refine LeO.bind ?_ (fun _ => ?_))
      | exact ih0 _ _ _
      | exact LeO.none _
      | refine LeO.ite ?_ ?_
      | refine LeO.bind ?_ (fun _ => ?_)
theorem sluicewayref01_value.mono : ∀ a0 k, LeO (sluicewayref01_value.f k a0) (sluicewayref01_value.f (k + 1) a0) := by
  intro a0 k
  have ih0 := sluicewayref01_value.mono_l k
  unfold sluicewayref01_value.f
  repeat' first
      | (with_reducible exact ih0 _ _ _)
      | (with_reducible exact LeO.refl _)
      | (with_reducible exact LeO.none _)
      | (with_reducible refine LeO.ite ?_ ?_)
      | (with_reducible refine LeO.bind ?_ (fun _ => ?_))
      | exact ih0 _ _ _
      | exact LeO.none _
      | refine LeO.ite ?_ ?_
      | refine LeO.bind ?_ (fun _ => ?_)
set_option maxHeartbeats 8000000 in
set_option maxRecDepth 100000 in
theorem sluicewayref01_value.calls (k : Nat) (a0 : ByteArray) (r : Int) (w : World) (h : sluicewayref01_value.f k a0 = some r) :
    Calls Try.prog 49 #[.string a0] w fun e w' => e = .returned (.int .i64 r) ∧ Drawn0 w w' := by
  have H : (sluicewayref01_value.l0 k a0 0 0) = some r := h
  clear h
  have H' := Aside0.mk H
  clear H
  go_enter Try.func49, Try.ntmps49
  go_wp2
  go_loopg [3, 4] k (fun kq v3 v4 w' => ∃ (x3_1 : Int) (x4_1 : Int), v3 = .int .i64 x3_1 ∧ v4 = .int .i64 x4_1 ∧ Aside0 (sluicewayref01_value.l0 kq a0 x3_1 x4_1 = some r) ∧ Aside0 (kq ≤ k) ∧ Drawn0 w w')
  case atStart => exact ⟨(0), (0), (by first | rfl | (simp; done) | (simp [*]; done)), (by first | rfl | (simp; done) | (simp [*]; done)), H', ⟨Nat.le_refl _⟩, by repeat (first | exact Drawn0.refl _ | apply Drawn0.step)⟩
  case round =>
    clear H'
    obtain ⟨x3_1, x4_1, rfl, rfl, HA, HK1, ⟨m1, rfl⟩⟩ := hrel
    cases gk with
    | zero => exact absurd HA.out (by simp [sluicewayref01_value.l0])
    | succ k1 =>
      have H := HA.out
      clear HA
      simp only [sluicewayref01_value.l0] at H
      by_cases c2 : x4_1 < (a0.size : Int)
      · rw [if_pos c2] at H
        have c2b0 : decide (x4_1 < (a0.size : Int)) = true := decide_eq_true c2
        clear c2
        by_cases c3 : 0 ≤ x4_1
        · rw [if_pos c3] at H
          have c3b0 : decide (0 ≤ x4_1) = true := decide_eq_true c3
          clear c3
          by_cases c5 : x4_1 = 0
          · rw [if_pos c5] at H
            have c5b0 : (x4_1 == 0) = true := beq_iff_eq.mpr c5
            have c5b1 : (x4_1 != 0) = false := bne_eq_false_iff_eq.mpr c5
            clear c5
            by_cases c6 : (wrap64 (bt a0 x4_1)) > 127
            · rw [if_pos c6] at H
              have c6b0 : decide (127 < (wrap64 (bt a0 x4_1))) = true := decide_eq_true c6
              clear c6
              have H' := Aside0.mk H
              clear H
              have p4 : 0 ≤ (x4_1 : Int) := of_decide_eq_true (by first | (with_reducible assumption) | assumption)
              have q4 : x4_1 < (a0.size : Int) := of_decide_eq_true (by first | (with_reducible assumption) | assumption)
              have hx4 := bt_at a0 x4_1
              replace p4 := eq_true p4
              replace q4 := eq_true q4
              go_wp2
              go_roundg k1
              case measure => have := HK1.out; omega
              case rel => exact ⟨(wrap64 ((wrap64 (x3_1 * 256)) + (wrap64 ((wrap64 (bt a0 x4_1)) - 256)))), (wrap64 (x4_1 + 1)), (by first | rfl | (simp; done) | (simp [*]; done)), (by first | rfl | (simp; done) | (simp [*]; done)), H', ⟨by have := HK1.out; omega⟩, by repeat (first | exact Drawn0.refl _ | apply Drawn0.step)⟩
            · rw [if_neg c6] at H
              have c6b0 : decide (127 < (wrap64 (bt a0 x4_1))) = false := decide_eq_false c6
              clear c6
              have H' := Aside0.mk H
              clear H
              have p4 : 0 ≤ (x4_1 : Int) := of_decide_eq_true (by first | (with_reducible assumption) | assumption)
              have q4 : x4_1 < (a0.size : Int) := of_decide_eq_true (by first | (with_reducible assumption) | assumption)
              have hx4 := bt_at a0 x4_1
              replace p4 := eq_true p4
              replace q4 := eq_true q4
              go_wp2
              go_roundg k1
              case measure => have := HK1.out; omega
              case rel => exact ⟨(wrap64 ((wrap64 (x3_1 * 256)) + (wrap64 (bt a0 x4_1)))), (wrap64 (x4_1 + 1)), (by first | rfl | (simp; done) | (simp [*]; done)), (by first | rfl | (simp; done) | (simp [*]; done)), H', ⟨by have := HK1.out; omega⟩, by repeat (first | exact Drawn0.refl _ | apply Drawn0.step)⟩
          · rw [if_neg c5] at H
            have c5b0 : (x4_1 == 0) = false := beq_eq_false_iff_ne.mpr c5
            have c5b1 : (x4_1 != 0) = true := bne_iff_ne.mpr c5
            have H' := Aside0.mk H
            clear H
            have p4 : 0 ≤ (x4_1 : Int) := of_decide_eq_true (by first | (with_reducible assumption) | assumption)
            have q4 : x4_1 < (a0.size : Int) := of_decide_eq_true (by first | (with_reducible assumption) | assumption)
            have hx4 := bt_at a0 x4_1
            replace p4 := eq_true p4
            replace q4 := eq_true q4
            go_wp2
            go_roundg k1
            case measure => have := HK1.out; omega
            case rel => exact ⟨(wrap64 ((wrap64 (x3_1 * 256)) + (wrap64 (bt a0 x4_1)))), (wrap64 (x4_1 + 1)), (by first | rfl | (simp; done) | (simp [*]; done)), (by first | rfl | (simp; done) | (simp [*]; done)), H', ⟨by have := HK1.out; omega⟩, by repeat (first | exact Drawn0.refl _ | apply Drawn0.step)⟩
        · rw [if_neg c3] at H
          exact absurd H (by simp)
      · rw [if_neg c2] at H
        have c2b0 : decide (x4_1 < (a0.size : Int)) = false := decide_eq_false c2
        clear c2
        obtain rfl := Option.some.inj H
        go_wp2
        go_ret
        exact ⟨by first | rfl | (simp; done) | (simp [*]; done), by repeat (first | exact Drawn0.refl _ | apply Drawn0.step)⟩

end Go.Proofs.Ytpphoifjhhidfaa.GDerReads
