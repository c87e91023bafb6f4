/- The row of WindowTries, closed: for every input the law returns true, and each argument reads behind the call as it read before. No condition. -/
import Derived.Test.YtijnmoceafcamaaRows
import Derived.Test.YtijnmoceafcamaaGWindowTriesx6
import Derived.Test.YtijnmoceafcamaaPureWindowTries
import Derived.Test.YtijnmoceafcamaaOpen
import Derived.WalkKit
import Derived.ProofKit
import Derived.OpenShut
import Derived.ShutString
import Derived.ChangeOld
import Derived.Below
import Derived.SizedLaws
import Derived.Test.YtijnmoceafcamaaWSized
namespace Go.Proofs.Ytijnmoceafcamaa.windowTries
open Go.ChangeShapes Go.WideShapes Go.ChangeAt Go.RowKit
open Go.ChangeMaps (open_string shut_string)
open Go.Proofs.YtijnmoceafcamaaW.PrintWords
set_option linter.unusedVariables false
theorem own : ownKnob Try.prog.godebug = none := by kernel_rfl
theorem laidOut : laidOutB Try.prog = true := by kernel_rfl
theorem field48 {fs : Array Field} (h : Try.prog.underlying 48 = some (.struct fs)) : ∀ (i : Nat) (f : Field), fs[i]? = some f → f.offset = i ∧ Try.prog.underlying f.type = some (.int .i64) ∧ Try.prog.cellsOf f.type = 1 := by
  rw [Try.underlying48] at h
  injection h with h
  injection h with h
  subst h
  intro i f hf
  match i, hf with
  | 0, hf | 1, hf | 2, hf | 3, hf | 4, hf | 5, hf => (injection hf with hf; subst hf; exact ⟨rfl, Try.underlying3, by kernel_rfl⟩)
  | i + 6, hf => simp at hf
theorem list6 {xs : List Int} {n : Nat} (h : xs.length = n) (hn : n = 6 := by rfl) : ∃ a b c d e f, xs = [a, b, c, d, e, f] := by
  subst hn
  match xs, h with
  | [a, b, c, d, e, f], _ => exact ⟨a, b, c, d, e, f, rfl⟩
set_option maxRecDepth 100000 in
theorem lifted (os : Os) (started : os.Started) (H : Type) (enc : TypeId × Value → H) :
    ReturnsInHanded {} Try.checked os 19 .any (Rows.windowTriesSpec.pre6 enc Try.prog Try.f19 Rows.windowTriesRow.domain false) (Rows.windowTriesSpec.post enc Try.prog Try.f19 false true false false) := by
  refine returnsInHanded_of_change_sized (C := Try.checked) own started (by kernel_rfl) Try.func19
    (ChangeSpec.witness6 (enc := enc) (C := Try.checked) false ⟨#[], #[.agg #[.int .i64 0, .int .i64 0, .int .i64 0, .int .i64 0, .int .i64 0, .int .i64 0], .slice none 0 0, .int .i64 0, .int .i64 0, .int .i64 0], []⟩ 8 (by kernel_rfl) (by kernel_rfl) (by kernel_rfl) (by kernel_rfl)) ?_
  intro W base args ds gs before hval0 hW hcnd hsz0 _
  have hsz : (DataW.weightsEach Try.prog (Try.f19.params.toList ++ Rows.windowTriesSpec.plain.varTypes Try.prog) (ds ++ gs)).all (· ≤ reachBytes) = true := hsz0
  have hval : ∀ (j : Nat) t v, Try.f19.params[j]? = some t → args[j]? = some v → Value.okWide Try.prog W .any base t v := hval0
  have hW' := hW
  obtain ⟨p, q, hA0, hV, rfl, hfz, hnd⟩ := hW
  have hA : DataW.TrodAll enc Try.prog W 0 (fun _ => true) true Try.f19.params.toList args.toList ds p := hA0
  rw [Try.params19] at hA hval hsz
  obtain ⟨v0, vs0, d0, ds0, p0, q0, hargs, rfl, rfl, h0, r0⟩ := trodAll_cons hA
  obtain ⟨v1, vs1, d1, ds1, p1, q1, rfl, rfl, rfl, h1, r1⟩ := trodAll_cons r0
  obtain ⟨v2, vs2, d2, ds2, p2, q2, rfl, rfl, rfl, h2, r2⟩ := trodAll_cons r1
  obtain ⟨v3, vs3, d3, ds3, p3, q3, rfl, rfl, rfl, h3, r3⟩ := trodAll_cons r2
  obtain ⟨v4, vs4, d4, ds4, p4, q4, rfl, rfl, rfl, h4, r4⟩ := trodAll_cons r3
  obtain ⟨rfl, rfl, rfl⟩ := trodAll_nil r4
  obtain rfl : args = #[v0, v1, v2, v3, v4] := by cases args; simp_all
  obtain ⟨rfl, rfl⟩ := trodVars_none hV
  obtain ⟨xs0, xl0, rfl, xw0⟩ := Opened.rec_ints (k := .i64) Try.underlying48 (field48 Try.underlying48) (by kernel_rfl) (hval 0 48 v0 rfl rfl) h0
  obtain ⟨a0_0, a0_1, a0_2, a0_3, a0_4, a0_5, rfl⟩ : ∃ a0_0 a0_1 a0_2 a0_3 a0_4 a0_5, xs0 = [a0_0, a0_1, a0_2, a0_3, a0_4, a0_5] := list6 xl0
  have k0 := h0
  have lt0 : ∀ x ∈ p0, x.block < W.heap.size := by obtain ⟨m, hm⟩ := k0; exact DataW.trod_lt m _ _ _ hm
  have w0_0 := xw0 a0_0 (by simp)
  have w0_1 := xw0 a0_1 (by simp)
  have w0_2 := xw0 a0_2 (by simp)
  have w0_3 := xw0 a0_3 (by simp)
  have w0_4 := xw0 a0_4 (by simp)
  have w0_5 := xw0 a0_5 (by simp)
  obtain ⟨A1, len1, c1, rfl⟩ := okWide_slice Try.underlying22 (hval 1 22 v1 rfl rfl)
  have k1 := h1
  have lt1 : ∀ x ∈ p1, x.block < W.heap.size := by obtain ⟨m, hm⟩ := k1; exact DataW.trod_lt m _ _ _ hm
  have y1 := sized_ints hsz (j := 1) (t := 22) rfl rfl Try.underlying22 Try.underlying5 (by kernel_rfl) (B := 1) (by kernel_rfl) h1
  obtain ⟨l1, rfl, hr1, hc1, hm1, hw1⟩ := Opened.open_ints_C Try.underlying22 Try.underlying5 (by kernel_rfl) h1
  obtain ⟨a2, rfl, rfl, rfl, w2⟩ := open_int Try.underlying3 (hval 2 3 v2 rfl rfl) h2
  obtain ⟨a3, rfl, rfl, rfl, w3⟩ := open_int Try.underlying3 (hval 3 3 v3 rfl rfl) h3
  obtain ⟨a4, rfl, rfl, rfl, w4⟩ := open_int Try.underlying3 (hval 4 3 v4 rfl rfl) h4
  clear hA0 hval0 hsz0 hsz
  obtain ⟨k, hk⟩ := PureWindowTries.WindowTries a0_0 a0_1 a0_2 a0_3 a0_4 a0_5 l1 a2 a3 a4 w0_0 w0_1 w0_2 w0_3 w0_4 w0_5 y1 hw1 w2 w3 w4
  refine (GWindowTries.sluicewaylaw05_WindowTries.calls k a0_0 a0_1 a0_2 a0_3 a0_4 a0_5 A1 c1 l1 a2 a3 a4 true W hr1 hc1 hk).mono fun e W' ⟨he, bel⟩ => ?_
  subst he
  exact ⟨_, rfl, _, _, _, [], _, [], hW', trodAll_mk1 (shut_bool Try.underlying4 _), (trodAll_cons_mk (Below.trod laidOut (by kernel_rfl) (of_decide_eq_true (by kernel_rfl)) k0 bel lt0) (trodAll_cons_mk (Below.trod laidOut (by kernel_rfl) (of_decide_eq_true (by kernel_rfl)) k1 bel lt1) (trodAll_cons_mk (shut_int Try.underlying3 w2) (trodAll_cons_mk (shut_int Try.underlying3 w3) (trodAll_cons_mk (shut_int Try.underlying3 w4) trodAll_mk0))))), rfl, bel.frame _, fun h => by cases h⟩
theorem over : Rows.windowTriesRow.holds Try.pinned (OpenSpec.ofChange Rows.windowTriesSpec) :=
  OpenClaim.holds_of_wide 19 Try.f19 rfl rfl rfl rfl rfl rfl rfl ⟨rfl, rfl, rfl, rfl, rfl⟩ rfl rfl rfl rfl rfl (by kernel_rfl) Try.func19 (by kernel_rfl)
    (of_decide_eq_true (by kernel_rfl)) (by unfold Func.isWrapper; first | (rw [if_pos (by decide +kernel)]; kernel_rfl) | (rw [if_neg (by decide +kernel)]; exact ⟨rfl, rfl⟩))
    (fun os started H enc _ => lifted os started H enc)
theorem proved : Rows.WindowTriesSaid := over
#print axioms proved
end Go.Proofs.Ytijnmoceafcamaa.windowTries
namespace Go.Proofs.Ytijnmoceafcamaa
/-- The row, under a short name, for the claim. -/
theorem windowTries_holds : Rows.WindowTriesSaid := windowTries.proved
end Go.Proofs.Ytijnmoceafcamaa
