/- The constants of package api are as they were given, and an Errno tells its number: for every input the law returns true; the input reads as it did. The row lists six package-level variables with what the program's text lays in them; the card ties them. No other condition. -/
import Derived.Test.YtpmehdggikjkfaaGreatDoorRows
import Derived.Test.YtpmehdggikjkfaaGreatDoorCards
import Derived.Test.YtpmehdggikjkfaaGreatDoorTie
import Derived.Test.YtpmehdggikjkfaaGreatDoorCells
import Derived.Test.YtpmehdggikjkfaaGreatDoorWit
import Derived.Test.YtpmehdggikjkfaaGreatDoorFacts
import Derived.Test.YtpmehdggikjkfaaGreatDoorTop
import Derived.WalkKit
import Derived.ProofKit
import Derived.Lay
import Derived.SevenTiedAt
import Derived.OpenShut
namespace Go.Proofs.YtpmehdggikjkfaaGreatDoor
open Go.ChangeShapes Go.WideShapes Go.ChangeAt Go.RowKit
namespace TopRow
/-! ### the row -/
theorem own : ownKnob Tryz.prog.godebug = none := by kernel_rfl
theorem g_kinds : Tryz.prog.globalNamed "sluiceway/term.kinds" = some 0 := by kernel_rfl
theorem g_pow : Tryz.prog.globalNamed "internal/strconv.uint64pow10" = some 1 := by kernel_rfl
theorem g_range : Tryz.prog.globalNamed "strconv.ErrRange" = some 5 := by kernel_rfl
theorem t_kinds : (Tryz.prog.globals[0]?).map (·.type) = some 179 := by kernel_rfl
theorem t_pow : (Tryz.prog.globals[1]?).map (·.type) = some 225 := by kernel_rfl
theorem law {W : World} (hL : laidMet Tryz.prog Rows.topNamesRow.laid W) (x : Int) (hx0 : 0 ≤ x) (hx1 : x ≤ 255) :
    Calls Tryz.prog 3 #[.int .u8 x] W fun e W' => e = .returned (.bool true) ∧ W'.os = W.os ∧ W'.output = W.output ∧ W.heap.size ≤ W'.heap.size ∧ ∀ k, k < W.heap.size → W'.heap[k]? = W.heap[k]? := by
  obtain ⟨g0, ty0, cs0, f0, p0, a1, a2, a3, a4⟩ := laid_reads' hL (n := "sluiceway/term.kinds") (d := Rows.laid_sluiceway_term_kinds) (by simp [Rows.topNamesRow])
  obtain ⟨g1, ty1, cs1, f1, p1, b1, b2, b3, b4⟩ := laid_reads' hL (n := "internal/strconv.uint64pow10") (d := Rows.laid_internal_strconv_uint64pow10) (by simp [Rows.topNamesRow])
  obtain ⟨g5, _, cs5, _, _, d1, _, d3, _⟩ := laid_reads' hL (n := "strconv.ErrRange") (d := Rows.laid_strconv_ErrRange) (by simp [Rows.topNamesRow])
  obtain rfl := Option.some.inj (g_kinds.symm.trans a1)
  obtain rfl := Option.some.inj (g_pow.symm.trans b1)
  obtain rfl := Option.some.inj (g_range.symm.trans d1)
  obtain rfl := Option.some.inj (t_kinds.symm.trans a2)
  obtain rfl := Option.some.inj (t_pow.symm.trans b2)
  obtain ⟨u0, r0, e0⟩ := heap_of_var a1 a3
  obtain ⟨u1, r1, e1⟩ := heap_of_var b1 b3
  obtain ⟨u5, r5, e5⟩ := heap_of_var d1 d3
  have h6 : 6 ≤ W.heap.size := (Array.getElem?_eq_some_iff.1 e5).1
  exact Rf.top_calls h6 e0 (kinds_cells a4) e1 (pow_cells b4) x hx0 hx1
set_option maxRecDepth 100000 in
theorem lifted (os : Os) (started : os.Started) (H : Type) (enc : TypeId × Value → H) :
    ReturnsInHanded {} Tryz.checked os 3 .any (fun w args => (Rows.topNamesSpec.pre enc Tryz.prog Tryz.f3 [] false w args ∧ laidMetH Tryz.prog Rows.topNamesRow.laid w) ∧ sizedMet enc Tryz.prog Tryz.f3 (OpenSpec.ofChange Rows.topNamesSpec) false w args)
      (Rows.topNamesSpec.post enc Tryz.prog Tryz.f3 false true false false) := by
  refine returnsInHanded_of_change_and (C := Tryz.checked) (X := fun w _ => laidMetH Tryz.prog Rows.topNamesRow.laid w) (fun _ _ _ hh h => h.of_heap hh) own started wit_inits Tryz.func3
    (ChangeSpec.witness_shaped (enc := enc) (C := Tryz.checked) (os := os) (X := fun w _ => laidMetH Tryz.prog Rows.topNamesRow.laid w) false (World.laidAll Tryz.prog os Rows.topNamesRow.laid) #[.int .u8 0] 8 (World.laidAll_os _ _ _)
      (World.shaped_of_ZipB (wit_zip os) (wit_rest os)) (wit_ok os) (wit_pre os H enc) (wit_sized os H enc)
      (by rw [MakeChecks.laidMetH_plain _ _ _ wit_plain]; exact laidMet_laidAll _ (wit_fits os) (wit_ifaces os))) ?_
  intro W base args ds gs before hval0 hW _ _ hL0 _
  have hval : ∀ (j : Nat) t v, Tryz.f3.params[j]? = some t → args[j]? = some v → Value.okWide Tryz.prog W .any base t v := hval0
  have hL : laidMet Tryz.prog Rows.topNamesRow.laid W := by rwa [MakeChecks.laidMetH_plain _ _ _ wit_plain] at hL0
  have hW' := hW
  obtain ⟨p, q, hA0, hV, rfl, _, _⟩ := hW
  have hA : DataW.TrodAll enc Tryz.prog W 0 (fun _ => true) true Tryz.f3.params.toList args.toList ds p := hA0
  rw [Tryz.params3] at hA hval
  obtain ⟨v0, d0, rfl, rfl, h0⟩ := trodAll_one hA
  obtain ⟨rfl, rfl⟩ := trodVars_none hV
  obtain ⟨x, rfl, rfl, rfl, wx⟩ := open_int Tryz.underlying5 (hval 0 5 v0 rfl rfl) h0
  have hx : 0 ≤ x ∧ x ≤ 255 := by simpa [Lit.wf, IntKind.min, IntKind.max, IntKind.signed, IntKind.bits] using wx
  simp only [List.append_nil] at hW'
  refine (law hL x hx.1 hx.2).mono fun e W' ⟨he, hos, hout, _, hheap⟩ => ?_
  subst he
  refine ⟨_, rfl, _, _, _, [], [], [], hW', trodAll_mk1 (shut_bool Tryz.underlying4 _), trodAll_mk1 (shut_int Tryz.underlying5 wx), rfl, ⟨hos, hout, fun i hi => ?_⟩, fun h => by cases h⟩
  rw [hheap i hi]
  split <;> simp_all
theorem row_holds : Rows.TopNamesSaid :=
  OpenClaim.holds_of_wide 3 Tryz.f3 rfl rfl rfl rfl rfl rfl rfl ⟨rfl, rfl, rfl, rfl, rfl⟩ rfl rfl rfl rfl rfl j_fn Tryz.func3 closed
    (of_decide_eq_true (by kernel_rfl)) (by unfold Func.isWrapper; first | (rw [if_pos (by decide +kernel)]; kernel_rfl) | (rw [if_neg (by decide +kernel)]; exact ⟨rfl, rfl⟩))
    (fun os started H enc _ => lifted os started H enc)
end TopRow
/-- The card: the row, its six listed variables tied to the program's text. -/
theorem topNames_holds : Rows.TopNamesCardSaid :=
  Claim7.holds_tied_plain_at .later [] [.data, .data, .data, .sentinel, .sentinel, .data] true (true, "ebf07aeb0e327b52d2403dd6512a7df12fd4725ff5c2bff6b0f03b8c6d6d0e51") true TopRow.row_holds (fun _ h => by cases h) (by kernel_rfl) (fun _ h => by cases h) topNames_row_tie rfl ⟨rfl, rfl⟩ (by kernel_rfl) rfl
    (fun f fn hf hfn => by
      obtain rfl : f = 3 := (Option.some.inj (TopRow.j_fn.symm.trans hf)).symm
      obtain rfl : fn = Tryz.f3 := (Option.some.inj (Tryz.func3.symm.trans hfn)).symm
      exact ⟨TopRow.j_looks, fun j t ht => by
        rw [Tryz.params3] at ht
        have hm : t ∈ [5] := by simpa using Array.mem_of_getElem? ht
        have hall : ([5].all fun u => !Tryz.prog.wantsStandIn u) = true := by kernel_rfl
        exact (show Tryz.prog.wantsStandIn t = false by simpa using List.all_eq_true.1 hall t hm)⟩)
    TopRow.j_goes
#print axioms topNames_holds
end Go.Proofs.YtpmehdggikjkfaaGreatDoor
