/- The law DerLengths walked: what it calls answers as it does, so it answers true. -/
import Derived.Test.YtpphoifjhhidfaaTh4
import Derived.Test.YtpphoifjhhidfaaShown
namespace Go.Proofs.Ytpphoifjhhidfaa.Der
set_option linter.unusedVariables false
set_option linter.unusedSimpArgs false
open Go.RowKit
open Go.Proofs.YtpphoifjhhidfaaW.PrintWords
open Go.Proofs.YtpphoifjhhidfaaW.PrintLast
open Go.Proofs.YtpphoifjhhidfaaW.PrintMore
abbrev zNodeL : Obj := .cells #[.int .i64 0, .int .i64 0, .string e0, .int .i64 0, .slice none 0 0] 24
abbrev madeL (m : Int) : Obj := .cells (madeCells #[.int .u8 0] m.toNat) 5
theorem R_blk3L {W : World} {base g : Nat} {x y z : Int} (h : W.heap[g]? = some (.cells #[.int .u8 x, .int .u8 y, .int .u8 z] 5 (0, 0))) (hb : base ≤ g) : Kd.R (Kd.int .u8) 5 W base (fun _ => True) (.slice (some ⟨g, 0, none⟩) 3 3) [x, y, z] := by
  refine ⟨fun _ _ => trivial, [.int .u8 x, .int .u8 y, .int .u8 z], ⟨rfl, .inr ⟨g, 3, _, rfl, hb, h, Nat.le_refl _, by decide, rfl, rfl⟩⟩, ?_⟩
  exact Kd.reps_scalar (enc := Value.int .u8) [x, y, z]
theorem R_blk2L {W : World} {base g : Nat} {x y : Int} (h : W.heap[g]? = some (.cells #[.int .u8 x, .int .u8 y] 5 (0, 0))) (hb : base ≤ g) : Kd.R (Kd.int .u8) 5 W base (fun _ => True) (.slice (some ⟨g, 0, none⟩) 2 2) [x, y] := by
  refine ⟨fun _ _ => trivial, [.int .u8 x, .int .u8 y], ⟨rfl, .inr ⟨g, 2, _, rfl, hb, h, Nat.le_refl _, by decide, rfl, rfl⟩⟩, ?_⟩
  exact Kd.reps_scalar (enc := Value.int .u8) [x, y]
set_option maxHeartbeats 8000000 in
set_option maxRecDepth 100000 in
theorem lengths_large (n m : Int) (hm : Int.tmod (Go.bits .and .i64 n 16777215) 70000 = m) (h0 : 0 ≤ m) (h1 : 65532 < m) (h2 : m < 70000) (S : ByteArray) (hS : S = strOfNums (List.replicate m.toNat 0)) (hbytes : bytesF ⟨2, 0, S, 0, []⟩ = some ([], 12)) (w : World) :
    Calls Try.prog 6 #[.int .i64 n] w fun e w' => e = .returned (.bool true) ∧ Below w.heap.size w w' := by
  have hu24 := Try.underlying24
  have hu27 := Try.underlying27
  have hmk := print_make_int (P := Try.prog) 27 5 (.int .u8 0) 1 Try.underlying27 info5 rfl (by decide) m h0 (by omega)
  replace hbytes := Aside0.mk hbytes
  replace hS := Aside0.mk hS
  go_enter Try.func6, Try.ntmps6
  go_wp2_with (first
    | (go_at_call 16; refine Calls.mono (bytes_of_f ⟨2, 0, S, 0, []⟩ none 0 [] 12 _ (Kd.C_nil _ _) (by simp) hbytes.out) ?_; rintro e w2 ⟨v, rfl, hR, hb⟩; obtain ⟨A1, c1, rfl, hle1, hC1⟩ := R_part hR; have HB2 := Aside0.mk (below_step (below_alloc (below_alloc HB1.out _) _) hb); clear hR hb hcv hmk)
    | (go_at_call 14; refine Calls.mono (shown_calls w) ?_; rintro e w1 ⟨rfl, hb⟩; have HB1 := Aside0.mk hb; have hcv := own_string (P := Try.prog) Try.underlying27 Try.underlying5 Try.underlying9 (own_made' w1 w1.heap.size 5 .u8 m.toNat (Nat.le_refl _) (by omega)); rw [← hS.out] at hcv; clear hb))
  go_ret
  exact ⟨rfl, HB2.out⟩
set_option maxHeartbeats 8000000 in
set_option maxRecDepth 100000 in
theorem lengths_256 (n m : Int) (hm : Int.tmod (Go.bits .and .i64 n 16777215) 70000 = m) (h0 : 0 ≤ m) (h1 : ¬ 65532 < m) (h256 : 256 ≤ m) (S : ByteArray) (hS : S = strOfNums (List.replicate m.toNat 0)) (b : List Int) (hbytes : bytesF ⟨2, 0, S, 0, []⟩ = some (b, 0)) (hof1 : ofF b = some (2, 0, S, 0, [], 0)) (hsame : sameF ⟨2, 0, S, 0, []⟩ ⟨2, 0, S, 0, []⟩ = some true) (hlen : (b.length : Int) = m + 4) (w : World) :
    Calls Try.prog 6 #[.int .i64 n] w fun e w' => e = .returned (.bool true) ∧ Below w.heap.size w w' := by
  have hu24 := Try.underlying24
  have hu27 := Try.underlying27
  have hmk := print_make_int (P := Try.prog) 27 5 (.int .u8 0) 1 Try.underlying27 info5 rfl (by decide) m h0 (by omega)
  replace hbytes := Aside0.mk hbytes
  replace hof1 := Aside0.mk hof1
  replace hS := Aside0.mk hS
  replace hsame := Aside0.mk hsame
  go_enter Try.func6, Try.ntmps6
  have e3 : wrap64 (m + 4) = m + 4 := by unfold wrap64; omega
  have g128 : 128 ≤ m := by omega
  go_wp2_with (first
    | (go_at_call 21; refine Calls.mono (same_of_f ⟨2, 0, S, 0, []⟩ ⟨2, 0, S, 0, []⟩ none A4 0 c4 true _ (Kd.C_nil _ _) (by simp) ⟨rfl, by simp, fun h => absurd h (by simp)⟩ (by simp) hsame.out) ?_; rintro e w5 ⟨rfl, hb⟩; have HB5 := Aside0.mk (below_step (below_alloc HB3.out _) hb); clear hb)
    | (go_at_call 22; refine Calls.mono (of_of_f A1 c1 b 2 0 S 0 [] 0 w2 hC1.out hle1.out hof1.out) ?_; rintro e w3 ⟨v4, rfl, hv, hb⟩; obtain ⟨A4, c4, e4⟩ := Kd.R_slice hv; subst e4; have HB3 := Aside0.mk (below_step HB2.out hb); have BK3 := Aside0.mk (blk_below BK2.out hb); have hC3 := Aside0.mk (Kd.C_below hC1.out hb); have z0 := fun o => (blk_cell (blk_alloc BK3.out o) 0).trans rfl; have z1 := fun o => (blk_cell (blk_alloc BK3.out o) 1).trans rfl; have z2 := fun o => (blk_cell (blk_alloc BK3.out o) 2).trans rfl; have z3 := fun o => (blk_cell (blk_alloc BK3.out o) 3).trans rfl; have z4 := fun o => (blk_cell (blk_alloc BK3.out o) 4).trans rfl; clear hb hv)
    | (go_at_call 16; refine Calls.mono (bytes_of_f ⟨2, 0, S, 0, []⟩ none 0 b 0 _ (Kd.C_nil _ _) (by simp) hbytes.out) ?_; rintro e w2 ⟨v, rfl, hR, hb⟩; obtain ⟨A1, c1, rfl, hle1, hC1⟩ := R_part hR; have HB2 := Aside0.mk (below_step (below_alloc (below_alloc HB1.out _) _) hb); have BK2 := Aside0.mk (blk_below (blk_new2 w1 (madeL m) (.cells #[.int .i64 2, .int .i64 0, .string S, .int .i64 0, .slice none 0 0] 24)) hb); replace hC1 := Aside0.mk hC1; replace hle1 := Aside0.mk hle1; clear hR hb hcv hmk)
    | (go_at_call 14; refine Calls.mono (shown_calls w) ?_; rintro e w1 ⟨rfl, hb⟩; have HB1 := Aside0.mk hb; have hcv := own_string (P := Try.prog) Try.underlying27 Try.underlying5 Try.underlying9 (own_made' w1 w1.heap.size 5 .u8 m.toNat (Nat.le_refl _) (by omega)); rw [← hS.out] at hcv; clear hb))
  go_ret
  exact ⟨rfl, HB5.out⟩
set_option maxHeartbeats 8000000 in
set_option maxRecDepth 100000 in
theorem lengths_128 (n m : Int) (hm : Int.tmod (Go.bits .and .i64 n 16777215) 70000 = m) (h0 : 0 ≤ m) (h1 : ¬ 65532 < m) (h128 : 128 ≤ m) (h256 : ¬ 256 ≤ m) (S : ByteArray) (hS : S = strOfNums (List.replicate m.toNat 0)) (b : List Int) (hbytes : bytesF ⟨2, 0, S, 0, []⟩ = some (b, 0)) (hof1 : ofF b = some (2, 0, S, 0, [], 0)) (hsame : sameF ⟨2, 0, S, 0, []⟩ ⟨2, 0, S, 0, []⟩ = some true) (hlen : (b.length : Int) = m + 3) (w : World) :
    Calls Try.prog 6 #[.int .i64 n] w fun e w' => e = .returned (.bool true) ∧ Below w.heap.size w w' := by
  have hu24 := Try.underlying24
  have hu27 := Try.underlying27
  have hmk := print_make_int (P := Try.prog) 27 5 (.int .u8 0) 1 Try.underlying27 info5 rfl (by decide) m h0 (by omega)
  replace hbytes := Aside0.mk hbytes
  replace hof1 := Aside0.mk hof1
  replace hS := Aside0.mk hS
  replace hsame := Aside0.mk hsame
  go_enter Try.func6, Try.ntmps6
  have e3 : wrap64 (m + 3) = m + 3 := by unfold wrap64; omega
  have g128 : 128 ≤ m := by omega
  go_wp2_with (first
    | (go_at_call 21; refine Calls.mono (same_of_f ⟨2, 0, S, 0, []⟩ ⟨2, 0, S, 0, []⟩ none A4 0 c4 true _ (Kd.C_nil _ _) (by simp) ⟨rfl, by simp, fun h => absurd h (by simp)⟩ (by simp) hsame.out) ?_; rintro e w5 ⟨rfl, hb⟩; have HB5 := Aside0.mk (below_step (below_alloc HB3.out _) hb); clear hb)
    | (go_at_call 22; refine Calls.mono (of_of_f A1 c1 b 2 0 S 0 [] 0 w2 hC1.out hle1.out hof1.out) ?_; rintro e w3 ⟨v4, rfl, hv, hb⟩; obtain ⟨A4, c4, e4⟩ := Kd.R_slice hv; subst e4; have HB3 := Aside0.mk (below_step HB2.out hb); have BK3 := Aside0.mk (blk_below BK2.out hb); have hC3 := Aside0.mk (Kd.C_below hC1.out hb); have z0 := fun o => (blk_cell (blk_alloc BK3.out o) 0).trans rfl; have z1 := fun o => (blk_cell (blk_alloc BK3.out o) 1).trans rfl; have z2 := fun o => (blk_cell (blk_alloc BK3.out o) 2).trans rfl; have z3 := fun o => (blk_cell (blk_alloc BK3.out o) 3).trans rfl; have z4 := fun o => (blk_cell (blk_alloc BK3.out o) 4).trans rfl; clear hb hv)
    | (go_at_call 16; refine Calls.mono (bytes_of_f ⟨2, 0, S, 0, []⟩ none 0 b 0 _ (Kd.C_nil _ _) (by simp) hbytes.out) ?_; rintro e w2 ⟨v, rfl, hR, hb⟩; obtain ⟨A1, c1, rfl, hle1, hC1⟩ := R_part hR; have HB2 := Aside0.mk (below_step (below_alloc (below_alloc HB1.out _) _) hb); have BK2 := Aside0.mk (blk_below (blk_new2 w1 (madeL m) (.cells #[.int .i64 2, .int .i64 0, .string S, .int .i64 0, .slice none 0 0] 24)) hb); replace hC1 := Aside0.mk hC1; replace hle1 := Aside0.mk hle1; clear hR hb hcv hmk)
    | (go_at_call 14; refine Calls.mono (shown_calls w) ?_; rintro e w1 ⟨rfl, hb⟩; have HB1 := Aside0.mk hb; have hcv := own_string (P := Try.prog) Try.underlying27 Try.underlying5 Try.underlying9 (own_made' w1 w1.heap.size 5 .u8 m.toNat (Nat.le_refl _) (by omega)); rw [← hS.out] at hcv; clear hb))
  go_ret
  exact ⟨rfl, HB5.out⟩
set_option maxHeartbeats 8000000 in
set_option maxRecDepth 100000 in
theorem lengths_short (n m : Int) (hm : Int.tmod (Go.bits .and .i64 n 16777215) 70000 = m) (h0 : 0 ≤ m) (h1 : ¬ 65532 < m) (h128 : ¬ 128 ≤ m) (S : ByteArray) (hS : S = strOfNums (List.replicate m.toNat 0)) (b : List Int) (hbytes : bytesF ⟨2, 0, S, 0, []⟩ = some (b, 0)) (hof1 : ofF b = some (2, 0, S, 0, [], 0)) (hsame : sameF ⟨2, 0, S, 0, []⟩ ⟨2, 0, S, 0, []⟩ = some true) (hlen : (b.length : Int) = m + 2) (b2 b3 d5 : List Int) (hd5 : b.drop 2 = d5) (hb2 : b2 = [4, 129, m] ++ d5) (hb3 : b3 = [4, 128] ++ d5) (hof2 : ofF b2 = some (0, 0, e0, 0, [], 2)) (hof3 : ofF b3 = some (0, 0, e0, 0, [], 2)) (w : World) :
    Calls Try.prog 6 #[.int .i64 n] w fun e w' => e = .returned (.bool true) ∧ Below w.heap.size w w' := by
  have hu24 := Try.underlying24
  have hu27 := Try.underlying27
  have hmk := print_make_int (P := Try.prog) 27 5 (.int .u8 0) 1 Try.underlying27 info5 rfl (by decide) m h0 (by omega)
  replace hbytes := Aside0.mk hbytes
  replace hof1 := Aside0.mk hof1
  replace hS := Aside0.mk hS
  replace hsame := Aside0.mk hsame
  go_enter Try.func6, Try.ntmps6
  have e3 : wrap64 (m + 2) = m + 2 := by unfold wrap64; omega
  have g256 : ¬ 256 ≤ m := by omega
  have g127 : m < 128 := by omega
  have g255 : m % 256 = m := by omega
  have gu8 : IntKind.u8.wrap m = m := by rw [IntKind.wrap_u8]; omega
  have hdl : d5.length ≤ 127 := by rw [← hd5, List.length_drop]; omega
  replace hb2 := Aside0.mk hb2
  replace hb3 := Aside0.mk hb3
  replace hof2 := Aside0.mk hof2
  replace hof3 := Aside0.mk hof3
  go_wp2_with (first
    | (go_at_call 22; refine Calls.mono (of_of_f A8 c8 b3 0 0 e0 0 [] 2 w8 hC8.out hle8.out hof3.out) ?_; rintro e w9 ⟨v9, rfl, hv, hb⟩; obtain ⟨A9, c9, e9⟩ := Kd.R_slice hv; subst e9; have HB9 := Aside0.mk (below_step HB7.out (below_step HB8.out hb)); clear hb hv hC8 hle8 HB8)
    | ((with_reducible refine gate_builtin (b := .append) (xs := #[.tmp 81, .tmp 83]) rfl ?_); (try (refine gate_guard (by rfl) ?_; dsimp only)); at_builtin; have HA := HB7; refine Kd.R_append_row (Value.int .u8) (0 : Int) (w0 := w7) w7.heap.size rfl (.tmp 81) (.tmp 83) 27 5 (.int .u8 0) 1 rfl Try.underlying27 info5 rfl (by omega) _ [4, 128] d5 A5 d5.length (c1 - 2) (fun _ => True) rfl rfl (fun _ _ => trivial) (R_blk2L (blk_new2 w7 _ _) (by omega)) (Kd.C_below hC7.out (below_alloc (below_alloc (Below.refl _ _) _) _)) (below_alloc (below_alloc (Below.refl _ _) _) _) (by simp only [World.size_alloc]; omega) (by simp; omega) ?_; intro v8 w8 ho hb1 hg hat; rw [← hb3.out] at ho; obtain ⟨A8, c8, e8, hle8, hC8⟩ := R_part ho; subst e8; have HB8 := Aside0.mk hb1; replace hle8 := Aside0.mk hle8; replace hC8 := Aside0.mk hC8; clear ho hb1 hg hat)
    | (go_at_call 22; refine Calls.mono (of_of_f A6 c6 b2 0 0 e0 0 [] 2 w6 hC6.out hle6.out hof2.out) ?_; rintro e w7 ⟨v6, rfl, hv, hb⟩; obtain ⟨A7, c7, e7⟩ := Kd.R_slice hv; subst e7; have HB7 := Aside0.mk (below_step HB5.out (below_step HB6.out hb)); have hC7 := Aside0.mk (Kd.C_below (Kd.C_below hC5.out HB6.out) hb); clear hb hv hC6 hle6 HB6)
    | ((with_reducible refine gate_builtin (b := .append) (xs := #[.tmp 73, .tmp 75]) rfl ?_); (try (refine gate_guard (by rfl) ?_; dsimp only)); at_builtin; refine Kd.R_append_row (Value.int .u8) (0 : Int) (w0 := w5) w5.heap.size rfl (.tmp 73) (.tmp 75) 27 5 (.int .u8 0) 1 rfl Try.underlying27 info5 rfl (by omega) _ [4, 129, m] d5 A5 d5.length (c1 - 2) (fun _ => True) rfl rfl (fun _ _ => trivial) (R_blk3L (blk_new w5 _) (Nat.le_refl _)) (Kd.C_below hC5.out (below_alloc (Below.refl _ _) _)) (below_alloc (Below.refl _ _) _) (by simp) (by simp; omega) ?_; intro v1 w6 ho hb1 hg hat; rw [← hb2.out] at ho; obtain ⟨A6, c6, e6, hle6, hC6⟩ := R_part ho; subst e6; have HB6 := Aside0.mk hb1; replace hle6 := Aside0.mk hle6; replace hC6 := Aside0.mk hC6; clear ho hb1 hg hat)
    | (go_at_call 21; refine Calls.mono (same_of_f ⟨2, 0, S, 0, []⟩ ⟨2, 0, S, 0, []⟩ none A4 0 c4 true _ (Kd.C_nil _ _) (by simp) ⟨rfl, by simp, fun h => absurd h (by simp)⟩ (by simp) hsame.out) ?_; rintro e w5 ⟨rfl, hb⟩; have HB5 := Aside0.mk (below_step (below_alloc HB3.out _) hb); have hC5z := Kd.C_below (Kd.C_below hC3.out (below_alloc (Below.refl _ _) _)) hb; obtain ⟨A5, hto5, hfrom5, hC5a, hC5, hl5a, hl5⟩ := cuts hC5z hle1.out 2 (by omega) (by omega); clear hto5 hC5a hl5a hC5z; simp only [show (2 : Int).toNat = 2 from rfl] at hfrom5 hC5 hl5; rw [hd5] at hfrom5 hC5 hl5; replace hC5 := Aside0.mk hC5; replace hl5 := Aside0.mk hl5; clear hb)
    | (go_at_call 22; refine Calls.mono (of_of_f A1 c1 b 2 0 S 0 [] 0 w2 hC1.out hle1.out hof1.out) ?_; rintro e w3 ⟨v4, rfl, hv, hb⟩; obtain ⟨A4, c4, e4⟩ := Kd.R_slice hv; subst e4; have HB3 := Aside0.mk (below_step HB2.out hb); have BK3 := Aside0.mk (blk_below BK2.out hb); have hC3 := Aside0.mk (Kd.C_below hC1.out hb); have z0 := fun o => (blk_cell (blk_alloc BK3.out o) 0).trans rfl; have z1 := fun o => (blk_cell (blk_alloc BK3.out o) 1).trans rfl; have z2 := fun o => (blk_cell (blk_alloc BK3.out o) 2).trans rfl; have z3 := fun o => (blk_cell (blk_alloc BK3.out o) 3).trans rfl; have z4 := fun o => (blk_cell (blk_alloc BK3.out o) 4).trans rfl; clear hb hv)
    | (go_at_call 16; refine Calls.mono (bytes_of_f ⟨2, 0, S, 0, []⟩ none 0 b 0 _ (Kd.C_nil _ _) (by simp) hbytes.out) ?_; rintro e w2 ⟨v, rfl, hR, hb⟩; obtain ⟨A1, c1, rfl, hle1, hC1⟩ := R_part hR; have HB2 := Aside0.mk (below_step (below_alloc (below_alloc HB1.out _) _) hb); have BK2 := Aside0.mk (blk_below (blk_new2 w1 (madeL m) (.cells #[.int .i64 2, .int .i64 0, .string S, .int .i64 0, .slice none 0 0] 24)) hb); replace hC1 := Aside0.mk hC1; replace hle1 := Aside0.mk hle1; clear hR hb hcv hmk)
    | (go_at_call 14; refine Calls.mono (shown_calls w) ?_; rintro e w1 ⟨rfl, hb⟩; have HB1 := Aside0.mk hb; have hcv := own_string (P := Try.prog) Try.underlying27 Try.underlying5 Try.underlying9 (own_made' w1 w1.heap.size 5 .u8 m.toNat (Nat.le_refl _) (by omega)); rw [← hS.out] at hcv; clear hb))
  go_ret
  exact ⟨rfl, below_alloc HB9.out _⟩
end Go.Proofs.Ytpphoifjhhidfaa.Der
