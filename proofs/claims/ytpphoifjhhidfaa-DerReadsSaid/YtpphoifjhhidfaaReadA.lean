/- der.read, bytes, texts, truths, what is no kind. -/
import Derived.Test.YtpphoifjhhidfaaRead
namespace Go.Proofs.Ytpphoifjhhidfaa.Der
set_option linter.unusedVariables false
set_option linter.unusedSimpArgs false
open Go.RowKit
open Go.Proofs.YtpphoifjhhidfaaW.PrintWords
open Go.Proofs.YtpphoifjhhidfaaW.PrintLast
open Go.Proofs.YtpphoifjhhidfaaW.PrintMore
open Go.Proofs.Ytpphoifjhhidfaa.Gread (der_length.f der_length.calls bytes_Equal.f bytes_Equal.calls der_number.f der_number.calls slices_Index_byte_byte.f slices_Index_byte_byte.calls)
set_option maxHeartbeats 8000000 in
set_option maxRecDepth 100000 in
theorem read_else (L : Nat) (hL : 0 < L) (hL2 : L < 1000000) (b cc rest : List Int) (hq : cutO b = some (some (cc, rest))) (hb : ∀ x ∈ b, 0 ≤ x ∧ x ≤ 255) (hbl : b.length ≤ 70368744177664) (x : Int) (hx0 : b.getD 0 0 = x) (i : Int) (h0 : i = 0 ∨ i = -1) (h1 : x < 160 ∨ 190 < x) (hidx : Aside0 (slices_Index_byte_byte.f 20 [0, 2, 4, 12, 1, 48, 160] x = some i)) (A : Option Addr) (c : Nat) (w0 w : World) (hk : Kd.C (Kd.int .u8) w0 A b.length b) (hc : b.length ≤ c) (hB0 : Below w0.heap.size w0 w) :
    Calls Try.prog 31 #[.slice A b.length c, .int .i64 (L : Int)] w (ReadR w0 w none) := by
  have hu24 := Try.underlying24
  have hu61 := Try.underlying61
  obtain ⟨h2, hcb, hrb, hcl, hrl⟩ := cutO_sub hq
  dsimp only at hcb hrb hcl hrl
  replace hcb : Aside0 (∀ y ∈ cc, 0 ≤ y ∧ y ≤ 255) := Aside0.mk (fun y hy => hb y (hcb y hy))
  replace hrb : Aside0 (∀ y ∈ rest, 0 ≤ y ∧ y ≤ 255) := Aside0.mk (fun y hy => hb y (hrb y hy))
  replace hcl : Aside0 (cc.length ≤ 70368744177664) := Aside0.mk (by omega)
  replace hrl : Aside0 (rest.length ≤ 70368744177664) := Aside0.mk (by omega)
  obtain ⟨ad, e1, hx⟩ := Kd.at_int hk 0 (by omega) (by omega)
  subst e1
  have hpos : (0 : Int) < (b.length : Int) := by omega
  have e2 : rd b 0 = b.getD 0 0 := rfl
  rw [e2, hx0] at hx
  clear e2
  simp only [show (0 : Int).toNat = 0 from rfl] at hx
  replace hx : w0.cell? ad = some (.int .u8 x) := by simpa [Addr.add] using hx
  have hxW : Aside0 (∀ W, Below w.heap.size w W → W.cell? ad = some (.int .u8 x)) := Aside0.mk (fun W hW => ((below_step hB0 hW).cell (World.block_lt_of_cell? w0 _ hx)).trans hx)
  clear hx h2
  have hL1 : ((L : Int) == 0) = false := by simp; omega
  replace hk := Aside0.mk hk
  replace hb := Aside0.mk hb
  replace hbl := Aside0.mk hbl
  replace hc := Aside0.mk hc
  replace hB0 := Aside0.mk hB0
  replace hq := Aside0.mk hq
  replace hL := Aside0.mk hL
  replace hL2 := Aside0.mk hL2
  go_enter Try.func31, Try.ntmps31
  go_wp2_with (first
    | (go_at_call 35; refine Calls.mono (idents_calls w1) ?_; rintro e w2 ⟨rfl, hb2⟩; have BK2 := Aside0.mk (blk_below BK.out hb2); have HB2 := Aside0.mk (below_step HB.out hb2); clear hb2)
    | (go_at_call 43; refine Calls.mono (cut_calls b hb.out hbl.out (some (cc, rest)) hq.out (some ad) c w0 (w.alloc _) hk.out hc.out (below_alloc hB0.out _)) ?_; rintro e w1 ⟨⟨A1, c1, A2, c2, rfl, hc1, hc2, hk1, hk2⟩, hb2⟩; have BK := Aside0.mk (blk_below (blk_new w _) hb2); have HB := Aside0.mk (below_step (below_alloc (Below.refl _ _) _) hb2); clear hb2; replace hk1 := Aside0.mk hk1; replace hk2 := Aside0.mk hk2; replace hc1 := Aside0.mk hc1; replace hc2 := Aside0.mk hc2))
  clear BK HB
  have BKl := blk_new w2 (.cells #[.int .u8 0, .int .u8 2, .int .u8 4, .int .u8 12, .int .u8 1, .int .u8 48, .int .u8 160] 61)
  have BK := Aside0.mk (blk_alloc BK2.out (.cells #[.int .u8 0, .int .u8 2, .int .u8 4, .int .u8 12, .int .u8 1, .int .u8 48, .int .u8 160] 61))
  have HB := Aside0.mk (below_alloc HB2.out (.cells #[.int .u8 0, .int .u8 2, .int .u8 4, .int .u8 12, .int .u8 1, .int .u8 48, .int .u8 160] 61))
  have hCl : Aside0 (∀ W, Below (w2.heap.size + 1) (w2.alloc (.cells #[.int .u8 0, .int .u8 2, .int .u8 4, .int .u8 12, .int .u8 1, .int .u8 48, .int .u8 160] 61)) W → Kd.C (Kd.int .u8) W (some ⟨w2.heap.size, 0, none⟩) 7 [0, 2, 4, 12, 1, 48, 160]) := Aside0.mk (fun W hW => C_seven ((hW.block _ (by omega)).trans BKl))
  clear BK2 HB2
  generalize hW3 : w2.alloc (.cells #[.int .u8 0, .int .u8 2, .int .u8 4, .int .u8 12, .int .u8 1, .int .u8 48, .int .u8 160] 61) = W3 at *
  have hpos2 : 0 < b.length := by omega
  go_region_held3 (fun w' => w'.cell? ad = some (.int .u8 x))
    (first
      | exact hxW.out _ (below_drew1 HB.out)
      | exact hxW.out _ HB4.out
      | exact hxW.out _ (below_set HB4.out (Nat.le_refl _))
      | assumption)
    ((go_at_call 44; refine Calls.mono (slices_Index_byte_byte.calls 20 _ 7 [0, 2, 4, 12, 1, 48, 160] x i W3.drew ?g1 ?g2 hidx.out) ?_; (case g1 => exact hCl.out _ (below_drew1 (Below.refl _ _))); (case g2 => decide); rintro e w4 ⟨rfl, hd⟩; have HB4 := Aside0.mk (below_step (below_drew1 HB.out) hd.below); have BK4 := Aside0.mk (blk_below (blk_drew BK.out) hd.below); have z0 := (blk_cell BK4.out 0).trans rfl; have y0 := blk_frozen BK4.out 0; clear hd))
  simp only [Exit.then]
  have BK : Aside0 ((w4.setCell ⟨w.heap.size, 0, none⟩ (.int .i64 i)).heap[w.heap.size]? = some (.cells #[.int .i64 i, .int .i64 0, .string e0, .int .i64 0, .slice none 0 0] 24 (0, 0))) := Aside0.mk (blk_put BK4.out 0 (.int .i64 i) rfl)
  have HB := Aside0.mk (below_set (j := 0) (v := .int .i64 i) HB4.out (Nat.le_refl _))
  clear z0 y0 BK4 HB4
  generalize w4.setCell ⟨w.heap.size, 0, none⟩ (.int .i64 i) = W5 at *
  have hx5 := hxW.out _ HB.out
  have z0 : W5.cell? ⟨w.heap.size, 0, none⟩ = some (.int .i64 i) := (blk_cell BK.out 0).trans rfl
  have z1 : W5.cell? ⟨w.heap.size, 1, none⟩ = some (.int .i64 0) := (blk_cell BK.out 1).trans rfl
  have z2 : W5.cell? ⟨w.heap.size, 2, none⟩ = some (.string e0) := (blk_cell BK.out 2).trans rfl
  have z3 : W5.cell? ⟨w.heap.size, 3, none⟩ = some (.int .i64 0) := (blk_cell BK.out 3).trans rfl
  have z4 : W5.cell? ⟨w.heap.size, 4, none⟩ = some (.slice none 0 0) := (blk_cell BK.out 4).trans rfl
  have y0 := blk_frozen BK.out 0
  have y1 := blk_frozen BK.out 1
  have y2 := blk_frozen BK.out 2
  have y3 := blk_frozen BK.out 3
  have y4 := blk_frozen BK.out 4
  rcases h1 with h1 | h1
  · have d1 : decide (160 ≤ x) = false := by simp; omega
    rcases h0 with rfl | rfl
    all_goals (
      go_wp2
      refine leaf BK.out _ _ _ _ _ _ rfl ?_
      exact ⟨⟨_, _, _, _, _, _, _, rfl⟩, sets5_below HB.out (Nat.le_refl _) _ _ _ _ _⟩)
  · have d1 : decide (160 ≤ x) = true := by simp; omega
    have d2 : decide (x ≤ 190) = false := by simp; omega
    rcases h0 with rfl | rfl
    all_goals (
      go_wp2
      refine leaf BK.out _ _ _ _ _ _ rfl ?_
      exact ⟨⟨_, _, _, _, _, _, _, rfl⟩, sets5_below HB.out (Nat.le_refl _) _ _ _ _ _⟩)
set_option maxHeartbeats 8000000 in
set_option maxRecDepth 100000 in
theorem read_bytes (L : Nat) (hL : 0 < L) (hL2 : L < 1000000) (b cc rest : List Int) (hq : cutO b = some (some (cc, rest))) (hb : ∀ x ∈ b, 0 ≤ x ∧ x ≤ 255) (hbl : b.length ≤ 70368744177664) (hx0 : b.getD 0 0 = 4) (A : Option Addr) (c : Nat) (w0 w : World) (hk : Kd.C (Kd.int .u8) w0 A b.length b) (hc : b.length ≤ c) (hB0 : Below w0.heap.size w0 w) :
    Calls Try.prog 31 #[.slice A b.length c, .int .i64 (L : Int)] w (ReadR w0 w (some (⟨2, 0, strOfNums cc, 0, []⟩, rest))) := by
  have hu24 := Try.underlying24
  have hu61 := Try.underlying61
  obtain ⟨h2, hcb, hrb, hcl, hrl⟩ := cutO_sub hq
  dsimp only at hcb hrb hcl hrl
  replace hcb : Aside0 (∀ y ∈ cc, 0 ≤ y ∧ y ≤ 255) := Aside0.mk (fun y hy => hb y (hcb y hy))
  replace hrb : Aside0 (∀ y ∈ rest, 0 ≤ y ∧ y ≤ 255) := Aside0.mk (fun y hy => hb y (hrb y hy))
  replace hcl : Aside0 (cc.length ≤ 70368744177664) := Aside0.mk (by omega)
  replace hrl : Aside0 (rest.length ≤ 70368744177664) := Aside0.mk (by omega)
  obtain ⟨ad, e1, hx⟩ := Kd.at_int hk 0 (by omega) (by omega)
  subst e1
  have hpos : (0 : Int) < (b.length : Int) := by omega
  have e2 : rd b 0 = b.getD 0 0 := rfl
  rw [e2, hx0] at hx
  clear e2
  simp only [show (0 : Int).toNat = 0 from rfl] at hx
  replace hx : w0.cell? ad = some (.int .u8 4) := by simpa [Addr.add] using hx
  have hxW : Aside0 (∀ W, Below w.heap.size w W → W.cell? ad = some (.int .u8 4)) := Aside0.mk (fun W hW => ((below_step hB0 hW).cell (World.block_lt_of_cell? w0 _ hx)).trans hx)
  clear hx h2
  have hL1 : ((L : Int) == 0) = false := by simp; omega
  have hidx := Aside0.mk (show slices_Index_byte_byte.f 20 [0, 2, 4, 12, 1, 48, 160] 4 = some 2 from idx_eq 4)
  replace hk := Aside0.mk hk
  replace hb := Aside0.mk hb
  replace hbl := Aside0.mk hbl
  replace hc := Aside0.mk hc
  replace hB0 := Aside0.mk hB0
  replace hq := Aside0.mk hq
  replace hL := Aside0.mk hL
  replace hL2 := Aside0.mk hL2
  go_enter Try.func31, Try.ntmps31
  go_wp2_with (first
    | (go_at_call 35; refine Calls.mono (idents_calls w1) ?_; rintro e w2 ⟨rfl, hb2⟩; have BK2 := Aside0.mk (blk_below BK.out hb2); have HB2 := Aside0.mk (below_step HB.out hb2); clear hb2)
    | (go_at_call 43; refine Calls.mono (cut_calls b hb.out hbl.out (some (cc, rest)) hq.out (some ad) c w0 (w.alloc _) hk.out hc.out (below_alloc hB0.out _)) ?_; rintro e w1 ⟨⟨A1, c1, A2, c2, rfl, hc1, hc2, hk1, hk2⟩, hb2⟩; have BK := Aside0.mk (blk_below (blk_new w _) hb2); have HB := Aside0.mk (below_step (below_alloc (Below.refl _ _) _) hb2); clear hb2; replace hk1 := Aside0.mk hk1; replace hk2 := Aside0.mk hk2; replace hc1 := Aside0.mk hc1; replace hc2 := Aside0.mk hc2))
  clear BK HB
  have BKl := blk_new w2 (.cells #[.int .u8 0, .int .u8 2, .int .u8 4, .int .u8 12, .int .u8 1, .int .u8 48, .int .u8 160] 61)
  have BK := Aside0.mk (blk_alloc BK2.out (.cells #[.int .u8 0, .int .u8 2, .int .u8 4, .int .u8 12, .int .u8 1, .int .u8 48, .int .u8 160] 61))
  have HB := Aside0.mk (below_alloc HB2.out (.cells #[.int .u8 0, .int .u8 2, .int .u8 4, .int .u8 12, .int .u8 1, .int .u8 48, .int .u8 160] 61))
  have hCl : Aside0 (∀ W, Below (w2.heap.size + 1) (w2.alloc (.cells #[.int .u8 0, .int .u8 2, .int .u8 4, .int .u8 12, .int .u8 1, .int .u8 48, .int .u8 160] 61)) W → Kd.C (Kd.int .u8) W (some ⟨w2.heap.size, 0, none⟩) 7 [0, 2, 4, 12, 1, 48, 160]) := Aside0.mk (fun W hW => C_seven ((hW.block _ (by omega)).trans BKl))
  clear BK2 HB2
  generalize hW3 : w2.alloc (.cells #[.int .u8 0, .int .u8 2, .int .u8 4, .int .u8 12, .int .u8 1, .int .u8 48, .int .u8 160] 61) = W3 at *
  have hpos2 : 0 < b.length := by omega
  go_region_held3 (fun w' => w'.cell? ad = some (.int .u8 4))
    (first
      | exact hxW.out _ (below_drew1 HB.out)
      | exact hxW.out _ HB4.out
      | exact hxW.out _ (below_set HB4.out (Nat.le_refl _))
      | assumption)
    ((go_at_call 44; refine Calls.mono (slices_Index_byte_byte.calls 20 _ 7 [0, 2, 4, 12, 1, 48, 160] 4 2 W3.drew ?g1 ?g2 hidx.out) ?_; (case g1 => exact hCl.out _ (below_drew1 (Below.refl _ _))); (case g2 => decide); rintro e w4 ⟨rfl, hd⟩; have HB4 := Aside0.mk (below_step (below_drew1 HB.out) hd.below); have BK4 := Aside0.mk (blk_below (blk_drew BK.out) hd.below); have z0 := (blk_cell BK4.out 0).trans rfl; have y0 := blk_frozen BK4.out 0; clear hd))
  simp only [Exit.then]
  have BK : Aside0 ((w4.setCell ⟨w.heap.size, 0, none⟩ (.int .i64 2)).heap[w.heap.size]? = some (.cells #[.int .i64 2, .int .i64 0, .string e0, .int .i64 0, .slice none 0 0] 24 (0, 0))) := Aside0.mk (blk_put BK4.out 0 (.int .i64 2) rfl)
  have HB := Aside0.mk (below_set (j := 0) (v := .int .i64 2) HB4.out (Nat.le_refl _))
  clear z0 y0 BK4 HB4
  generalize w4.setCell ⟨w.heap.size, 0, none⟩ (.int .i64 2) = W5 at *
  have hx5 := hxW.out _ HB.out
  have z0 : W5.cell? ⟨w.heap.size, 0, none⟩ = some (.int .i64 2) := (blk_cell BK.out 0).trans rfl
  have z1 : W5.cell? ⟨w.heap.size, 1, none⟩ = some (.int .i64 0) := (blk_cell BK.out 1).trans rfl
  have z2 : W5.cell? ⟨w.heap.size, 2, none⟩ = some (.string e0) := (blk_cell BK.out 2).trans rfl
  have z3 : W5.cell? ⟨w.heap.size, 3, none⟩ = some (.int .i64 0) := (blk_cell BK.out 3).trans rfl
  have z4 : W5.cell? ⟨w.heap.size, 4, none⟩ = some (.slice none 0 0) := (blk_cell BK.out 4).trans rfl
  have y0 := blk_frozen BK.out 0
  have y1 := blk_frozen BK.out 1
  have y2 := blk_frozen BK.out 2
  have y3 := blk_frozen BK.out 3
  have y4 := blk_frozen BK.out 4
  have hCW := Kd.C_below hk1.out (below_step hB0.out HB.out)
  have hstr := string_of_reads (P := Try.prog) Try.underlying27 Try.underlying5 Try.underlying9 (c := c1) (readsInt_of.2 (Kd.reads_of_C (d := (0 : Int)) hCW))
  have hssz : (strOfNums cc).size < 9223372036854775807 := by rw [strOfNums_size]; have := hcl.out; omega
  generalize strOfNums cc = sv at *
  clear hCW
  have BKX : Aside0 ((W5.setCell ⟨w.heap.size, 2, none⟩ (.string sv)).heap[w.heap.size]? = some (.cells #[.int .i64 2, .int .i64 0, .string sv, .int .i64 0, .slice none 0 0] 24 (0, 0))) := Aside0.mk (blk_put BK.out 2 (.string sv) rfl)
  have HBX := Aside0.mk (below_set (j := 2) (v := .string sv) HB.out (Nat.le_refl _))
  go_wp2
  refine leaf BKX.out _ _ _ _ _ _ rfl ?_
  exact ⟨⟨⟨_, A2, c2, rfl, Kd.R_nil _ _ _ _ _, hc2.out, hk2.out⟩, hrb.out, hrl.out⟩, sets5_below HBX.out (Nat.le_refl _) _ _ _ _ _⟩
set_option maxHeartbeats 8000000 in
set_option maxRecDepth 100000 in
theorem read_text (L : Nat) (hL : 0 < L) (hL2 : L < 1000000) (b cc rest : List Int) (hq : cutO b = some (some (cc, rest))) (hb : ∀ x ∈ b, 0 ≤ x ∧ x ≤ 255) (hbl : b.length ≤ 70368744177664) (hx0 : b.getD 0 0 = 12) (r : Option (S24 × List Int)) (hr : Aside0 ((if plainS (strOfNums cc) then some (⟨3, 0, strOfNums cc, 0, []⟩, rest) else none) = r)) (A : Option Addr) (c : Nat) (w0 w : World) (hk : Kd.C (Kd.int .u8) w0 A b.length b) (hc : b.length ≤ c) (hB0 : Below w0.heap.size w0 w) :
    Calls Try.prog 31 #[.slice A b.length c, .int .i64 (L : Int)] w (ReadR w0 w r) := by
  have hu24 := Try.underlying24
  have hu61 := Try.underlying61
  obtain ⟨h2, hcb, hrb, hcl, hrl⟩ := cutO_sub hq
  dsimp only at hcb hrb hcl hrl
  replace hcb : Aside0 (∀ y ∈ cc, 0 ≤ y ∧ y ≤ 255) := Aside0.mk (fun y hy => hb y (hcb y hy))
  replace hrb : Aside0 (∀ y ∈ rest, 0 ≤ y ∧ y ≤ 255) := Aside0.mk (fun y hy => hb y (hrb y hy))
  replace hcl : Aside0 (cc.length ≤ 70368744177664) := Aside0.mk (by omega)
  replace hrl : Aside0 (rest.length ≤ 70368744177664) := Aside0.mk (by omega)
  obtain ⟨ad, e1, hx⟩ := Kd.at_int hk 0 (by omega) (by omega)
  subst e1
  have hpos : (0 : Int) < (b.length : Int) := by omega
  have e2 : rd b 0 = b.getD 0 0 := rfl
  rw [e2, hx0] at hx
  clear e2
  simp only [show (0 : Int).toNat = 0 from rfl] at hx
  replace hx : w0.cell? ad = some (.int .u8 12) := by simpa [Addr.add] using hx
  have hxW : Aside0 (∀ W, Below w.heap.size w W → W.cell? ad = some (.int .u8 12)) := Aside0.mk (fun W hW => ((below_step hB0 hW).cell (World.block_lt_of_cell? w0 _ hx)).trans hx)
  clear hx h2
  have hL1 : ((L : Int) == 0) = false := by simp; omega
  have hidx := Aside0.mk (show slices_Index_byte_byte.f 20 [0, 2, 4, 12, 1, 48, 160] 12 = some 3 from idx_eq 12)
  replace hk := Aside0.mk hk
  replace hb := Aside0.mk hb
  replace hbl := Aside0.mk hbl
  replace hc := Aside0.mk hc
  replace hB0 := Aside0.mk hB0
  replace hq := Aside0.mk hq
  replace hL := Aside0.mk hL
  replace hL2 := Aside0.mk hL2
  go_enter Try.func31, Try.ntmps31
  go_wp2_with (first
    | (go_at_call 35; refine Calls.mono (idents_calls w1) ?_; rintro e w2 ⟨rfl, hb2⟩; have BK2 := Aside0.mk (blk_below BK.out hb2); have HB2 := Aside0.mk (below_step HB.out hb2); clear hb2)
    | (go_at_call 43; refine Calls.mono (cut_calls b hb.out hbl.out (some (cc, rest)) hq.out (some ad) c w0 (w.alloc _) hk.out hc.out (below_alloc hB0.out _)) ?_; rintro e w1 ⟨⟨A1, c1, A2, c2, rfl, hc1, hc2, hk1, hk2⟩, hb2⟩; have BK := Aside0.mk (blk_below (blk_new w _) hb2); have HB := Aside0.mk (below_step (below_alloc (Below.refl _ _) _) hb2); clear hb2; replace hk1 := Aside0.mk hk1; replace hk2 := Aside0.mk hk2; replace hc1 := Aside0.mk hc1; replace hc2 := Aside0.mk hc2))
  clear BK HB
  have BKl := blk_new w2 (.cells #[.int .u8 0, .int .u8 2, .int .u8 4, .int .u8 12, .int .u8 1, .int .u8 48, .int .u8 160] 61)
  have BK := Aside0.mk (blk_alloc BK2.out (.cells #[.int .u8 0, .int .u8 2, .int .u8 4, .int .u8 12, .int .u8 1, .int .u8 48, .int .u8 160] 61))
  have HB := Aside0.mk (below_alloc HB2.out (.cells #[.int .u8 0, .int .u8 2, .int .u8 4, .int .u8 12, .int .u8 1, .int .u8 48, .int .u8 160] 61))
  have hCl : Aside0 (∀ W, Below (w2.heap.size + 1) (w2.alloc (.cells #[.int .u8 0, .int .u8 2, .int .u8 4, .int .u8 12, .int .u8 1, .int .u8 48, .int .u8 160] 61)) W → Kd.C (Kd.int .u8) W (some ⟨w2.heap.size, 0, none⟩) 7 [0, 2, 4, 12, 1, 48, 160]) := Aside0.mk (fun W hW => C_seven ((hW.block _ (by omega)).trans BKl))
  clear BK2 HB2
  generalize hW3 : w2.alloc (.cells #[.int .u8 0, .int .u8 2, .int .u8 4, .int .u8 12, .int .u8 1, .int .u8 48, .int .u8 160] 61) = W3 at *
  have hpos2 : 0 < b.length := by omega
  go_region_held3 (fun w' => w'.cell? ad = some (.int .u8 12))
    (first
      | exact hxW.out _ (below_drew1 HB.out)
      | exact hxW.out _ HB4.out
      | exact hxW.out _ (below_set HB4.out (Nat.le_refl _))
      | assumption)
    ((go_at_call 44; refine Calls.mono (slices_Index_byte_byte.calls 20 _ 7 [0, 2, 4, 12, 1, 48, 160] 12 3 W3.drew ?g1 ?g2 hidx.out) ?_; (case g1 => exact hCl.out _ (below_drew1 (Below.refl _ _))); (case g2 => decide); rintro e w4 ⟨rfl, hd⟩; have HB4 := Aside0.mk (below_step (below_drew1 HB.out) hd.below); have BK4 := Aside0.mk (blk_below (blk_drew BK.out) hd.below); have z0 := (blk_cell BK4.out 0).trans rfl; have y0 := blk_frozen BK4.out 0; clear hd))
  simp only [Exit.then]
  have BK : Aside0 ((w4.setCell ⟨w.heap.size, 0, none⟩ (.int .i64 3)).heap[w.heap.size]? = some (.cells #[.int .i64 3, .int .i64 0, .string e0, .int .i64 0, .slice none 0 0] 24 (0, 0))) := Aside0.mk (blk_put BK4.out 0 (.int .i64 3) rfl)
  have HB := Aside0.mk (below_set (j := 0) (v := .int .i64 3) HB4.out (Nat.le_refl _))
  clear z0 y0 BK4 HB4
  generalize w4.setCell ⟨w.heap.size, 0, none⟩ (.int .i64 3) = W5 at *
  have hx5 := hxW.out _ HB.out
  have z0 : W5.cell? ⟨w.heap.size, 0, none⟩ = some (.int .i64 3) := (blk_cell BK.out 0).trans rfl
  have z1 : W5.cell? ⟨w.heap.size, 1, none⟩ = some (.int .i64 0) := (blk_cell BK.out 1).trans rfl
  have z2 : W5.cell? ⟨w.heap.size, 2, none⟩ = some (.string e0) := (blk_cell BK.out 2).trans rfl
  have z3 : W5.cell? ⟨w.heap.size, 3, none⟩ = some (.int .i64 0) := (blk_cell BK.out 3).trans rfl
  have z4 : W5.cell? ⟨w.heap.size, 4, none⟩ = some (.slice none 0 0) := (blk_cell BK.out 4).trans rfl
  have y0 := blk_frozen BK.out 0
  have y1 := blk_frozen BK.out 1
  have y2 := blk_frozen BK.out 2
  have y3 := blk_frozen BK.out 3
  have y4 := blk_frozen BK.out 4
  have hCW := Kd.C_below hk1.out (below_step hB0.out HB.out)
  have hstr := string_of_reads (P := Try.prog) Try.underlying27 Try.underlying5 Try.underlying9 (c := c1) (readsInt_of.2 (Kd.reads_of_C (d := (0 : Int)) hCW))
  have hssz : (strOfNums cc).size < 9223372036854775807 := by rw [strOfNums_size]; have := hcl.out; omega
  generalize strOfNums cc = sv at *
  clear hCW
  have BKX : Aside0 ((W5.setCell ⟨w.heap.size, 2, none⟩ (.string sv)).heap[w.heap.size]? = some (.cells #[.int .i64 3, .int .i64 0, .string sv, .int .i64 0, .slice none 0 0] 24 (0, 0))) := Aside0.mk (blk_put BK.out 2 (.string sv) rfl)
  have HBX := Aside0.mk (below_set (j := 2) (v := .string sv) HB.out (Nat.le_refl _))
  go_wp2_with (go_at_call 39; refine Calls.mono (plain_calls sv (W5.setCell ⟨w.heap.size, 2, none⟩ (.string sv)) hssz) ?_; rintro e w6 ⟨rfl, hb2⟩; have BK6 := Aside0.mk (blk_below BKX.out hb2); have HB6 := Aside0.mk (below_step HBX.out hb2); clear hb2; have x0 : w6.cell? ⟨w.heap.size, 0, none⟩ = some (.int .i64 3) := (blk_cell BK6.out 0).trans rfl; have x1 : w6.cell? ⟨w.heap.size, 1, none⟩ = some (.int .i64 0) := (blk_cell BK6.out 1).trans rfl; have x2 : w6.cell? ⟨w.heap.size, 2, none⟩ = some (.string sv) := (blk_cell BK6.out 2).trans rfl; have x3 : w6.cell? ⟨w.heap.size, 3, none⟩ = some (.int .i64 0) := (blk_cell BK6.out 3).trans rfl; have x4 : w6.cell? ⟨w.heap.size, 4, none⟩ = some (.slice none 0 0) := (blk_cell BK6.out 4).trans rfl; have v0 := blk_frozen BK6.out 0; have v1 := blk_frozen BK6.out 1; have v2 := blk_frozen BK6.out 2; have v3 := blk_frozen BK6.out 3; have v4 := blk_frozen BK6.out 4)
  replace BKX := BK6
  replace HBX := HB6
  replace hr := hr.out
  by_cases hpl : plainS sv = true
  · rw [if_pos hpl] at hr
    subst hr
    rw [hpl]
    refine leaf BKX.out _ _ _ _ _ _ rfl ?_
    exact ⟨⟨⟨_, A2, c2, rfl, Kd.R_nil _ _ _ _ _, hc2.out, hk2.out⟩, hrb.out, hrl.out⟩, sets5_below HBX.out (Nat.le_refl _) _ _ _ _ _⟩
  · rw [if_neg hpl] at hr
    subst hr
    rw [show plainS sv = false by simpa using hpl]
    refine leaf BKX.out _ _ _ _ _ _ rfl ?_
    exact ⟨⟨_, _, _, _, _, _, _, rfl⟩, sets5_below HBX.out (Nat.le_refl _) _ _ _ _ _⟩
set_option maxHeartbeats 8000000 in
set_option maxRecDepth 100000 in
theorem read_bool (L : Nat) (hL : 0 < L) (hL2 : L < 1000000) (b cc rest : List Int) (hq : cutO b = some (some (cc, rest))) (hb : ∀ x ∈ b, 0 ≤ x ∧ x ≤ 255) (hbl : b.length ≤ 70368744177664) (hx0 : b.getD 0 0 = 1) (r : Option (S24 × List Int)) (hr : Aside0 ((if cc.length = 1 ∧ (cc.getD 0 0 = 0 ∨ cc.getD 0 0 = 255) then some (⟨4, cc.getD 0 0 % 2, e0, 0, []⟩, rest) else none) = r)) (A : Option Addr) (c : Nat) (w0 w : World) (hk : Kd.C (Kd.int .u8) w0 A b.length b) (hc : b.length ≤ c) (hB0 : Below w0.heap.size w0 w) :
    Calls Try.prog 31 #[.slice A b.length c, .int .i64 (L : Int)] w (ReadR w0 w r) := by
  have hu24 := Try.underlying24
  have hu61 := Try.underlying61
  obtain ⟨h2, hcb, hrb, hcl, hrl⟩ := cutO_sub hq
  dsimp only at hcb hrb hcl hrl
  replace hcb : Aside0 (∀ y ∈ cc, 0 ≤ y ∧ y ≤ 255) := Aside0.mk (fun y hy => hb y (hcb y hy))
  replace hrb : Aside0 (∀ y ∈ rest, 0 ≤ y ∧ y ≤ 255) := Aside0.mk (fun y hy => hb y (hrb y hy))
  replace hcl : Aside0 (cc.length ≤ 70368744177664) := Aside0.mk (by omega)
  replace hrl : Aside0 (rest.length ≤ 70368744177664) := Aside0.mk (by omega)
  obtain ⟨ad, e1, hx⟩ := Kd.at_int hk 0 (by omega) (by omega)
  subst e1
  have hpos : (0 : Int) < (b.length : Int) := by omega
  have e2 : rd b 0 = b.getD 0 0 := rfl
  rw [e2, hx0] at hx
  clear e2
  simp only [show (0 : Int).toNat = 0 from rfl] at hx
  replace hx : w0.cell? ad = some (.int .u8 1) := by simpa [Addr.add] using hx
  have hxW : Aside0 (∀ W, Below w.heap.size w W → W.cell? ad = some (.int .u8 1)) := Aside0.mk (fun W hW => ((below_step hB0 hW).cell (World.block_lt_of_cell? w0 _ hx)).trans hx)
  clear hx h2
  have hL1 : ((L : Int) == 0) = false := by simp; omega
  have hidx := Aside0.mk (show slices_Index_byte_byte.f 20 [0, 2, 4, 12, 1, 48, 160] 1 = some 4 from idx_eq 1)
  replace hk := Aside0.mk hk
  replace hb := Aside0.mk hb
  replace hbl := Aside0.mk hbl
  replace hc := Aside0.mk hc
  replace hB0 := Aside0.mk hB0
  replace hq := Aside0.mk hq
  replace hL := Aside0.mk hL
  replace hL2 := Aside0.mk hL2
  go_enter Try.func31, Try.ntmps31
  go_wp2_with (first
    | (go_at_call 35; refine Calls.mono (idents_calls w1) ?_; rintro e w2 ⟨rfl, hb2⟩; have BK2 := Aside0.mk (blk_below BK.out hb2); have HB2 := Aside0.mk (below_step HB.out hb2); clear hb2)
    | (go_at_call 43; refine Calls.mono (cut_calls b hb.out hbl.out (some (cc, rest)) hq.out (some ad) c w0 (w.alloc _) hk.out hc.out (below_alloc hB0.out _)) ?_; rintro e w1 ⟨⟨A1, c1, A2, c2, rfl, hc1, hc2, hk1, hk2⟩, hb2⟩; have BK := Aside0.mk (blk_below (blk_new w _) hb2); have HB := Aside0.mk (below_step (below_alloc (Below.refl _ _) _) hb2); clear hb2; replace hk1 := Aside0.mk hk1; replace hk2 := Aside0.mk hk2; replace hc1 := Aside0.mk hc1; replace hc2 := Aside0.mk hc2))
  clear BK HB
  have BKl := blk_new w2 (.cells #[.int .u8 0, .int .u8 2, .int .u8 4, .int .u8 12, .int .u8 1, .int .u8 48, .int .u8 160] 61)
  have BK := Aside0.mk (blk_alloc BK2.out (.cells #[.int .u8 0, .int .u8 2, .int .u8 4, .int .u8 12, .int .u8 1, .int .u8 48, .int .u8 160] 61))
  have HB := Aside0.mk (below_alloc HB2.out (.cells #[.int .u8 0, .int .u8 2, .int .u8 4, .int .u8 12, .int .u8 1, .int .u8 48, .int .u8 160] 61))
  have hCl : Aside0 (∀ W, Below (w2.heap.size + 1) (w2.alloc (.cells #[.int .u8 0, .int .u8 2, .int .u8 4, .int .u8 12, .int .u8 1, .int .u8 48, .int .u8 160] 61)) W → Kd.C (Kd.int .u8) W (some ⟨w2.heap.size, 0, none⟩) 7 [0, 2, 4, 12, 1, 48, 160]) := Aside0.mk (fun W hW => C_seven ((hW.block _ (by omega)).trans BKl))
  clear BK2 HB2
  generalize hW3 : w2.alloc (.cells #[.int .u8 0, .int .u8 2, .int .u8 4, .int .u8 12, .int .u8 1, .int .u8 48, .int .u8 160] 61) = W3 at *
  have hpos2 : 0 < b.length := by omega
  go_region_held3 (fun w' => w'.cell? ad = some (.int .u8 1))
    (first
      | exact hxW.out _ (below_drew1 HB.out)
      | exact hxW.out _ HB4.out
      | exact hxW.out _ (below_set HB4.out (Nat.le_refl _))
      | assumption)
    ((go_at_call 44; refine Calls.mono (slices_Index_byte_byte.calls 20 _ 7 [0, 2, 4, 12, 1, 48, 160] 1 4 W3.drew ?g1 ?g2 hidx.out) ?_; (case g1 => exact hCl.out _ (below_drew1 (Below.refl _ _))); (case g2 => decide); rintro e w4 ⟨rfl, hd⟩; have HB4 := Aside0.mk (below_step (below_drew1 HB.out) hd.below); have BK4 := Aside0.mk (blk_below (blk_drew BK.out) hd.below); have z0 := (blk_cell BK4.out 0).trans rfl; have y0 := blk_frozen BK4.out 0; clear hd))
  simp only [Exit.then]
  have BK : Aside0 ((w4.setCell ⟨w.heap.size, 0, none⟩ (.int .i64 4)).heap[w.heap.size]? = some (.cells #[.int .i64 4, .int .i64 0, .string e0, .int .i64 0, .slice none 0 0] 24 (0, 0))) := Aside0.mk (blk_put BK4.out 0 (.int .i64 4) rfl)
  have HB := Aside0.mk (below_set (j := 0) (v := .int .i64 4) HB4.out (Nat.le_refl _))
  clear z0 y0 BK4 HB4
  generalize w4.setCell ⟨w.heap.size, 0, none⟩ (.int .i64 4) = W5 at *
  have hx5 := hxW.out _ HB.out
  have z0 : W5.cell? ⟨w.heap.size, 0, none⟩ = some (.int .i64 4) := (blk_cell BK.out 0).trans rfl
  have z1 : W5.cell? ⟨w.heap.size, 1, none⟩ = some (.int .i64 0) := (blk_cell BK.out 1).trans rfl
  have z2 : W5.cell? ⟨w.heap.size, 2, none⟩ = some (.string e0) := (blk_cell BK.out 2).trans rfl
  have z3 : W5.cell? ⟨w.heap.size, 3, none⟩ = some (.int .i64 0) := (blk_cell BK.out 3).trans rfl
  have z4 : W5.cell? ⟨w.heap.size, 4, none⟩ = some (.slice none 0 0) := (blk_cell BK.out 4).trans rfl
  have y0 := blk_frozen BK.out 0
  have y1 := blk_frozen BK.out 1
  have y2 := blk_frozen BK.out 2
  have y3 := blk_frozen BK.out 3
  have y4 := blk_frozen BK.out 4
  have hCW := Aside0.mk (fun W (hW : Below w.heap.size w W) => Kd.C_below hk1.out (below_step hB0.out hW))
  replace hr := hr.out
  by_cases hlen : cc.length = 1
  · obtain ⟨ad1, ea1, hy⟩ := Kd.at_int (hCW.out W5 HB.out) 0 (by omega) (by omega)
    subst ea1
    have hyb := hcb.out _ (show cc.getD 0 0 ∈ cc by rw [List.getD_eq_getElem?_getD, List.getElem?_eq_getElem (by omega)]; exact List.getElem_mem _)
    simp only [show (0 : Int).toNat = 0 from rfl, show rd cc 0 = cc.getD 0 0 from rfl] at hy
    simp only [hlen, true_and] at hr
    generalize cc.getD 0 0 = y at *
    replace hy : W5.cell? ad1 = some (.int .u8 y) := by simpa [Addr.add] using hy
    have hq : ((cc.length : Int) == 1) = true := by simp [hlen]
    have hpc : (0 : Int) < (cc.length : Int) := by omega
    replace hlen := Aside0.mk hlen
    clear hyb
    by_cases hy0 : y = 0
    · subst hy0
      have ha0 : bits BinOp.and IntKind.u8 0 1 = 0 := by decide
      rw [if_pos (.inl rfl)] at hr
      subst hr
      have BKX : Aside0 ((W5.setCell ⟨w.heap.size, 1, none⟩ (.int .i64 0)).heap[w.heap.size]? = some (.cells #[.int .i64 4, .int .i64 0, .string e0, .int .i64 0, .slice none 0 0] 24 (0, 0))) := Aside0.mk (blk_put BK.out 1 (.int .i64 0) rfl)
      have HBX := Aside0.mk (below_set (j := 1) (v := .int .i64 0) HB.out (Nat.le_refl _))
      go_wp2
      refine leaf BKX.out _ _ _ _ _ _ rfl ?_
      exact ⟨⟨⟨_, A2, c2, rfl, Kd.R_nil _ _ _ _ _, hc2.out, hk2.out⟩, hrb.out, hrl.out⟩, sets5_below HBX.out (Nat.le_refl _) _ _ _ _ _⟩
    by_cases hy1 : y = 255
    · subst hy1
      have ha1 : bits BinOp.and IntKind.u8 255 1 = 1 := by decide
      rw [if_pos (.inr rfl)] at hr
      subst hr
      have BKX : Aside0 ((W5.setCell ⟨w.heap.size, 1, none⟩ (.int .i64 1)).heap[w.heap.size]? = some (.cells #[.int .i64 4, .int .i64 1, .string e0, .int .i64 0, .slice none 0 0] 24 (0, 0))) := Aside0.mk (blk_put BK.out 1 (.int .i64 1) rfl)
      have HBX := Aside0.mk (below_set (j := 1) (v := .int .i64 1) HB.out (Nat.le_refl _))
      go_wp2
      refine leaf BKX.out _ _ _ _ _ _ rfl ?_
      exact ⟨⟨⟨_, A2, c2, rfl, Kd.R_nil _ _ _ _ _, hc2.out, hk2.out⟩, hrb.out, hrl.out⟩, sets5_below HBX.out (Nat.le_refl _) _ _ _ _ _⟩
    · rw [if_neg (by simp [hy0, hy1])] at hr
      subst hr
      have hq0 : (y == 0) = false := by simpa using hy0
      have hq1 : (y == 255) = false := by simpa using hy1
      have BKX := BK
      have HBX := HB
      go_wp2
      refine leaf BKX.out _ _ _ _ _ _ rfl ?_
      exact ⟨⟨_, _, _, _, _, _, _, rfl⟩, sets5_below HBX.out (Nat.le_refl _) _ _ _ _ _⟩
  · rw [if_neg (by simp [hlen])] at hr
    subst hr
    have hq : ((cc.length : Int) == 1) = false := by simp; omega
    have BKX := BK
    have HBX := HB
    go_wp2
    refine leaf BKX.out _ _ _ _ _ _ rfl ?_
    exact ⟨⟨_, _, _, _, _, _, _, rfl⟩, sets5_below HBX.out (Nat.le_refl _) _ _ _ _ _⟩
end Go.Proofs.Ytpphoifjhhidfaa.Der
