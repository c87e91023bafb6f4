/- der.read, numbers, sequences, tags. -/
import Derived.Test.YtpphoifjhhidfaaRead
namespace Go.Proofs.Ytpphoifjhhidfaa.Der
set_option linter.unusedVariables false
set_option linter.unusedSimpArgs false
open Go.RowKit
open Go.Proofs.YtpphoifjhhidfaaW.PrintWords
open Go.Proofs.YtpphoifjhhidfaaW.PrintLast
open Go.Proofs.YtpphoifjhhidfaaW.PrintMore
open Go.Proofs.Ytpphoifjhhidfaa.Gread (der_length.f der_length.calls bytes_Equal.f bytes_Equal.calls der_number.f der_number.calls slices_Index_byte_byte.f slices_Index_byte_byte.calls)
set_option maxHeartbeats 8000000 in
set_option maxRecDepth 100000 in
theorem or64w (n y : Int) (hy : 0 ≤ y ∧ y < 256) : bits .or .i64 (wrap64 (n * 256)) y = wrap64 (n * 256 + y) := by
  obtain ⟨q, hq⟩ : ∃ q : Int, wrap64 (n * 256) = q * 256 := ⟨wrap64 (n * 256) / 256, by unfold wrap64; omega⟩
  rw [hq, or64 q y hy]
  unfold wrap64 at hq ⊢
  omega
theorem valL_snoc (a : List Int) (y : Int) (h : a ≠ []) : valL (a ++ [y]) = wrap64 (valL a * 256 + y) := by
  cases a with
  | nil => exact absurd rfl h
  | cons x r => simp [valL, List.foldl_append]
def RelI (w : World) (cc : List Int) (v : Value) (W : World) : Prop := ∃ j : Nat, j ≤ cc.length ∧ v = .int .i64 j ∧ W.heap[w.heap.size]? = some (.cells #[.int .i64 1, .int .i64 (valL (cc.take j)), .string e0, .int .i64 0, .slice none 0 0] 24 (0, 0)) ∧ Below w.heap.size w W
set_option maxHeartbeats 8000000 in
set_option maxRecDepth 100000 in
theorem read_int (L : Nat) (hL : 0 < L) (hL2 : L < 1000000) (b cc rest : List Int) (hq : cutO b = some (some (cc, rest))) (hb : ∀ x ∈ b, 0 ≤ x ∧ x ≤ 255) (hbl : b.length ≤ 70368744177664) (hx0 : b.getD 0 0 = 2) (nq : List Int) (hnq : Aside0 (der_number.f 64 (valL cc) = some nq)) (r : Option (S24 × List Int)) (hr : Aside0 ((if eqB nq cc then some (⟨1, valL cc, e0, 0, []⟩, rest) else none) = r)) (A : Option Addr) (c : Nat) (w0 w : World) (hk : Kd.C (Kd.int .u8) w0 A b.length b) (hc : b.length ≤ c) (hB0 : Below w0.heap.size w0 w) :
    Calls Try.prog 31 #[.slice A b.length c, .int .i64 (L : Int)] w (ReadR w0 w r) := by
  have hu24 := Try.underlying24
  have hu61 := Try.underlying61
  obtain ⟨h2, hcb, hrb, hcl, hrl⟩ := cutO_sub hq
  dsimp only at hcb hrb hcl hrl
  replace hcb : Aside0 (∀ y ∈ cc, 0 ≤ y ∧ y ≤ 255) := Aside0.mk (fun y hy => hb y (hcb y hy))
  replace hrb : Aside0 (∀ y ∈ rest, 0 ≤ y ∧ y ≤ 255) := Aside0.mk (fun y hy => hb y (hrb y hy))
  replace hcl : Aside0 (cc.length ≤ 70368744177664) := Aside0.mk (by omega)
  replace hrl : Aside0 (rest.length ≤ 70368744177664) := Aside0.mk (by omega)
  obtain ⟨ad, e1, hx⟩ := Kd.at_int hk 0 (by omega) (by omega)
  subst e1
  have hpos : (0 : Int) < (b.length : Int) := by omega
  have e2 : rd b 0 = b.getD 0 0 := rfl
  rw [e2, hx0] at hx
  clear e2
  simp only [show (0 : Int).toNat = 0 from rfl] at hx
  replace hx : w0.cell? ad = some (.int .u8 2) := by simpa [Addr.add] using hx
  have hxW : Aside0 (∀ W, Below w.heap.size w W → W.cell? ad = some (.int .u8 2)) := Aside0.mk (fun W hW => ((below_step hB0 hW).cell (World.block_lt_of_cell? w0 _ hx)).trans hx)
  clear hx h2
  have hL1 : ((L : Int) == 0) = false := by simp; omega
  have hidx := Aside0.mk (show slices_Index_byte_byte.f 20 [0, 2, 4, 12, 1, 48, 160] 2 = some 1 from idx_eq 2)
  replace hk := Aside0.mk hk
  replace hb := Aside0.mk hb
  replace hbl := Aside0.mk hbl
  replace hc := Aside0.mk hc
  replace hB0 := Aside0.mk hB0
  replace hq := Aside0.mk hq
  replace hL := Aside0.mk hL
  replace hL2 := Aside0.mk hL2
  go_enter Try.func31, Try.ntmps31
  go_wp2_with (first
    | (go_at_call 35; refine Calls.mono (idents_calls w1) ?_; rintro e w2 ⟨rfl, hb2⟩; have BK2 := Aside0.mk (blk_below BK.out hb2); have HB2 := Aside0.mk (below_step HB.out hb2); clear hb2)
    | (go_at_call 43; refine Calls.mono (cut_calls b hb.out hbl.out (some (cc, rest)) hq.out (some ad) c w0 (w.alloc _) hk.out hc.out (below_alloc hB0.out _)) ?_; rintro e w1 ⟨⟨A1, c1, A2, c2, rfl, hc1, hc2, hk1, hk2⟩, hb2⟩; have BK := Aside0.mk (blk_below (blk_new w _) hb2); have HB := Aside0.mk (below_step (below_alloc (Below.refl _ _) _) hb2); clear hb2; replace hk1 := Aside0.mk hk1; replace hk2 := Aside0.mk hk2; replace hc1 := Aside0.mk hc1; replace hc2 := Aside0.mk hc2))
  clear BK HB
  have BKl := blk_new w2 (.cells #[.int .u8 0, .int .u8 2, .int .u8 4, .int .u8 12, .int .u8 1, .int .u8 48, .int .u8 160] 61)
  have BK := Aside0.mk (blk_alloc BK2.out (.cells #[.int .u8 0, .int .u8 2, .int .u8 4, .int .u8 12, .int .u8 1, .int .u8 48, .int .u8 160] 61))
  have HB := Aside0.mk (below_alloc HB2.out (.cells #[.int .u8 0, .int .u8 2, .int .u8 4, .int .u8 12, .int .u8 1, .int .u8 48, .int .u8 160] 61))
  have hCl : Aside0 (∀ W, Below (w2.heap.size + 1) (w2.alloc (.cells #[.int .u8 0, .int .u8 2, .int .u8 4, .int .u8 12, .int .u8 1, .int .u8 48, .int .u8 160] 61)) W → Kd.C (Kd.int .u8) W (some ⟨w2.heap.size, 0, none⟩) 7 [0, 2, 4, 12, 1, 48, 160]) := Aside0.mk (fun W hW => C_seven ((hW.block _ (by omega)).trans BKl))
  clear BK2 HB2
  generalize hW3 : w2.alloc (.cells #[.int .u8 0, .int .u8 2, .int .u8 4, .int .u8 12, .int .u8 1, .int .u8 48, .int .u8 160] 61) = W3 at *
  have hpos2 : 0 < b.length := by omega
  go_region_held3 (fun w' => w'.cell? ad = some (.int .u8 2))
    (first
      | exact hxW.out _ (below_drew1 HB.out)
      | exact hxW.out _ HB4.out
      | exact hxW.out _ (below_set HB4.out (Nat.le_refl _))
      | assumption)
    ((go_at_call 44; refine Calls.mono (slices_Index_byte_byte.calls 20 _ 7 [0, 2, 4, 12, 1, 48, 160] 2 1 W3.drew ?g1 ?g2 hidx.out) ?_; (case g1 => exact hCl.out _ (below_drew1 (Below.refl _ _))); (case g2 => decide); rintro e w4 ⟨rfl, hd⟩; have HB4 := Aside0.mk (below_step (below_drew1 HB.out) hd.below); have BK4 := Aside0.mk (blk_below (blk_drew BK.out) hd.below); have z0 := (blk_cell BK4.out 0).trans rfl; have y0 := blk_frozen BK4.out 0; clear hd))
  simp only [Exit.then]
  have BK : Aside0 ((w4.setCell ⟨w.heap.size, 0, none⟩ (.int .i64 1)).heap[w.heap.size]? = some (.cells #[.int .i64 1, .int .i64 0, .string e0, .int .i64 0, .slice none 0 0] 24 (0, 0))) := Aside0.mk (blk_put BK4.out 0 (.int .i64 1) rfl)
  have HB := Aside0.mk (below_set (j := 0) (v := .int .i64 1) HB4.out (Nat.le_refl _))
  clear z0 y0 BK4 HB4
  generalize w4.setCell ⟨w.heap.size, 0, none⟩ (.int .i64 1) = W5 at *
  have hx5 := hxW.out _ HB.out
  have z0 : W5.cell? ⟨w.heap.size, 0, none⟩ = some (.int .i64 1) := (blk_cell BK.out 0).trans rfl
  have z1 : W5.cell? ⟨w.heap.size, 1, none⟩ = some (.int .i64 0) := (blk_cell BK.out 1).trans rfl
  have z2 : W5.cell? ⟨w.heap.size, 2, none⟩ = some (.string e0) := (blk_cell BK.out 2).trans rfl
  have z3 : W5.cell? ⟨w.heap.size, 3, none⟩ = some (.int .i64 0) := (blk_cell BK.out 3).trans rfl
  have z4 : W5.cell? ⟨w.heap.size, 4, none⟩ = some (.slice none 0 0) := (blk_cell BK.out 4).trans rfl
  have y0 := blk_frozen BK.out 0
  have y1 := blk_frozen BK.out 1
  have y2 := blk_frozen BK.out 2
  have y3 := blk_frozen BK.out 3
  have y4 := blk_frozen BK.out 4
  have hCW := Aside0.mk (fun W (hW : Below w.heap.size w W) => Kd.C_below hk1.out (below_step hB0.out hW))
  go_wp2
  clear z0 z1 z2 z3 z4 y0 y1 y2 y3 y4 hx5
  go_loopw [54] (RelI w cc) (fun v _ => (cc.length - intOf v).toNat)
  case atStart => exact ⟨0, by omega, rfl, BK.out, HB.out⟩
  case round =>
    clear BK HB
    obtain ⟨j, hj, rfl, BK0, HB0⟩ := hrel
    have BK := Aside0.mk BK0
    have HB := Aside0.mk HB0
    clear BK0 HB0
    by_cases hjl : (j : Int) < cc.length
    · obtain ⟨ad1, ea1, hy⟩ := Kd.at_int (hCW.out wr HB.out) j (by omega) hjl
      subst ea1
      have hyb := hcb.out _ (show cc.getD j 0 ∈ cc by rw [List.getD_eq_getElem?_getD, List.getElem?_eq_getElem (by omega)]; exact List.getElem_mem _)
      simp only [Int.toNat_natCast, show rd cc (j : Int) = cc.getD j 0 from rfl] at hy
      have hst := take_getD cc j (by omega)
      by_cases hj0 : j = 0
      · subst hj0
        have hv : valL (cc.take 1) = if cc.getD 0 0 < 128 then cc.getD 0 0 else cc.getD 0 0 - 256 := by rw [hst]; simp [valL]
        clear hst
        generalize cc.getD 0 0 = y at *
        replace hy : wr.cell? ad1 = some (.int .u8 y) := by simpa [Addr.add] using hy
        have hi8 : IntKind.i8.wrap y = if y < 128 then y else y - 256 := by simp only [IntKind.wrap, IntKind.bits, IntKind.signed]; simp; split <;> omega
        have hi64 : wrap64 (if y < 128 then y else y - 256) = if y < 128 then y else y - 256 := by unfold wrap64; split <;> omega
        rw [← hv] at hi8 hi64
        replace hv := Aside0.mk hv
        generalize hnv : valL (cc.take 1) = nv at *
        have z1 : wr.cell? ⟨w.heap.size, 1, none⟩ = some (.int .i64 (valL (cc.take 0))) := (blk_cell BK.out 1).trans rfl
        have y1 := blk_frozen BK.out 1
        go_wp2
        refine ⟨⟨1, by omega, rfl, ?_, below_set HB.out (Nat.le_refl _)⟩, ?_⟩
        · have hb1 := blk_put BK.out 1 (.int .i64 nv) (cs' := #[.int .i64 1, .int .i64 nv, .string e0, .int .i64 0, .slice none 0 0]) rfl
          rw [hnv]
          exact hb1
        · simp only [intOf]; omega
      · have hj1 : ((j : Int) == 0) = false := by simp; omega
        have hne : cc.take j ≠ [] := by
          intro h
          have := congrArg List.length h
          rw [List.length_take, List.length_nil] at this
          omega
        have hv : valL (cc.take (j + 1)) = wrap64 (valL (cc.take j) * 256 + cc.getD j 0) := by rw [hst, valL_snoc _ _ hne]
        clear hst hne
        have z1 : wr.cell? ⟨w.heap.size, 1, none⟩ = some (.int .i64 (valL (cc.take j))) := (blk_cell BK.out 1).trans rfl
        have y1 := blk_frozen BK.out 1
        generalize cc.getD j 0 = y at *
        have hor := or64w (valL (cc.take j)) y (by omega)
        rw [← hv] at hor
        replace hv := Aside0.mk hv
        generalize hnv : valL (cc.take (j + 1)) = nv at *
        have hj2 : wrap64 ((j : Int) + 1) = (j : Int) + 1 := by have := hcl.out; unfold wrap64; omega
        go_wp2
        rw [hj2]
        refine ⟨⟨j + 1, by omega, rfl, ?_, below_set HB.out (Nat.le_refl _)⟩, ?_⟩
        · have hb1 := blk_put BK.out 1 (.int .i64 nv) (cs' := #[.int .i64 1, .int .i64 nv, .string e0, .int .i64 0, .slice none 0 0]) rfl
          rw [hnv]
          exact hb1
        · simp only [intOf]; omega
    · obtain rfl : j = cc.length := by omega
      rw [List.take_length] at BK
      have z1 : wr.cell? ⟨w.heap.size, 1, none⟩ = some (.int .i64 (valL cc)) := (blk_cell BK.out 1).trans rfl
      replace hr := hr.out
      generalize valL cc = N at *
      generalize hqe : eqB nq cc = eq at *
      replace hqe := Aside0.mk hqe
      go_wp2_with (first
        | (go_at_call 45; refine Calls.mono (bytes_Equal.calls Aq cq nq A1 c1 cc eq w6 hCq.out hleq (hCW.out w6 HB6.out) hc1.out (by rw [← hqe.out]; rfl)) ?_; rintro e w7 ⟨rfl, hd⟩; have BK7 := Aside0.mk (blk_below BK6.out hd.below); have HB7 := Aside0.mk (below_step HB6.out hd.below); clear hd; have x0 : w7.cell? ⟨w.heap.size, 0, none⟩ = some (.int .i64 1) := (blk_cell BK7.out 0).trans rfl; have x1 : w7.cell? ⟨w.heap.size, 1, none⟩ = some (.int .i64 N) := (blk_cell BK7.out 1).trans rfl; have x2 : w7.cell? ⟨w.heap.size, 2, none⟩ = some (.string e0) := (blk_cell BK7.out 2).trans rfl; have x3 : w7.cell? ⟨w.heap.size, 3, none⟩ = some (.int .i64 0) := (blk_cell BK7.out 3).trans rfl; have x4 : w7.cell? ⟨w.heap.size, 4, none⟩ = some (.slice none 0 0) := (blk_cell BK7.out 4).trans rfl; have v0 := blk_frozen BK7.out 0; have v1 := blk_frozen BK7.out 1; have v2 := blk_frozen BK7.out 2; have v3 := blk_frozen BK7.out 3; have v4 := blk_frozen BK7.out 4)
        | (go_at_call 46; refine Calls.mono (der_number.calls 64 N nq wr hnq.out) ?_; rintro e w6 ⟨v, rfl, hR, hb2⟩; obtain ⟨Aq, cq, rfl, hleq, hCq0⟩ := R_partC hR; have hCq := Aside0.mk hCq0; have BK6 := Aside0.mk (blk_below BK.out hb2); have HB6 := Aside0.mk (below_step HB.out hb2); clear hR hCq0 hb2))
      have BKX := BK7
      have HBX := HB7
      cases eq with
      | true =>
        rw [if_pos rfl] at hr
        subst hr
        refine leaf BKX.out _ _ _ _ _ _ rfl ?_
        exact ⟨⟨⟨_, A2, c2, rfl, Kd.R_nil _ _ _ _ _, hc2.out, hk2.out⟩, hrb.out, hrl.out⟩, sets5_below HBX.out (Nat.le_refl _) _ _ _ _ _⟩
      | false =>
        rw [if_neg (by simp)] at hr
        subst hr
        refine leaf BKX.out _ _ _ _ _ _ rfl ?_
        exact ⟨⟨_, _, _, _, _, _, _, rfl⟩, sets5_below HBX.out (Nat.le_refl _) _ _ _ _ _⟩
set_option maxHeartbeats 8000000 in
set_option maxRecDepth 100000 in
theorem read_seq (L : Nat) (hL : 0 < L) (hL2 : L < 1000000) (b cc rest : List Int) (hq : cutO b = some (some (cc, rest))) (hb : ∀ x ∈ b, 0 ≤ x ∧ x ≤ 255) (hbl : b.length ≤ 70368744177664) (hx0 : b.getD 0 0 = 48) (rdr : List Int → Option (Option (S24 × List Int))) (M : Nat) (hM : Aside0 ((L : Int) = (M : Int) + 1)) (HR : PRead rdr M) (f : Nat) (q : Option (List S24)) (hkw : Aside0 (kidsWith rdr f cc [] = some q)) (A : Option Addr) (c : Nat) (w0 w : World) (hk : Kd.C (Kd.int .u8) w0 A b.length b) (hc : b.length ≤ c) (hB0 : Below w0.heap.size w0 w) :
    Calls Try.prog 31 #[.slice A b.length c, .int .i64 (L : Int)] w (ReadR w0 w (q.map fun ts => (⟨5, 0, e0, 0, ts⟩, rest))) := by
  have hu24 := Try.underlying24
  have hu61 := Try.underlying61
  obtain ⟨h2, hcb, hrb, hcl, hrl⟩ := cutO_sub hq
  dsimp only at hcb hrb hcl hrl
  replace hcb : Aside0 (∀ y ∈ cc, 0 ≤ y ∧ y ≤ 255) := Aside0.mk (fun y hy => hb y (hcb y hy))
  replace hrb : Aside0 (∀ y ∈ rest, 0 ≤ y ∧ y ≤ 255) := Aside0.mk (fun y hy => hb y (hrb y hy))
  replace hcl : Aside0 (cc.length ≤ 70368744177664) := Aside0.mk (by omega)
  replace hrl : Aside0 (rest.length ≤ 70368744177664) := Aside0.mk (by omega)
  obtain ⟨ad, e1, hx⟩ := Kd.at_int hk 0 (by omega) (by omega)
  subst e1
  have hpos : (0 : Int) < (b.length : Int) := by omega
  have e2 : rd b 0 = b.getD 0 0 := rfl
  rw [e2, hx0] at hx
  clear e2
  simp only [show (0 : Int).toNat = 0 from rfl] at hx
  replace hx : w0.cell? ad = some (.int .u8 48) := by simpa [Addr.add] using hx
  have hxW : Aside0 (∀ W, Below w.heap.size w W → W.cell? ad = some (.int .u8 48)) := Aside0.mk (fun W hW => ((below_step hB0 hW).cell (World.block_lt_of_cell? w0 _ hx)).trans hx)
  clear hx h2
  have hL1 : ((L : Int) == 0) = false := by simp; omega
  have hidx := Aside0.mk (show slices_Index_byte_byte.f 20 [0, 2, 4, 12, 1, 48, 160] 48 = some 5 from idx_eq 48)
  replace hk := Aside0.mk hk
  replace hb := Aside0.mk hb
  replace hbl := Aside0.mk hbl
  replace hc := Aside0.mk hc
  replace hB0 := Aside0.mk hB0
  replace hq := Aside0.mk hq
  replace hL := Aside0.mk hL
  replace hL2 := Aside0.mk hL2
  go_enter Try.func31, Try.ntmps31
  go_wp2_with (first
    | (go_at_call 35; refine Calls.mono (idents_calls w1) ?_; rintro e w2 ⟨rfl, hb2⟩; have BK2 := Aside0.mk (blk_below BK.out hb2); have HB2 := Aside0.mk (below_step HB.out hb2); clear hb2)
    | (go_at_call 43; refine Calls.mono (cut_calls b hb.out hbl.out (some (cc, rest)) hq.out (some ad) c w0 (w.alloc _) hk.out hc.out (below_alloc hB0.out _)) ?_; rintro e w1 ⟨⟨A1, c1, A2, c2, rfl, hc1, hc2, hk1, hk2⟩, hb2⟩; have BK := Aside0.mk (blk_below (blk_new w _) hb2); have HB := Aside0.mk (below_step (below_alloc (Below.refl _ _) _) hb2); clear hb2; replace hk1 := Aside0.mk hk1; replace hk2 := Aside0.mk hk2; replace hc1 := Aside0.mk hc1; replace hc2 := Aside0.mk hc2))
  clear BK HB
  have BKl := blk_new w2 (.cells #[.int .u8 0, .int .u8 2, .int .u8 4, .int .u8 12, .int .u8 1, .int .u8 48, .int .u8 160] 61)
  have BK := Aside0.mk (blk_alloc BK2.out (.cells #[.int .u8 0, .int .u8 2, .int .u8 4, .int .u8 12, .int .u8 1, .int .u8 48, .int .u8 160] 61))
  have HB := Aside0.mk (below_alloc HB2.out (.cells #[.int .u8 0, .int .u8 2, .int .u8 4, .int .u8 12, .int .u8 1, .int .u8 48, .int .u8 160] 61))
  have hCl : Aside0 (∀ W, Below (w2.heap.size + 1) (w2.alloc (.cells #[.int .u8 0, .int .u8 2, .int .u8 4, .int .u8 12, .int .u8 1, .int .u8 48, .int .u8 160] 61)) W → Kd.C (Kd.int .u8) W (some ⟨w2.heap.size, 0, none⟩) 7 [0, 2, 4, 12, 1, 48, 160]) := Aside0.mk (fun W hW => C_seven ((hW.block _ (by omega)).trans BKl))
  clear BK2 HB2
  generalize hW3 : w2.alloc (.cells #[.int .u8 0, .int .u8 2, .int .u8 4, .int .u8 12, .int .u8 1, .int .u8 48, .int .u8 160] 61) = W3 at *
  have hpos2 : 0 < b.length := by omega
  go_region_held3 (fun w' => w'.cell? ad = some (.int .u8 48))
    (first
      | exact hxW.out _ (below_drew1 HB.out)
      | exact hxW.out _ HB4.out
      | exact hxW.out _ (below_set HB4.out (Nat.le_refl _))
      | assumption)
    ((go_at_call 44; refine Calls.mono (slices_Index_byte_byte.calls 20 _ 7 [0, 2, 4, 12, 1, 48, 160] 48 5 W3.drew ?g1 ?g2 hidx.out) ?_; (case g1 => exact hCl.out _ (below_drew1 (Below.refl _ _))); (case g2 => decide); rintro e w4 ⟨rfl, hd⟩; have HB4 := Aside0.mk (below_step (below_drew1 HB.out) hd.below); have BK4 := Aside0.mk (blk_below (blk_drew BK.out) hd.below); have z0 := (blk_cell BK4.out 0).trans rfl; have y0 := blk_frozen BK4.out 0; clear hd))
  simp only [Exit.then]
  have BK : Aside0 ((w4.setCell ⟨w.heap.size, 0, none⟩ (.int .i64 5)).heap[w.heap.size]? = some (.cells #[.int .i64 5, .int .i64 0, .string e0, .int .i64 0, .slice none 0 0] 24 (0, 0))) := Aside0.mk (blk_put BK4.out 0 (.int .i64 5) rfl)
  have HB := Aside0.mk (below_set (j := 0) (v := .int .i64 5) HB4.out (Nat.le_refl _))
  clear z0 y0 BK4 HB4
  generalize w4.setCell ⟨w.heap.size, 0, none⟩ (.int .i64 5) = W5 at *
  have hx5 := hxW.out _ HB.out
  have z0 : W5.cell? ⟨w.heap.size, 0, none⟩ = some (.int .i64 5) := (blk_cell BK.out 0).trans rfl
  have z1 : W5.cell? ⟨w.heap.size, 1, none⟩ = some (.int .i64 0) := (blk_cell BK.out 1).trans rfl
  have z2 : W5.cell? ⟨w.heap.size, 2, none⟩ = some (.string e0) := (blk_cell BK.out 2).trans rfl
  have z3 : W5.cell? ⟨w.heap.size, 3, none⟩ = some (.int .i64 0) := (blk_cell BK.out 3).trans rfl
  have z4 : W5.cell? ⟨w.heap.size, 4, none⟩ = some (.slice none 0 0) := (blk_cell BK.out 4).trans rfl
  have y0 := blk_frozen BK.out 0
  have y1 := blk_frozen BK.out 1
  have y2 := blk_frozen BK.out 2
  have y3 := blk_frozen BK.out 3
  have y4 := blk_frozen BK.out 4
  have hLw : wrap64 ((L : Int) - 1) = (M : Int) := by have := hM.out; have := hL2.out; unfold wrap64; omega
  have hLw2 : (L : Int) - 1 = (M : Int) := by have := hM.out; omega
  have hLw3 : wrap64 (M : Int) = (M : Int) := by have := hM.out; have := hL2.out; unfold wrap64; omega
  have hltg := Aside0.mk (blk_lt BK.out)
  cases q with
  | none =>
    go_wp2_with (go_at_call 47; go_loud (refine Calls.mono (kids_calls rdr M (by have := hL2.out; have := hM.out; omega) HR f cc hcb.out hcl.out none hkw.out A1 c1 w0 W5 hk1.out hc1.out (below_step hB0.out HB.out)) ?_); rintro e w6 hKR; have hb2 := hKR.2; have BK6 := Aside0.mk (blk_below BK.out hb2); have HB6 := Aside0.mk (below_step HB.out hb2); clear hb2; have x0 : w6.cell? ⟨w.heap.size, 0, none⟩ = some (.int .i64 5) := (blk_cell BK6.out 0).trans rfl; have x1 : w6.cell? ⟨w.heap.size, 1, none⟩ = some (.int .i64 0) := (blk_cell BK6.out 1).trans rfl; have x2 : w6.cell? ⟨w.heap.size, 2, none⟩ = some (.string e0) := (blk_cell BK6.out 2).trans rfl; have x3 : w6.cell? ⟨w.heap.size, 3, none⟩ = some (.int .i64 0) := (blk_cell BK6.out 3).trans rfl; have x4 : w6.cell? ⟨w.heap.size, 4, none⟩ = some (.slice none 0 0) := (blk_cell BK6.out 4).trans rfl; have v0 := blk_frozen BK6.out 0; have v1 := blk_frozen BK6.out 1; have v2 := blk_frozen BK6.out 2; have v3 := blk_frozen BK6.out 3; have v4 := blk_frozen BK6.out 4; have hKe := hKR.1; dsimp only at hKe; subst hKe; clear hKR)
    have BKX : Aside0 ((w6.setCell ⟨w.heap.size, 4, none⟩ (.slice none 0 0)).heap[w.heap.size]? = some (.cells #[.int .i64 5, .int .i64 0, .string e0, .int .i64 0, .slice none 0 0] 24 (0, 0))) := Aside0.mk (blk_put BK6.out 4 (.slice none 0 0) rfl)
    have HBX := Aside0.mk (below_set (j := 4) (v := .slice none 0 0) HB6.out (Nat.le_refl _))
    refine leaf BKX.out _ _ _ _ _ _ rfl ?_
    exact ⟨⟨_, _, _, _, _, _, _, rfl⟩, sets5_below HBX.out (Nat.le_refl _) _ _ _ _ _⟩
  | some ts =>
    go_wp2_with (go_at_call 47; go_loud (refine Calls.mono (kids_calls rdr M (by have := hL2.out; have := hM.out; omega) HR f cc hcb.out hcl.out (some ts) hkw.out A1 c1 w0 W5 hk1.out hc1.out (below_step hB0.out HB.out)) ?_); rintro e w6 hKR; have hb2 := hKR.2; have BK6 := Aside0.mk (blk_below BK.out hb2); have HB6 := Aside0.mk (below_step HB.out hb2); clear hb2; have x0 : w6.cell? ⟨w.heap.size, 0, none⟩ = some (.int .i64 5) := (blk_cell BK6.out 0).trans rfl; have x1 : w6.cell? ⟨w.heap.size, 1, none⟩ = some (.int .i64 0) := (blk_cell BK6.out 1).trans rfl; have x2 : w6.cell? ⟨w.heap.size, 2, none⟩ = some (.string e0) := (blk_cell BK6.out 2).trans rfl; have x3 : w6.cell? ⟨w.heap.size, 3, none⟩ = some (.int .i64 0) := (blk_cell BK6.out 3).trans rfl; have x4 : w6.cell? ⟨w.heap.size, 4, none⟩ = some (.slice none 0 0) := (blk_cell BK6.out 4).trans rfl; have v0 := blk_frozen BK6.out 0; have v1 := blk_frozen BK6.out 1; have v2 := blk_frozen BK6.out 2; have v3 := blk_frozen BK6.out 3; have v4 := blk_frozen BK6.out 4; obtain ⟨⟨v, hKe, hv⟩, _⟩ := hKR; subst hKe; obtain ⟨A4, c4, e4⟩ := Kd.R_slice hv; subst e4; have hv := Aside0.mk hv)
    have BKX : Aside0 ((w6.setCell ⟨w.heap.size, 4, none⟩ (.slice A4 ts.length c4)).heap[w.heap.size]? = some (.cells #[.int .i64 5, .int .i64 0, .string e0, .int .i64 0, .slice A4 ts.length c4] 24 (0, 0))) := Aside0.mk (blk_put BK6.out 4 (.slice A4 ts.length c4) rfl)
    have HBX := Aside0.mk (below_set (j := 4) (v := .slice A4 ts.length c4) HB6.out (Nat.le_refl _))
    refine leaf BKX.out _ _ _ _ _ _ rfl ?_
    exact ⟨⟨⟨_, A2, c2, rfl, R_sets5 (R_put hv.out hltg.out 4 _ HB.out.size) hltg.out HB.out.size, hc2.out, hk2.out⟩, hrb.out, hrl.out⟩, sets5_below HBX.out (Nat.le_refl _) _ _ _ _ _⟩
set_option maxHeartbeats 8000000 in
set_option maxRecDepth 100000 in
theorem read_tag (L : Nat) (hL : 0 < L) (hL2 : L < 1000000) (b cc rest : List Int) (hq : cutO b = some (some (cc, rest))) (hb : ∀ x ∈ b, 0 ≤ x ∧ x ≤ 255) (hbl : b.length ≤ 70368744177664) (x : Int) (hx0 : b.getD 0 0 = x) (i : Int) (gg : Int) (hgg : x - 160 = gg) (h1 : 160 ≤ x ∧ x ≤ 190) (hidx : Aside0 (slices_Index_byte_byte.f 20 [0, 2, 4, 12, 1, 48, 160] x = some i)) (rdr : List Int → Option (Option (S24 × List Int))) (M : Nat) (hM : Aside0 ((L : Int) = (M : Int) + 1)) (HR : PRead rdr M) (f : Nat) (q : Option (List S24)) (hkw : Aside0 (kidsWith rdr f cc [] = some q)) (A : Option Addr) (c : Nat) (w0 w : World) (hk : Kd.C (Kd.int .u8) w0 A b.length b) (hc : b.length ≤ c) (hB0 : Below w0.heap.size w0 w) :
    Calls Try.prog 31 #[.slice A b.length c, .int .i64 (L : Int)] w (ReadR w0 w (q.map fun ts => (⟨6, 0, e0, gg, ts⟩, rest))) := by
  have hu24 := Try.underlying24
  have hu61 := Try.underlying61
  obtain ⟨h2, hcb, hrb, hcl, hrl⟩ := cutO_sub hq
  dsimp only at hcb hrb hcl hrl
  replace hcb : Aside0 (∀ y ∈ cc, 0 ≤ y ∧ y ≤ 255) := Aside0.mk (fun y hy => hb y (hcb y hy))
  replace hrb : Aside0 (∀ y ∈ rest, 0 ≤ y ∧ y ≤ 255) := Aside0.mk (fun y hy => hb y (hrb y hy))
  replace hcl : Aside0 (cc.length ≤ 70368744177664) := Aside0.mk (by omega)
  replace hrl : Aside0 (rest.length ≤ 70368744177664) := Aside0.mk (by omega)
  obtain ⟨ad, e1, hx⟩ := Kd.at_int hk 0 (by omega) (by omega)
  subst e1
  have hpos : (0 : Int) < (b.length : Int) := by omega
  have e2 : rd b 0 = b.getD 0 0 := rfl
  rw [e2, hx0] at hx
  clear e2
  simp only [show (0 : Int).toNat = 0 from rfl] at hx
  replace hx : w0.cell? ad = some (.int .u8 x) := by simpa [Addr.add] using hx
  have hxW : Aside0 (∀ W, Below w.heap.size w W → W.cell? ad = some (.int .u8 x)) := Aside0.mk (fun W hW => ((below_step hB0 hW).cell (World.block_lt_of_cell? w0 _ hx)).trans hx)
  clear hx h2
  have hL1 : ((L : Int) == 0) = false := by simp; omega
  replace hk := Aside0.mk hk
  replace hb := Aside0.mk hb
  replace hbl := Aside0.mk hbl
  replace hc := Aside0.mk hc
  replace hB0 := Aside0.mk hB0
  replace hq := Aside0.mk hq
  replace hL := Aside0.mk hL
  replace hL2 := Aside0.mk hL2
  go_enter Try.func31, Try.ntmps31
  go_wp2_with (first
    | (go_at_call 35; refine Calls.mono (idents_calls w1) ?_; rintro e w2 ⟨rfl, hb2⟩; have BK2 := Aside0.mk (blk_below BK.out hb2); have HB2 := Aside0.mk (below_step HB.out hb2); clear hb2)
    | (go_at_call 43; refine Calls.mono (cut_calls b hb.out hbl.out (some (cc, rest)) hq.out (some ad) c w0 (w.alloc _) hk.out hc.out (below_alloc hB0.out _)) ?_; rintro e w1 ⟨⟨A1, c1, A2, c2, rfl, hc1, hc2, hk1, hk2⟩, hb2⟩; have BK := Aside0.mk (blk_below (blk_new w _) hb2); have HB := Aside0.mk (below_step (below_alloc (Below.refl _ _) _) hb2); clear hb2; replace hk1 := Aside0.mk hk1; replace hk2 := Aside0.mk hk2; replace hc1 := Aside0.mk hc1; replace hc2 := Aside0.mk hc2))
  clear BK HB
  have BKl := blk_new w2 (.cells #[.int .u8 0, .int .u8 2, .int .u8 4, .int .u8 12, .int .u8 1, .int .u8 48, .int .u8 160] 61)
  have BK := Aside0.mk (blk_alloc BK2.out (.cells #[.int .u8 0, .int .u8 2, .int .u8 4, .int .u8 12, .int .u8 1, .int .u8 48, .int .u8 160] 61))
  have HB := Aside0.mk (below_alloc HB2.out (.cells #[.int .u8 0, .int .u8 2, .int .u8 4, .int .u8 12, .int .u8 1, .int .u8 48, .int .u8 160] 61))
  have hCl : Aside0 (∀ W, Below (w2.heap.size + 1) (w2.alloc (.cells #[.int .u8 0, .int .u8 2, .int .u8 4, .int .u8 12, .int .u8 1, .int .u8 48, .int .u8 160] 61)) W → Kd.C (Kd.int .u8) W (some ⟨w2.heap.size, 0, none⟩) 7 [0, 2, 4, 12, 1, 48, 160]) := Aside0.mk (fun W hW => C_seven ((hW.block _ (by omega)).trans BKl))
  clear BK2 HB2
  generalize hW3 : w2.alloc (.cells #[.int .u8 0, .int .u8 2, .int .u8 4, .int .u8 12, .int .u8 1, .int .u8 48, .int .u8 160] 61) = W3 at *
  have hpos2 : 0 < b.length := by omega
  go_region_held3 (fun w' => w'.cell? ad = some (.int .u8 x))
    (first
      | exact hxW.out _ (below_drew1 HB.out)
      | exact hxW.out _ HB4.out
      | exact hxW.out _ (below_set HB4.out (Nat.le_refl _))
      | assumption)
    ((go_at_call 44; refine Calls.mono (slices_Index_byte_byte.calls 20 _ 7 [0, 2, 4, 12, 1, 48, 160] x i W3.drew ?g1 ?g2 hidx.out) ?_; (case g1 => exact hCl.out _ (below_drew1 (Below.refl _ _))); (case g2 => decide); rintro e w4 ⟨rfl, hd⟩; have HB4 := Aside0.mk (below_step (below_drew1 HB.out) hd.below); have BK4 := Aside0.mk (blk_below (blk_drew BK.out) hd.below); have z0 := (blk_cell BK4.out 0).trans rfl; have y0 := blk_frozen BK4.out 0; clear hd))
  simp only [Exit.then]
  have BK : Aside0 ((w4.setCell ⟨w.heap.size, 0, none⟩ (.int .i64 i)).heap[w.heap.size]? = some (.cells #[.int .i64 i, .int .i64 0, .string e0, .int .i64 0, .slice none 0 0] 24 (0, 0))) := Aside0.mk (blk_put BK4.out 0 (.int .i64 i) rfl)
  have HB := Aside0.mk (below_set (j := 0) (v := .int .i64 i) HB4.out (Nat.le_refl _))
  clear z0 y0 BK4 HB4
  generalize w4.setCell ⟨w.heap.size, 0, none⟩ (.int .i64 i) = W5 at *
  have hx5 := hxW.out _ HB.out
  have z0 : W5.cell? ⟨w.heap.size, 0, none⟩ = some (.int .i64 i) := (blk_cell BK.out 0).trans rfl
  have z1 : W5.cell? ⟨w.heap.size, 1, none⟩ = some (.int .i64 0) := (blk_cell BK.out 1).trans rfl
  have z2 : W5.cell? ⟨w.heap.size, 2, none⟩ = some (.string e0) := (blk_cell BK.out 2).trans rfl
  have z3 : W5.cell? ⟨w.heap.size, 3, none⟩ = some (.int .i64 0) := (blk_cell BK.out 3).trans rfl
  have z4 : W5.cell? ⟨w.heap.size, 4, none⟩ = some (.slice none 0 0) := (blk_cell BK.out 4).trans rfl
  have y0 := blk_frozen BK.out 0
  have y1 := blk_frozen BK.out 1
  have y2 := blk_frozen BK.out 2
  have y3 := blk_frozen BK.out 3
  have y4 := blk_frozen BK.out 4
  have d1 : decide (160 ≤ x) = true := by simp; omega
  have d2 : decide (x ≤ 190) = true := by simp; omega
  have hs4 : IntKind.u8.wrap (x - 160) = gg := by rw [IntKind.wrap_u8]; omega
  have hs1 : (x - 160) % 256 = gg := by omega
  have hs5 : IntKind.u8.wrap gg = gg := by rw [IntKind.wrap_u8]; omega
  have hs6 : gg % 256 = gg := by omega
  have hs2 : wrap64 gg = gg := by unfold wrap64; omega
  have hs3 : IntKind.i64.wrap gg = gg := (i64_w _).trans hs2
  go_wp2
  go_region_held3 (fun w' => w'.cell? ad = some (.int .u8 x))
    (first
      | exact hxW.out _ (below_drew1 HB.out)
      | exact hxW.out _ (below_set (below_drew1 HB.out) (Nat.le_refl _))
      | exact hxW.out _ (below_set (below_set (below_drew1 HB.out) (Nat.le_refl _)) (Nat.le_refl _))
      | assumption)
    (fail)
  all_goals (
    simp only [hs1, hs4, hgg, hs5, hs6, hs2, hs3, Exit.then]
    have BK7 : Aside0 (((W5.setCell ⟨w.heap.size, 0, none⟩ (.int .i64 6)).setCell ⟨w.heap.size, 3, none⟩ (.int .i64 (gg))).drew.heap[w.heap.size]? = some (.cells #[.int .i64 6, .int .i64 0, .string e0, .int .i64 (gg), .slice none 0 0] 24 (0, 0))) := Aside0.mk (blk_put (blk_put BK.out 0 (.int .i64 6) (cs' := #[.int .i64 6, .int .i64 0, .string e0, .int .i64 0, .slice none 0 0]) rfl) 3 (.int .i64 (gg)) rfl)
    have HB7 := Aside0.mk (below_drew1 (below_set (j := 3) (v := .int .i64 (gg)) (below_set (j := 0) (v := .int .i64 6) HB.out (Nat.le_refl _)) (Nat.le_refl _)))
    clear z0 z1 z2 z3 z4 y0 y1 y2 y3 y4 BK HB hx5
    generalize ((W5.setCell ⟨w.heap.size, 0, none⟩ (.int .i64 6)).setCell ⟨w.heap.size, 3, none⟩ (.int .i64 (gg))).drew = W7 at *
    have BK := BK7
    have HB := HB7
    clear BK7 HB7
    clear hs1 hs2 hs3 hs4 hs5 hs6 hgg
    have z0 : W7.cell? ⟨w.heap.size, 0, none⟩ = some (.int .i64 6) := (blk_cell BK.out 0).trans rfl
    have z1 : W7.cell? ⟨w.heap.size, 1, none⟩ = some (.int .i64 0) := (blk_cell BK.out 1).trans rfl
    have z2 : W7.cell? ⟨w.heap.size, 2, none⟩ = some (.string e0) := (blk_cell BK.out 2).trans rfl
    have z3 : W7.cell? ⟨w.heap.size, 3, none⟩ = some (.int .i64 gg) := (blk_cell BK.out 3).trans rfl
    have z4 : W7.cell? ⟨w.heap.size, 4, none⟩ = some (.slice none 0 0) := (blk_cell BK.out 4).trans rfl
    have y0 := blk_frozen BK.out 0
    have y1 := blk_frozen BK.out 1
    have y2 := blk_frozen BK.out 2
    have y3 := blk_frozen BK.out 3
    have y4 := blk_frozen BK.out 4
    have hLw : wrap64 ((L : Int) - 1) = (M : Int) := by have := hM.out; have := hL2.out; unfold wrap64; omega
    have hLw2 : (L : Int) - 1 = (M : Int) := by have := hM.out; omega
    have hLw3 : wrap64 (M : Int) = (M : Int) := by have := hM.out; have := hL2.out; unfold wrap64; omega
    have hltg := Aside0.mk (blk_lt BK.out)
    cases q with
    | none =>
      go_wp2_with (go_at_call 47; go_loud (refine Calls.mono (kids_calls rdr M (by have := hL2.out; have := hM.out; omega) HR f cc hcb.out hcl.out none hkw.out A1 c1 w0 W7 hk1.out hc1.out (below_step hB0.out HB.out)) ?_); rintro e w6 hKR; have hb2 := hKR.2; have BK6 := Aside0.mk (blk_below BK.out hb2); have HB6 := Aside0.mk (below_step HB.out hb2); clear hb2; have x0 : w6.cell? ⟨w.heap.size, 0, none⟩ = some (.int .i64 6) := (blk_cell BK6.out 0).trans rfl; have x1 : w6.cell? ⟨w.heap.size, 1, none⟩ = some (.int .i64 0) := (blk_cell BK6.out 1).trans rfl; have x2 : w6.cell? ⟨w.heap.size, 2, none⟩ = some (.string e0) := (blk_cell BK6.out 2).trans rfl; have x3 : w6.cell? ⟨w.heap.size, 3, none⟩ = some (.int .i64 gg) := (blk_cell BK6.out 3).trans rfl; have x4 : w6.cell? ⟨w.heap.size, 4, none⟩ = some (.slice none 0 0) := (blk_cell BK6.out 4).trans rfl; have v0 := blk_frozen BK6.out 0; have v1 := blk_frozen BK6.out 1; have v2 := blk_frozen BK6.out 2; have v3 := blk_frozen BK6.out 3; have v4 := blk_frozen BK6.out 4; have hKe := hKR.1; dsimp only at hKe; subst hKe; clear hKR)
      have BKX : Aside0 ((w6.setCell ⟨w.heap.size, 4, none⟩ (.slice none 0 0)).heap[w.heap.size]? = some (.cells #[.int .i64 6, .int .i64 0, .string e0, .int .i64 gg, .slice none 0 0] 24 (0, 0))) := Aside0.mk (blk_put BK6.out 4 (.slice none 0 0) rfl)
      have HBX := Aside0.mk (below_set (j := 4) (v := .slice none 0 0) HB6.out (Nat.le_refl _))
      refine leaf BKX.out _ _ _ _ _ _ rfl ?_
      exact ⟨⟨_, _, _, _, _, _, _, rfl⟩, sets5_below HBX.out (Nat.le_refl _) _ _ _ _ _⟩
    | some ts =>
      go_wp2_with (go_at_call 47; go_loud (refine Calls.mono (kids_calls rdr M (by have := hL2.out; have := hM.out; omega) HR f cc hcb.out hcl.out (some ts) hkw.out A1 c1 w0 W7 hk1.out hc1.out (below_step hB0.out HB.out)) ?_); rintro e w6 hKR; have hb2 := hKR.2; have BK6 := Aside0.mk (blk_below BK.out hb2); have HB6 := Aside0.mk (below_step HB.out hb2); clear hb2; have x0 : w6.cell? ⟨w.heap.size, 0, none⟩ = some (.int .i64 6) := (blk_cell BK6.out 0).trans rfl; have x1 : w6.cell? ⟨w.heap.size, 1, none⟩ = some (.int .i64 0) := (blk_cell BK6.out 1).trans rfl; have x2 : w6.cell? ⟨w.heap.size, 2, none⟩ = some (.string e0) := (blk_cell BK6.out 2).trans rfl; have x3 : w6.cell? ⟨w.heap.size, 3, none⟩ = some (.int .i64 gg) := (blk_cell BK6.out 3).trans rfl; have x4 : w6.cell? ⟨w.heap.size, 4, none⟩ = some (.slice none 0 0) := (blk_cell BK6.out 4).trans rfl; have v0 := blk_frozen BK6.out 0; have v1 := blk_frozen BK6.out 1; have v2 := blk_frozen BK6.out 2; have v3 := blk_frozen BK6.out 3; have v4 := blk_frozen BK6.out 4; obtain ⟨⟨v, hKe, hv⟩, _⟩ := hKR; subst hKe; obtain ⟨A4, c4, e4⟩ := Kd.R_slice hv; subst e4; have hv := Aside0.mk hv)
      have BKX : Aside0 ((w6.setCell ⟨w.heap.size, 4, none⟩ (.slice A4 ts.length c4)).heap[w.heap.size]? = some (.cells #[.int .i64 6, .int .i64 0, .string e0, .int .i64 gg, .slice A4 ts.length c4] 24 (0, 0))) := Aside0.mk (blk_put BK6.out 4 (.slice A4 ts.length c4) rfl)
      have HBX := Aside0.mk (below_set (j := 4) (v := .slice A4 ts.length c4) HB6.out (Nat.le_refl _))
      refine leaf BKX.out _ _ _ _ _ _ rfl ?_
      exact ⟨⟨⟨_, A2, c2, rfl, R_sets5 (R_put hv.out hltg.out 4 _ HB.out.size) hltg.out HB.out.size, hc2.out, hk2.out⟩, hrb.out, hrl.out⟩, sets5_below HBX.out (Nat.le_refl _) _ _ _ _ _⟩)
end Go.Proofs.Ytpphoifjhhidfaa.Der
