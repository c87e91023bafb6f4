/- The law DerNumbers walked: what it calls answers as it does, so it answers true. -/
import Derived.Test.YtpphoifjhhidfaaTh4
import Derived.Test.YtpphoifjhhidfaaShown
namespace Go.Proofs.Ytpphoifjhhidfaa.Der
set_option linter.unusedVariables false
set_option linter.unusedSimpArgs false
open Go.RowKit
open Go.Proofs.YtpphoifjhhidfaaW.PrintWords
open Go.Proofs.YtpphoifjhhidfaaW.PrintLast
open Go.Proofs.YtpphoifjhhidfaaW.PrintMore
theorem blk_new3 (w : World) (o o' o'' : Obj) : (((w.alloc o).alloc o').alloc o'').heap[w.heap.size + 1 + 1]? = some o'' := by
  have h := heap_alloc_new ((w.alloc o).alloc o') o''
  rwa [World.size_alloc, World.size_alloc] at h
theorem R_blk3 {W : World} {base g : Nat} {x y z : Int} (h : W.heap[g]? = some (.cells #[.int .u8 x, .int .u8 y, .int .u8 z] 5 (0, 0))) (hb : base ≤ g) : Kd.R (Kd.int .u8) 5 W base (fun _ => True) (.slice (some ⟨g, 0, none⟩) 3 3) [x, y, z] := by
  refine ⟨fun _ _ => trivial, [.int .u8 x, .int .u8 y, .int .u8 z], ⟨rfl, .inr ⟨g, 3, _, rfl, hb, h, Nat.le_refl _, by decide, rfl, rfl⟩⟩, ?_⟩
  exact Kd.reps_scalar (enc := Value.int .u8) [x, y, z]
abbrev zNode : Obj := .cells #[.int .i64 0, .int .i64 0, .string e0, .int .i64 0, .slice none 0 0] 24
set_option maxHeartbeats 8000000 in
set_option maxRecDepth 100000 in
theorem numbers_walk (n L a : Int) (b b2 : List Int) (hbytes : bytesF ⟨1, n, e0, 0, []⟩ = some (b, 0)) (hof1 : ofF b = some (1, n, e0, 0, [], 0)) (hof2 : ofF b2 = some (0, 0, e0, 0, [], 2)) (hlen : (b.length : Int) = L + 2) (h1 : b.getD 1 0 = L) (hL : 1 ≤ L ∧ L ≤ 8) (hb2 : b2 = [2, L + 1, a] ++ b.drop 2) (ha : a = if n < 0 then 255 else 0) (w : World) :
    Calls Try.prog 5 #[.int .i64 n] w fun e w' => e = .returned (.bool true) ∧ Below w.heap.size w w' := by
  have hu24 := Try.underlying24
  have hu27 := Try.underlying27
  have hd1 : decide ((b.length : Int) < 3) = false := by simp; omega
  have hd2 : decide (10 < (b.length : Int)) = false := by simp; omega
  have hp1 : (1 : Int) < (b.length : Int) := by omega
  have hwL : wrap64 L = L := by unfold wrap64; omega
  have hwi : IntKind.i64.wrap L = L := (i64_w L).trans hwL
  have hwb : wrap64 ((b.length : Int) - 2) = L := by unfold wrap64; omega
  have hu8 : IntKind.u8.wrap (L + 1) = L + 1 := by rw [IntKind.wrap_u8]; omega
  have hu9 : (L + 1) % 256 = L + 1 := by omega
  replace hbytes := Aside0.mk hbytes
  replace hof1 := Aside0.mk hof1
  replace hof2 := Aside0.mk hof2
  replace hb2 := Aside0.mk hb2
  replace hlen := Aside0.mk hlen
  replace hL := Aside0.mk hL
  by_cases hn : n < 0
  · rw [if_pos hn] at ha
    subst ha
    go_enter Try.func5, Try.ntmps5
    go_wp2_with (first
      | (go_at_call 22; refine Calls.mono (of_of_f (some ad) c1 b 1 n e0 0 [] 0 w2 hC1.out hle1.out hof1.out) ?_; rintro e w3 ⟨v4, rfl, hv, hb⟩; obtain ⟨A4, c4, e4⟩ := Kd.R_slice hv; subst e4; have HB3 := Aside0.mk (below_step HB2.out hb); have hxW := Aside0.mk (fun W (hW : Below w3.heap.size w3 W) => ((below_step hb hW).cell (World.block_lt_of_cell? w2 _ hx)).trans hx); have hx3 := fun o => hxW.out (w3.alloc o) (below_alloc (Below.refl _ _) o); have hC3 := Aside0.mk (Kd.C_below hC1.out hb); clear hb hv)
      | (go_at_call 16; go_loud (refine Calls.mono (bytes_of_f ⟨1, n, e0, 0, []⟩ none 0 b 0 w1 (Kd.C_nil _ _) (by simp) hbytes.out) ?_); go_loud (rintro e w2 ⟨v, rfl, hR, hb⟩); go_loud (obtain ⟨A1, c1, rfl, hle1, hC1⟩ := R_part hR); go_loud (obtain ⟨ad, ea, hx⟩ := Kd.at_int hC1 1 (by omega) hp1); subst ea; go_loud (rw [show rd b 1 = L from h1] at hx); go_loud (simp only [show (1 : Int).toNat = 1 from rfl] at hx); go_loud (replace hx : w2.cell? ⟨ad.block, ad.off + 1, none⟩ = some (.int .u8 L) := by simpa [Addr.add] using hx); have HB2 := Aside0.mk (below_step HB1.out hb); replace hC1 := Aside0.mk hC1; replace hle1 := Aside0.mk hle1; clear hR hb)
      | (go_at_call 14; refine Calls.mono (shown_calls w) ?_; rintro e w1 ⟨rfl, hb⟩; have HB1 := Aside0.mk hb; clear hb))
    obtain ⟨A5, hto5, hfrom5, hC5a, hC5, hl5a, hl5⟩ := cuts hC3.out hle1.out 2 (by omega) (by have := hlen.out; have := hL.out; omega)
    clear hto5 hC5a hl5a
    simp only [show (2 : Int).toNat = 2 from rfl] at hfrom5 hC5 hl5
    have hb3 := hb2.out
    have hdl : (b.drop 2).length ≤ 8 := by rw [List.length_drop]; have := hlen.out; have := hL.out; omega
    replace hdl := Aside0.mk hdl
    generalize b.drop 2 = d5 at *
    replace hC5 := Aside0.mk hC5
    replace hl5 := Aside0.mk hl5
    have hb3' := Aside0.mk hb3
    clear hb3
    go_region_held3 (fun w' => w'.cell? ⟨ad.block, ad.off + 1, none⟩ = some (.int .u8 L))
      (first
        | with_reducible exact hxW.out _ (sets5_below HB7.out GX.out _ _ _ _ _)
        | with_reducible exact hxW.out _ (sets5_below (below_alloc HB7.out _) HB7.out.size _ _ _ _ _)
        | with_reducible exact hxW.out _ HB7.out
        | with_reducible exact hxW.out _ (below_alloc HB7.out _)
        | with_reducible exact hxW.out _ HB5.out
        | with_reducible exact hxW.out _ (below_alloc HB5.out _)
        | with_reducible exact hxW.out _ (below_drew1 (below_alloc (Below.refl _ _) _))
        | with_reducible exact hxW.out _ (below_drew1 (below_alloc (below_alloc (Below.refl _ _) _) _))
        | with_reducible exact hxW.out _ (below_drew1 (below_alloc (below_alloc (below_alloc (Below.refl _ _) _) _) _))
        | with_reducible assumption)
      (first
        | (go_at_call 22; refine Calls.mono (of_of_f A6 c6 b2 0 0 e0 0 [] 2 _ ?hc hle6.out hof2.out) ?_; (case hc => first | with_reducible exact hC6.out | with_reducible exact Kd.C_alloc hC6.out _); rintro e w6 ⟨v6, rfl, hv, hb⟩; obtain ⟨A7, c7, e7⟩ := Kd.R_slice hv; subst e7; (first | (have HB7 : Aside0 (Below w3.heap.size w3 w6) := (by with_reducible exact Aside0.mk (below_step HB5.out hb)); (first | (have BKX0 : w6.heap[w3.heap.size + 1]? = some _ := (by with_reducible exact blk_below BK9.out hb); have BKX : Aside0 (w6.heap[w3.heap.size + 1]? = some zNode) := Aside0.mk BKX0; clear BKX0; have GX : Aside0 (w3.heap.size ≤ w3.heap.size + 1) := Aside0.mk (by omega); have z0 : w6.cell? ⟨w3.heap.size + 1, 0, none⟩ = some (.int .i64 0) := (blk_cell BKX.out 0).trans rfl; have z1 : w6.cell? ⟨w3.heap.size + 1, 1, none⟩ = some (.int .i64 0) := (blk_cell BKX.out 1).trans rfl; have z2 : w6.cell? ⟨w3.heap.size + 1, 2, none⟩ = some (.string e0) := (blk_cell BKX.out 2).trans rfl; have z3 : w6.cell? ⟨w3.heap.size + 1, 3, none⟩ = some (.int .i64 0) := (blk_cell BKX.out 3).trans rfl; have z4 : w6.cell? ⟨w3.heap.size + 1, 4, none⟩ = some (.slice none 0 0) := (blk_cell BKX.out 4).trans rfl; have y0 : w6.frozen? ⟨w3.heap.size + 1, 0, none⟩ = false := blk_frozen BKX.out 0; have y1 : w6.frozen? ⟨w3.heap.size + 1, 1, none⟩ = false := blk_frozen BKX.out 1; have y2 : w6.frozen? ⟨w3.heap.size + 1, 2, none⟩ = false := blk_frozen BKX.out 2; have y3 : w6.frozen? ⟨w3.heap.size + 1, 3, none⟩ = false := blk_frozen BKX.out 3; have y4 : w6.frozen? ⟨w3.heap.size + 1, 4, none⟩ = false := blk_frozen BKX.out 4) | (have BKX0 : w6.heap[w3.heap.size + 1 + 1]? = some _ := (by with_reducible exact blk_below BK8.out hb); have BKX : Aside0 (w6.heap[w3.heap.size + 1 + 1]? = some zNode) := Aside0.mk BKX0; clear BKX0; have GX : Aside0 (w3.heap.size ≤ w3.heap.size + 1 + 1) := Aside0.mk (by omega); have z0 : w6.cell? ⟨w3.heap.size + 1 + 1, 0, none⟩ = some (.int .i64 0) := (blk_cell BKX.out 0).trans rfl; have z1 : w6.cell? ⟨w3.heap.size + 1 + 1, 1, none⟩ = some (.int .i64 0) := (blk_cell BKX.out 1).trans rfl; have z2 : w6.cell? ⟨w3.heap.size + 1 + 1, 2, none⟩ = some (.string e0) := (blk_cell BKX.out 2).trans rfl; have z3 : w6.cell? ⟨w3.heap.size + 1 + 1, 3, none⟩ = some (.int .i64 0) := (blk_cell BKX.out 3).trans rfl; have z4 : w6.cell? ⟨w3.heap.size + 1 + 1, 4, none⟩ = some (.slice none 0 0) := (blk_cell BKX.out 4).trans rfl; have y0 : w6.frozen? ⟨w3.heap.size + 1 + 1, 0, none⟩ = false := blk_frozen BKX.out 0; have y1 : w6.frozen? ⟨w3.heap.size + 1 + 1, 1, none⟩ = false := blk_frozen BKX.out 1; have y2 : w6.frozen? ⟨w3.heap.size + 1 + 1, 2, none⟩ = false := blk_frozen BKX.out 2; have y3 : w6.frozen? ⟨w3.heap.size + 1 + 1, 3, none⟩ = false := blk_frozen BKX.out 3; have y4 : w6.frozen? ⟨w3.heap.size + 1 + 1, 4, none⟩ = false := blk_frozen BKX.out 4) | skip)) | (have HB7 : Aside0 (Below w3.heap.size w3 w6) := (by with_reducible exact Aside0.mk (below_step (below_alloc HB5.out _) hb)); (have BKX0 : w6.heap[w5.heap.size]? = some _ := (by with_reducible exact blk_below (blk_new w5 _) hb); have BKX : Aside0 (w6.heap[w5.heap.size]? = some zNode) := Aside0.mk BKX0; clear BKX0; have GX : Aside0 (w3.heap.size ≤ w5.heap.size) := Aside0.mk (HB5.out.size); have z0 : w6.cell? ⟨w5.heap.size, 0, none⟩ = some (.int .i64 0) := (blk_cell BKX.out 0).trans rfl; have z1 : w6.cell? ⟨w5.heap.size, 1, none⟩ = some (.int .i64 0) := (blk_cell BKX.out 1).trans rfl; have z2 : w6.cell? ⟨w5.heap.size, 2, none⟩ = some (.string e0) := (blk_cell BKX.out 2).trans rfl; have z3 : w6.cell? ⟨w5.heap.size, 3, none⟩ = some (.int .i64 0) := (blk_cell BKX.out 3).trans rfl; have z4 : w6.cell? ⟨w5.heap.size, 4, none⟩ = some (.slice none 0 0) := (blk_cell BKX.out 4).trans rfl; have y0 : w6.frozen? ⟨w5.heap.size, 0, none⟩ = false := blk_frozen BKX.out 0; have y1 : w6.frozen? ⟨w5.heap.size, 1, none⟩ = false := blk_frozen BKX.out 1; have y2 : w6.frozen? ⟨w5.heap.size, 2, none⟩ = false := blk_frozen BKX.out 2; have y3 : w6.frozen? ⟨w5.heap.size, 3, none⟩ = false := blk_frozen BKX.out 3; have y4 : w6.frozen? ⟨w5.heap.size, 4, none⟩ = false := blk_frozen BKX.out 4))); clear hb hv)
        | (refine Kd.R_append_rows_step (o := ⟨some 66, _, _, _, _, _⟩) (Kd.int .u8) (w0 := w3) w3.heap.size (by rfl) (.tmp 63) (.tmp 65) 27 5 (.int .u8 0) 1 rfl Try.underlying27 info5 rfl (by decide) (by omega) _ [2, L + 1, 255] d5 A5 d5.length (c1 - 2) (fun _ => True) (fun _ => False) rfl rfl (R_blk3 ?bb ?bg) (Kd.C_below hC5.out ?bw) (fun x cs h => h) (fun _ h => h.elim) (fun _ _ => trivial) ?bx ?bs ?bl ?_; (try case bb => first | with_reducible exact blk_drew (blk_new3 w3 _ _ _) | with_reducible exact blk_drew (blk_alloc (blk_new2 w3 _ _) _) | with_reducible exact blk_drew (blk_new2 w3 _ _)); (try case bg => omega); (try case bw => first | with_reducible exact below_drew1 (below_alloc (below_alloc (below_alloc (Below.refl _ _) _) _) _) | with_reducible exact below_drew1 (below_alloc (below_alloc (Below.refl _ _) _) _)); (try case bx => first | with_reducible exact below_drew1 (below_alloc (below_alloc (below_alloc (Below.refl _ _) _) _) _) | with_reducible exact below_drew1 (below_alloc (below_alloc (Below.refl _ _) _) _)); (try case bs => (simp only [World.size_drew, World.size_alloc]; omega)); (try case bl => (have := hdl.out; simp; omega)); intro v1 w5 ho hb1 hg hat; rw [← hb3'.out] at ho; obtain ⟨A6, c6, e6, hle6, hC6⟩ := R_part ho; subst e6; have HB5 := Aside0.mk hb1; (try first | (have BK9 : Aside0 (w5.heap[w3.heap.size + 1]? = some zNode) := Aside0.mk ((hg.block (w3.heap.size + 1) (by simp only [World.size_drew, World.size_alloc]; omega) (fun h => absurd (show w3.heap.size + 1 = w3.heap.size + 1 + 1 from Option.some.inj h) (by omega))).trans (by with_reducible exact blk_drew (blk_alloc (blk_new2 w3 _ _) _))); have G9 : Aside0 (w3.heap.size ≤ w3.heap.size + 1) := Aside0.mk (by omega)) | (have BK8 : Aside0 (w5.heap[w3.heap.size + 1 + 1]? = some zNode) := Aside0.mk ((hg.block (w3.heap.size + 1 + 1) (by simp only [World.size_drew, World.size_alloc]; omega) (fun h => absurd (show w3.heap.size + 1 + 1 = w3.heap.size + 1 from Option.some.inj h) (by omega))).trans (by with_reducible exact blk_drew (blk_new3 w3 _ _ _))); have G9 : Aside0 (w3.heap.size ≤ w3.heap.size + 1 + 1) := Aside0.mk (by omega))); replace hle6 := Aside0.mk hle6; replace hC6 := Aside0.mk hC6; clear ho hb1 hg hat))
    all_goals (
      go_wp2
      go_ret
      refine ⟨rfl, below_step HB3.out ?_⟩
      first
        | with_reducible exact sets5_below HB7.out GX.out _ _ _ _ _
        | with_reducible exact below_alloc HB7.out _
        | exact below_alloc HB7.out _)
  · rw [if_neg hn] at ha
    subst ha
    go_enter Try.func5, Try.ntmps5
    go_wp2_with (first
      | (go_at_call 22; refine Calls.mono (of_of_f (some ad) c1 b 1 n e0 0 [] 0 w2 hC1.out hle1.out hof1.out) ?_; rintro e w3 ⟨v4, rfl, hv, hb⟩; obtain ⟨A4, c4, e4⟩ := Kd.R_slice hv; subst e4; have HB3 := Aside0.mk (below_step HB2.out hb); have hxW := Aside0.mk (fun W (hW : Below w3.heap.size w3 W) => ((below_step hb hW).cell (World.block_lt_of_cell? w2 _ hx)).trans hx); have hx3 := fun o => hxW.out (w3.alloc o) (below_alloc (Below.refl _ _) o); have hC3 := Aside0.mk (Kd.C_below hC1.out hb); clear hb hv)
      | (go_at_call 16; go_loud (refine Calls.mono (bytes_of_f ⟨1, n, e0, 0, []⟩ none 0 b 0 w1 (Kd.C_nil _ _) (by simp) hbytes.out) ?_); go_loud (rintro e w2 ⟨v, rfl, hR, hb⟩); go_loud (obtain ⟨A1, c1, rfl, hle1, hC1⟩ := R_part hR); go_loud (obtain ⟨ad, ea, hx⟩ := Kd.at_int hC1 1 (by omega) hp1); subst ea; go_loud (rw [show rd b 1 = L from h1] at hx); go_loud (simp only [show (1 : Int).toNat = 1 from rfl] at hx); go_loud (replace hx : w2.cell? ⟨ad.block, ad.off + 1, none⟩ = some (.int .u8 L) := by simpa [Addr.add] using hx); have HB2 := Aside0.mk (below_step HB1.out hb); replace hC1 := Aside0.mk hC1; replace hle1 := Aside0.mk hle1; clear hR hb)
      | (go_at_call 14; refine Calls.mono (shown_calls w) ?_; rintro e w1 ⟨rfl, hb⟩; have HB1 := Aside0.mk hb; clear hb))
    obtain ⟨A5, hto5, hfrom5, hC5a, hC5, hl5a, hl5⟩ := cuts hC3.out hle1.out 2 (by omega) (by have := hlen.out; have := hL.out; omega)
    clear hto5 hC5a hl5a
    simp only [show (2 : Int).toNat = 2 from rfl] at hfrom5 hC5 hl5
    have hb3 := hb2.out
    have hdl : (b.drop 2).length ≤ 8 := by rw [List.length_drop]; have := hlen.out; have := hL.out; omega
    replace hdl := Aside0.mk hdl
    generalize b.drop 2 = d5 at *
    replace hC5 := Aside0.mk hC5
    replace hl5 := Aside0.mk hl5
    have hb3' := Aside0.mk hb3
    clear hb3
    go_region_held3 (fun w' => w'.cell? ⟨ad.block, ad.off + 1, none⟩ = some (.int .u8 L))
      (first
        | with_reducible exact hxW.out _ (sets5_below HB7.out GX.out _ _ _ _ _)
        | with_reducible exact hxW.out _ (sets5_below (below_alloc HB7.out _) HB7.out.size _ _ _ _ _)
        | with_reducible exact hxW.out _ HB7.out
        | with_reducible exact hxW.out _ (below_alloc HB7.out _)
        | with_reducible exact hxW.out _ HB5.out
        | with_reducible exact hxW.out _ (below_alloc HB5.out _)
        | with_reducible exact hxW.out _ (below_drew1 (below_alloc (Below.refl _ _) _))
        | with_reducible exact hxW.out _ (below_drew1 (below_alloc (below_alloc (Below.refl _ _) _) _))
        | with_reducible exact hxW.out _ (below_drew1 (below_alloc (below_alloc (below_alloc (Below.refl _ _) _) _) _))
        | with_reducible assumption)
      (first
        | (go_at_call 22; refine Calls.mono (of_of_f A6 c6 b2 0 0 e0 0 [] 2 _ ?hc hle6.out hof2.out) ?_; (case hc => first | with_reducible exact hC6.out | with_reducible exact Kd.C_alloc hC6.out _); rintro e w6 ⟨v6, rfl, hv, hb⟩; obtain ⟨A7, c7, e7⟩ := Kd.R_slice hv; subst e7; (first | (have HB7 : Aside0 (Below w3.heap.size w3 w6) := (by with_reducible exact Aside0.mk (below_step HB5.out hb)); (first | (have BKX0 : w6.heap[w3.heap.size + 1]? = some _ := (by with_reducible exact blk_below BK9.out hb); have BKX : Aside0 (w6.heap[w3.heap.size + 1]? = some zNode) := Aside0.mk BKX0; clear BKX0; have GX : Aside0 (w3.heap.size ≤ w3.heap.size + 1) := Aside0.mk (by omega); have z0 : w6.cell? ⟨w3.heap.size + 1, 0, none⟩ = some (.int .i64 0) := (blk_cell BKX.out 0).trans rfl; have z1 : w6.cell? ⟨w3.heap.size + 1, 1, none⟩ = some (.int .i64 0) := (blk_cell BKX.out 1).trans rfl; have z2 : w6.cell? ⟨w3.heap.size + 1, 2, none⟩ = some (.string e0) := (blk_cell BKX.out 2).trans rfl; have z3 : w6.cell? ⟨w3.heap.size + 1, 3, none⟩ = some (.int .i64 0) := (blk_cell BKX.out 3).trans rfl; have z4 : w6.cell? ⟨w3.heap.size + 1, 4, none⟩ = some (.slice none 0 0) := (blk_cell BKX.out 4).trans rfl; have y0 : w6.frozen? ⟨w3.heap.size + 1, 0, none⟩ = false := blk_frozen BKX.out 0; have y1 : w6.frozen? ⟨w3.heap.size + 1, 1, none⟩ = false := blk_frozen BKX.out 1; have y2 : w6.frozen? ⟨w3.heap.size + 1, 2, none⟩ = false := blk_frozen BKX.out 2; have y3 : w6.frozen? ⟨w3.heap.size + 1, 3, none⟩ = false := blk_frozen BKX.out 3; have y4 : w6.frozen? ⟨w3.heap.size + 1, 4, none⟩ = false := blk_frozen BKX.out 4) | (have BKX0 : w6.heap[w3.heap.size + 1 + 1]? = some _ := (by with_reducible exact blk_below BK8.out hb); have BKX : Aside0 (w6.heap[w3.heap.size + 1 + 1]? = some zNode) := Aside0.mk BKX0; clear BKX0; have GX : Aside0 (w3.heap.size ≤ w3.heap.size + 1 + 1) := Aside0.mk (by omega); have z0 : w6.cell? ⟨w3.heap.size + 1 + 1, 0, none⟩ = some (.int .i64 0) := (blk_cell BKX.out 0).trans rfl; have z1 : w6.cell? ⟨w3.heap.size + 1 + 1, 1, none⟩ = some (.int .i64 0) := (blk_cell BKX.out 1).trans rfl; have z2 : w6.cell? ⟨w3.heap.size + 1 + 1, 2, none⟩ = some (.string e0) := (blk_cell BKX.out 2).trans rfl; have z3 : w6.cell? ⟨w3.heap.size + 1 + 1, 3, none⟩ = some (.int .i64 0) := (blk_cell BKX.out 3).trans rfl; have z4 : w6.cell? ⟨w3.heap.size + 1 + 1, 4, none⟩ = some (.slice none 0 0) := (blk_cell BKX.out 4).trans rfl; have y0 : w6.frozen? ⟨w3.heap.size + 1 + 1, 0, none⟩ = false := blk_frozen BKX.out 0; have y1 : w6.frozen? ⟨w3.heap.size + 1 + 1, 1, none⟩ = false := blk_frozen BKX.out 1; have y2 : w6.frozen? ⟨w3.heap.size + 1 + 1, 2, none⟩ = false := blk_frozen BKX.out 2; have y3 : w6.frozen? ⟨w3.heap.size + 1 + 1, 3, none⟩ = false := blk_frozen BKX.out 3; have y4 : w6.frozen? ⟨w3.heap.size + 1 + 1, 4, none⟩ = false := blk_frozen BKX.out 4) | skip)) | (have HB7 : Aside0 (Below w3.heap.size w3 w6) := (by with_reducible exact Aside0.mk (below_step (below_alloc HB5.out _) hb)); (have BKX0 : w6.heap[w5.heap.size]? = some _ := (by with_reducible exact blk_below (blk_new w5 _) hb); have BKX : Aside0 (w6.heap[w5.heap.size]? = some zNode) := Aside0.mk BKX0; clear BKX0; have GX : Aside0 (w3.heap.size ≤ w5.heap.size) := Aside0.mk (HB5.out.size); have z0 : w6.cell? ⟨w5.heap.size, 0, none⟩ = some (.int .i64 0) := (blk_cell BKX.out 0).trans rfl; have z1 : w6.cell? ⟨w5.heap.size, 1, none⟩ = some (.int .i64 0) := (blk_cell BKX.out 1).trans rfl; have z2 : w6.cell? ⟨w5.heap.size, 2, none⟩ = some (.string e0) := (blk_cell BKX.out 2).trans rfl; have z3 : w6.cell? ⟨w5.heap.size, 3, none⟩ = some (.int .i64 0) := (blk_cell BKX.out 3).trans rfl; have z4 : w6.cell? ⟨w5.heap.size, 4, none⟩ = some (.slice none 0 0) := (blk_cell BKX.out 4).trans rfl; have y0 : w6.frozen? ⟨w5.heap.size, 0, none⟩ = false := blk_frozen BKX.out 0; have y1 : w6.frozen? ⟨w5.heap.size, 1, none⟩ = false := blk_frozen BKX.out 1; have y2 : w6.frozen? ⟨w5.heap.size, 2, none⟩ = false := blk_frozen BKX.out 2; have y3 : w6.frozen? ⟨w5.heap.size, 3, none⟩ = false := blk_frozen BKX.out 3; have y4 : w6.frozen? ⟨w5.heap.size, 4, none⟩ = false := blk_frozen BKX.out 4))); clear hb hv)
        | (refine Kd.R_append_rows_step (o := ⟨some 66, _, _, _, _, _⟩) (Kd.int .u8) (w0 := w3) w3.heap.size (by rfl) (.tmp 63) (.tmp 65) 27 5 (.int .u8 0) 1 rfl Try.underlying27 info5 rfl (by decide) (by omega) _ [2, L + 1, 0] d5 A5 d5.length (c1 - 2) (fun _ => True) (fun _ => False) rfl rfl (R_blk3 ?bb ?bg) (Kd.C_below hC5.out ?bw) (fun x cs h => h) (fun _ h => h.elim) (fun _ _ => trivial) ?bx ?bs ?bl ?_; (try case bb => first | with_reducible exact blk_drew (blk_new3 w3 _ _ _) | with_reducible exact blk_drew (blk_alloc (blk_new2 w3 _ _) _) | with_reducible exact blk_drew (blk_new2 w3 _ _)); (try case bg => omega); (try case bw => first | with_reducible exact below_drew1 (below_alloc (below_alloc (below_alloc (Below.refl _ _) _) _) _) | with_reducible exact below_drew1 (below_alloc (below_alloc (Below.refl _ _) _) _)); (try case bx => first | with_reducible exact below_drew1 (below_alloc (below_alloc (below_alloc (Below.refl _ _) _) _) _) | with_reducible exact below_drew1 (below_alloc (below_alloc (Below.refl _ _) _) _)); (try case bs => (simp only [World.size_drew, World.size_alloc]; omega)); (try case bl => (have := hdl.out; simp; omega)); intro v1 w5 ho hb1 hg hat; rw [← hb3'.out] at ho; obtain ⟨A6, c6, e6, hle6, hC6⟩ := R_part ho; subst e6; have HB5 := Aside0.mk hb1; (try first | (have BK9 : Aside0 (w5.heap[w3.heap.size + 1]? = some zNode) := Aside0.mk ((hg.block (w3.heap.size + 1) (by simp only [World.size_drew, World.size_alloc]; omega) (fun h => absurd (show w3.heap.size + 1 = w3.heap.size + 1 + 1 from Option.some.inj h) (by omega))).trans (by with_reducible exact blk_drew (blk_alloc (blk_new2 w3 _ _) _))); have G9 : Aside0 (w3.heap.size ≤ w3.heap.size + 1) := Aside0.mk (by omega)) | (have BK8 : Aside0 (w5.heap[w3.heap.size + 1 + 1]? = some zNode) := Aside0.mk ((hg.block (w3.heap.size + 1 + 1) (by simp only [World.size_drew, World.size_alloc]; omega) (fun h => absurd (show w3.heap.size + 1 + 1 = w3.heap.size + 1 from Option.some.inj h) (by omega))).trans (by with_reducible exact blk_drew (blk_new3 w3 _ _ _))); have G9 : Aside0 (w3.heap.size ≤ w3.heap.size + 1 + 1) := Aside0.mk (by omega))); replace hle6 := Aside0.mk hle6; replace hC6 := Aside0.mk hC6; clear ho hb1 hg hat))
    all_goals (
      go_wp2
      go_ret
      refine ⟨rfl, below_step HB3.out ?_⟩
      first
        | with_reducible exact sets5_below HB7.out GX.out _ _ _ _ _
        | with_reducible exact below_alloc HB7.out _
        | exact below_alloc HB7.out _)
end Go.Proofs.Ytpphoifjhhidfaa.Der
