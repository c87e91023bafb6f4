/- der.read. -/
import Derived.Test.YtpphoifjhhidfaaKids
namespace Go.Proofs.Ytpphoifjhhidfaa.Der
set_option linter.unusedVariables false
set_option linter.unusedSimpArgs false
open Go.RowKit
open Go.Proofs.YtpphoifjhhidfaaW.PrintWords
open Go.Proofs.YtpphoifjhhidfaaW.PrintLast
open Go.Proofs.YtpphoifjhhidfaaW.PrintMore
open Go.Proofs.Ytpphoifjhhidfaa.Gread (der_length.f der_length.calls bytes_Equal.f bytes_Equal.calls der_number.f der_number.calls slices_Index_byte_byte.f slices_Index_byte_byte.calls)
abbrev e0 : ByteArray := ⟨#[]⟩
def valL : List Int → Int
  | [] => 0
  | x :: r => r.foldl (fun n y => wrap64 (n * 256 + y)) (if x < 128 then x else x - 256)
def bodyO (kids : List Int → Option (Option (List S24))) (x : Int) (c : List Int) : Option (Option S24) :=
  if x = 2 then (der_number.f 64 (valL c)).bind fun q => some (if eqB q c then some ⟨1, valL c, e0, 0, []⟩ else none)
  else if x = 1 then some (if c.length = 1 ∧ (c.getD 0 0 = 0 ∨ c.getD 0 0 = 255) then some ⟨4, c.getD 0 0 % 2, e0, 0, []⟩ else none)
  else if x = 4 then some (some ⟨2, 0, strOfNums c, 0, []⟩)
  else if x = 12 then some (if plainS (strOfNums c) then some ⟨3, 0, strOfNums c, 0, []⟩ else none)
  else if x = 48 then (kids c).bind fun r => some (r.map fun ts => ⟨5, 0, e0, 0, ts⟩)
  else if 160 ≤ x ∧ x ≤ 190 then (kids c).bind fun r => some (r.map fun ts => ⟨6, 0, e0, x - 160, ts⟩)
  else some none
def readO : Nat → List Int → Option (Option (S24 × List Int))
  | 0, b => (cutO b).bind fun _ => some none
  | l + 1, b => (cutO b).bind fun q => match q with
    | none => some none
    | some (c, rest) => (bodyO (fun c => kidsWith (readO l) (c.length + 1) c []) (b.getD 0 0) c).bind fun r => some (r.map fun t => (t, rest))
def idxL (x : Int) : Int := if x = 0 then 0 else if x = 2 then 1 else if x = 4 then 2 else if x = 12 then 3 else if x = 1 then 4 else if x = 48 then 5 else if x = 160 then 6 else -1
theorem idx_eq (x : Int) : slices_Index_byte_byte.f 20 [0, 2, 4, 12, 1, 48, 160] x = some (idxL x) := by
  unfold slices_Index_byte_byte.f idxL
  by_cases h0 : x = 0
  · subst h0; simp [Gread.slices_Index_byte_byte.l0, rd, wrap64]
  by_cases h1 : x = 2
  · subst h1; simp [Gread.slices_Index_byte_byte.l0, rd, wrap64]
  by_cases h2 : x = 4
  · subst h2; simp [Gread.slices_Index_byte_byte.l0, rd, wrap64]
  by_cases h3 : x = 12
  · subst h3; simp [Gread.slices_Index_byte_byte.l0, rd, wrap64]
  by_cases h4 : x = 1
  · subst h4; simp [Gread.slices_Index_byte_byte.l0, rd, wrap64]
  by_cases h5 : x = 48
  · subst h5; simp [Gread.slices_Index_byte_byte.l0, rd, wrap64]
  by_cases h6 : x = 160
  · subst h6; simp [Gread.slices_Index_byte_byte.l0, rd, wrap64]
  simp [Gread.slices_Index_byte_byte.l0, rd, wrap64, h0, h1, h2, h3, h4, h5, h6]
theorem results_read {fn : Func} {p u v : Tmp} (h : fn.results = #[.cell p 24, .tmp u, .tmp v]) (tmps : Array Value) (w : World) (g : Nat) (t : TypeId) (cs : Array Value) (fr : Nat × Nat)
    (hp : tmps.getD p undef = .pointer (some ⟨g, 0, none⟩)) (hg : w.heap[g]? = some (.cells cs t fr)) (hi : (Try.prog.info? 24).map (·.size) = some cs.size) :
    (results fn tmps).run Try.prog w = .ok (.tuple #[.agg cs, tmps.getD u undef, tmps.getD v undef]) w := by
  have hp' : tmps[p]?.getD undef = .pointer (some ⟨g, 0, none⟩) := by simpa using hp
  simp [results, h, hp', asAddr, run_loadVar_row w g t 24 cs fr _ hg Try.underlying24 rfl hi]
abbrev sets5 (W : World) (g : Nat) (u0 u1 u2 u3 u4 : Value) : World := ((((W.setCell ⟨g, 0, none⟩ u0).setCell ⟨g, 1, none⟩ u1).setCell ⟨g, 2, none⟩ u2).setCell ⟨g, 3, none⟩ u3).setCell ⟨g, 4, none⟩ u4
theorem sets5_blk {W : World} {g : Nat} {a0 a1 a2 a3 a4 : Value} (h : W.heap[g]? = some (.cells #[a0, a1, a2, a3, a4] 24 (0, 0))) (u0 u1 u2 u3 u4 : Value) : (sets5 W g u0 u1 u2 u3 u4).heap[g]? = some (.cells #[u0, u1, u2, u3, u4] 24 (0, 0)) :=
  blk_put (blk_put (blk_put (blk_put (blk_put h 0 u0 rfl) 1 u1 rfl) 2 u2 rfl) 3 u3 rfl) 4 u4 rfl
theorem sets5_below {w W : World} {g : Nat} (h : Below w.heap.size w W) (hg : w.heap.size ≤ g) (u0 u1 u2 u3 u4 : Value) : Below w.heap.size w (sets5 W g u0 u1 u2 u3 u4) :=
  below_set (below_set (below_set (below_set (below_set h hg) hg) hg) hg) hg
theorem leaf {W : World} {g : Nat} {a0 a1 a2 a3 a4 : Value} (h : W.heap[g]? = some (.cells #[a0, a1, a2, a3, a4] 24 (0, 0))) (u0 u1 u2 u3 u4 : Value) (tmps : Array Value) (hp : tmps.getD 4 undef = .pointer (some ⟨g, 0, none⟩)) {R : Ending → World → Prop} (hR : R (.returned (.tuple #[.agg #[u0, u1, u2, u3, u4], tmps.getD 5 undef, tmps.getD 6 undef])) (sets5 W g u0 u1 u2 u3 u4)) :
    bodyPost Try.prog Try.f31 R Exit.ret { tmps := tmps, defers := [] } (sets5 W g u0 u1 u2 u3 u4) :=
  bodyPost_ret (results_read rfl _ _ g 24 _ (0, 0) hp (sets5_blk h u0 u1 u2 u3 u4) (by kernel_rfl)) rfl hR
set_option maxHeartbeats 4000000 in
set_option maxRecDepth 100000 in
theorem read_bad (l : Nat) (b : List Int) (q : Option (List Int × List Int)) (hq : cutO b = some q) (hbad : q = none ∨ l = 0) (hb : ∀ x ∈ b, 0 ≤ x ∧ x ≤ 255) (hbl : b.length ≤ 70368744177664) (A : Option Addr) (c : Nat) (w0 w : World) (hk : Kd.C (Kd.int .u8) w0 A b.length b) (hc : b.length ≤ c) (hB0 : Below w0.heap.size w0 w) :
    Calls Try.prog 31 #[.slice A b.length c, .int .i64 (l : Int)] w (ReadR w0 w none) := by
  have hu24 := Try.underlying24
  replace hk := Aside0.mk hk
  replace hb := Aside0.mk hb
  replace hbl := Aside0.mk hbl
  replace hc := Aside0.mk hc
  replace hB0 := Aside0.mk hB0
  replace hq := Aside0.mk hq
  cases q with
  | none =>
    go_enter Try.func31, Try.ntmps31
    go_wp2_with (go_at_call 43; refine Calls.mono (cut_calls b hb.out hbl.out none hq.out A c w0 (w.alloc _) hk.out hc.out (below_alloc hB0.out _)) ?_; rintro e w1 ⟨rfl, hb2⟩; have BK := Aside0.mk (blk_below (blk_new w _) hb2); have HB := Aside0.mk (below_step (below_alloc (Below.refl _ _) _) hb2); clear hb2; have z0 := (blk_cell BK.out 0).trans rfl; have z1 := (blk_cell BK.out 1).trans rfl; have z2 := (blk_cell BK.out 2).trans rfl; have z3 := (blk_cell BK.out 3).trans rfl; have z4 := (blk_cell BK.out 4).trans rfl; have y0 := blk_frozen BK.out 0; have y1 := blk_frozen BK.out 1; have y2 := blk_frozen BK.out 2; have y3 := blk_frozen BK.out 3; have y4 := blk_frozen BK.out 4)
    refine leaf BK.out _ _ _ _ _ _ rfl ?_
    exact ⟨⟨_, _, _, _, _, _, _, rfl⟩, sets5_below HB.out (Nat.le_refl _) _ _ _ _ _⟩
  | some p =>
    obtain ⟨cc, rest⟩ := p
    have hl0 : l = 0 := by simpa using hbad
    subst hl0
    go_enter Try.func31, Try.ntmps31
    go_wp2_with (go_at_call 43; refine Calls.mono (cut_calls b hb.out hbl.out (some (cc, rest)) hq.out A c w0 (w.alloc _) hk.out hc.out (below_alloc hB0.out _)) ?_; rintro e w1 ⟨⟨A1, c1, A2, c2, rfl, hc1, hc2, hk1, hk2⟩, hb2⟩; have BK := Aside0.mk (blk_below (blk_new w _) hb2); have HB := Aside0.mk (below_step (below_alloc (Below.refl _ _) _) hb2); clear hb2; have z0 := (blk_cell BK.out 0).trans rfl; have z1 := (blk_cell BK.out 1).trans rfl; have z2 := (blk_cell BK.out 2).trans rfl; have z3 := (blk_cell BK.out 3).trans rfl; have z4 := (blk_cell BK.out 4).trans rfl; have y0 := blk_frozen BK.out 0; have y1 := blk_frozen BK.out 1; have y2 := blk_frozen BK.out 2; have y3 := blk_frozen BK.out 3; have y4 := blk_frozen BK.out 4)
    refine leaf BK.out _ _ _ _ _ _ rfl ?_
    exact ⟨⟨_, _, _, _, _, _, _, rfl⟩, sets5_below HB.out (Nat.le_refl _) _ _ _ _ _⟩
theorem R_put {w w' : World} {g B : Nat} {v : Value} {ts : List S24} {ok : Nat → Prop} (h : Kd.R k24 24 w' B ok v ts) (hg : g < B) (i : Nat) (u : Value) (_h : w.heap.size ≤ B) : Kd.R k24 24 (w'.setCell ⟨g, i, none⟩ u) B ok v ts :=
  Kd.R_mono (Kd.R_far (Kd.R_bound h) (fun k hk => by have := hk.2.1; show k ≠ g; omega) u) (fun _ hk => hk.1)
theorem R_sets5 {w w' : World} {g B : Nat} {v : Value} {ts : List S24} {ok : Nat → Prop} {u0 u1 u2 u3 u4 : Value} (h : Kd.R k24 24 w' B ok v ts) (hg : g < B) (hw : w.heap.size ≤ B) : Kd.R k24 24 (sets5 w' g u0 u1 u2 u3 u4) w.heap.size ok v ts :=
  Kd.R_lower (R_put (w := w) (R_put (w := w) (R_put (w := w) (R_put (w := w) (R_put (w := w) h hg 0 _ hw) hg 1 _ hw) hg 2 _ hw) hg 3 _ hw) hg 4 _ hw) hw
theorem C_seven {W : World} {B : Nat} (h : W.heap[B]? = some (.cells #[.int .u8 0, .int .u8 2, .int .u8 4, .int .u8 12, .int .u8 1, .int .u8 48, .int .u8 160] 61 (0, 0))) : Kd.C (Kd.int .u8) W (some ⟨B, 0, none⟩) 7 [0, 2, 4, 12, 1, 48, 160] := by
  refine Kd.C_of_reads (h1 := fun _ => rfl) (readsInt_of.1 ⟨rfl, by omega, fun _ => ⟨_, rfl, fun j hj => ?_⟩⟩)
  rcases j with _ | _ | _ | _ | _ | _ | _ | j
  all_goals first | exact (blk_cell h _).trans rfl | (exfalso; omega)
theorem cutEnd_sub {n : Int} {r : List Int} {p : List Int × List Int} (h : cutEnd n r = some p) : (∀ x ∈ p.1, x ∈ r) ∧ (∀ x ∈ p.2, x ∈ r) ∧ p.1.length ≤ r.length ∧ p.2.length ≤ r.length := by
  unfold cutEnd at h
  split at h
  · obtain rfl := Option.some.inj h
    exact ⟨fun x hx => List.mem_of_mem_take hx, fun x hx => List.mem_of_mem_drop hx, by rw [List.length_take]; omega, by rw [List.length_drop]; omega⟩
  · cases h
theorem cutO_sub {b : List Int} {p : List Int × List Int} (h : cutO b = some (some p)) : 2 ≤ b.length ∧ (∀ x ∈ p.1, x ∈ b) ∧ (∀ x ∈ p.2, x ∈ b) ∧ p.1.length ≤ b.length ∧ p.2.length ≤ b.length := by
  unfold cutO at h
  split at h
  · cases h
  · rename_i h2
    refine ⟨by omega, ?_⟩
    split at h
    · obtain ⟨a1, a2, a3, a4⟩ := cutEnd_sub (Option.some.inj h)
      rw [List.length_drop] at a3 a4
      exact ⟨fun x hx => List.mem_of_mem_drop (a1 x hx), fun x hx => List.mem_of_mem_drop (a2 x hx), by omega, by omega⟩
    · split at h
      · cases h
      · obtain ⟨q, _, h⟩ := Option.bind_eq_some_iff.mp h
        replace h := Option.some.inj h
        split at h
        · obtain ⟨a1, a2, a3, a4⟩ := cutEnd_sub h
          rw [List.length_drop, List.length_drop] at a3 a4
          exact ⟨fun x hx => List.mem_of_mem_drop (List.mem_of_mem_drop (a1 x hx)), fun x hx => List.mem_of_mem_drop (List.mem_of_mem_drop (a2 x hx)), by omega, by omega⟩
        · cases h
end Go.Proofs.Ytpphoifjhhidfaa.Der
