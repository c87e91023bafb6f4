/- der.cut. -/
import Derived.Test.YtpphoifjhhidfaaOr
import Derived.Test.YtpphoifjhhidfaaGreadx0
import Derived.ScopeJumps
import Derived.WalkMore
import Derived.Deep.RegionHeld3
namespace Go.Proofs.Ytpphoifjhhidfaa.Der
set_option linter.unusedVariables false
set_option linter.unusedSimpArgs false
open Go.RowKit
open Go.Proofs.YtpphoifjhhidfaaW.PrintWords
open Go.Proofs.YtpphoifjhhidfaaW.PrintLast
open Go.Proofs.YtpphoifjhhidfaaW.PrintMore
open Go.Proofs.Ytpphoifjhhidfaa.Gread (der_length.f der_length.calls bytes_Equal.f bytes_Equal.calls)
def numBE (s : List Int) : Int := s.foldl (fun n x => n * 256 + x) 0
def eqB (a b : List Int) : Bool := (strOfNums a).toList == (strOfNums b).toList
def cutEnd (n : Int) (r : List Int) : Option (List Int × List Int) := if n ≤ (r.length : Int) then some (r.take n.toNat, r.drop n.toNat) else none
def cutO (l : List Int) : Option (Option (List Int × List Int)) :=
  if l.length < 2 then some none
  else if l.getD 1 0 < 128 then some (cutEnd (l.getD 1 0) (l.drop 2))
  else if (l.length : Int) - 2 < l.getD 1 0 - 128 ∨ 3 < l.getD 1 0 - 128 then some none
  else (der_length.f 64 (numBE ((l.drop 2).take (l.getD 1 0 - 128).toNat))).bind fun q =>
    some (if eqB q ((l.take (2 + (l.getD 1 0 - 128).toNat)).drop 1) then cutEnd (numBE ((l.drop 2).take (l.getD 1 0 - 128).toNat)) ((l.drop 2).drop (l.getD 1 0 - 128).toNat) else none)
def CutR (w0 w : World) (r : Option (List Int × List Int)) (e : Ending) (w' : World) : Prop :=
  (match r with
   | none => e = .returned (.tuple #[.slice none 0 0, .slice none 0 0, .bool false])
   | some (x, y) => ∃ A1 c1 A2 c2, e = .returned (.tuple #[.slice A1 x.length c1, .slice A2 y.length c2, .bool true]) ∧ x.length ≤ c1 ∧ y.length ≤ c2 ∧ Kd.C (Kd.int .u8) w0 A1 x.length x ∧ Kd.C (Kd.int .u8) w0 A2 y.length y) ∧ Below w.heap.size w w'
theorem info5 : (Try.prog.info? 5).map (fun i => (i.zero, i.size, i.bytes)) = some (some (.int .u8 0), 1, 1) := by kernel_rfl
theorem slice_from (A : Option Addr) (n c : Nat) (j : Int) (h0 : 0 ≤ j) (hm : j ≤ n) :
    ∀ W : World, (Instr.slice 27 (.slice A n c) (some (.int .i64 j)) none none).run Try.prog W = .ok (.slice (if c = j.toNat then A else A.map (·.add (j.toNat * 1))) (n - j.toNat) (c - j.toNat)) W := by
  obtain ⟨i0, hi, hzz⟩ := Option.map_eq_some_iff.1 info5
  simp only [Prod.mk.injEq] at hzz
  exact cut_from 27 5 .i64 Try.underlying27 hi 1 hzz.2.1 A n c j h0 hm
theorem slice_to (A : Option Addr) (n c : Nat) (j : Int) (h0 : 0 ≤ j) (hm : j ≤ n) (hc : n ≤ c) :
    ∀ W : World, (Instr.slice 27 (.slice A n c) none (some (.int .i64 j)) none).run Try.prog W = .ok (.slice A j.toNat c) W := by
  obtain ⟨i0, hi, hzz⟩ := Option.map_eq_some_iff.1 info5
  exact cut_to 27 5 .i64 Try.underlying27 hi A n c j h0 hm hc
theorem slice_mid (A : Option Addr) (n c : Nat) (lo j : Int) (h0 : 0 ≤ lo) (h1 : lo ≤ j) (hm : j ≤ n) (hc : n ≤ c) :
    ∀ W : World, (Instr.slice 27 (.slice A n c) (some (.int .i64 lo)) (some (.int .i64 j)) none).run Try.prog W = .ok (.slice (if c = lo.toNat then A else A.map (·.add (lo.toNat * 1))) (j.toNat - lo.toNat) (c - lo.toNat)) W := by
  obtain ⟨i0, hi, hzz⟩ := Option.map_eq_some_iff.1 info5
  simp only [Prod.mk.injEq] at hzz
  exact cut_mid 27 5 .i64 .i64 Try.underlying27 hi 1 hzz.2.1 A n c lo j h0 h1 hm hc
theorem cuts {w : World} {A : Option Addr} {r : List Int} {c : Nat} (h : Kd.C (Kd.int .u8) w A r.length r) (hc : r.length ≤ c) (n : Int) (h0 : 0 ≤ n) (hn : n ≤ (r.length : Int)) :
    ∃ A2, (∀ W : World, (Instr.slice 27 (.slice A r.length c) none (some (.int .i64 n)) none).run Try.prog W = .ok (.slice A (r.take n.toNat).length c) W) ∧ (∀ W : World, (Instr.slice 27 (.slice A r.length c) (some (.int .i64 n)) none none).run Try.prog W = .ok (.slice A2 (r.drop n.toNat).length (c - n.toNat)) W) ∧ Kd.C (Kd.int .u8) w A (r.take n.toNat).length (r.take n.toNat) ∧ Kd.C (Kd.int .u8) w A2 (r.drop n.toNat).length (r.drop n.toNat) ∧ (r.take n.toNat).length ≤ c ∧ (r.drop n.toNat).length ≤ c - n.toNat := by
  have l1 : (r.take n.toNat).length = n.toNat := by rw [List.length_take]; omega
  have l2 : (r.drop n.toNat).length = r.length - n.toNat := List.length_drop
  refine ⟨_, ?_, ?_, Kd.C_take h (by omega), Kd.C_drop h (m := n.toNat) (by omega) hc, by omega, by omega⟩
  · rw [l1]; exact slice_to A _ c n h0 hn hc
  · rw [l2]; exact slice_from A _ c n h0 hn
theorem numBE_snoc (a : List Int) (x : Int) : numBE (a ++ [x]) = numBE a * 256 + x := by
  simp [numBE, List.foldl_append]
theorem numBE_bound : ∀ (n : Nat) (s : List Int), s.length = n → (∀ x ∈ s, 0 ≤ x ∧ x ≤ 255) → 0 ≤ numBE s ∧ numBE s < (256 : Int) ^ n := by
  intro n
  induction n with
  | zero =>
    intro s hs _
    obtain rfl : s = [] := List.length_eq_zero_iff.1 hs
    simp [numBE]
  | succ n ih =>
    intro s hs hb
    obtain ⟨a, x, rfl⟩ : ∃ a x, s = a ++ [x] := by
      rcases List.eq_nil_or_concat s with rfl | ⟨a, x, rfl⟩
      · simp at hs
      · exact ⟨a, x, by simp⟩
    have h1 := ih a (by simpa using hs) (fun y hy => hb y (by simp [hy]))
    have h2 := hb x (by simp)
    rw [numBE_snoc, Int.pow_succ]
    omega
theorem take_getD (p : List Int) (j : Nat) (h : j < p.length) : p.take (j + 1) = p.take j ++ [p.getD j 0] := by
  rw [List.take_add_one, show p[j]?.toList = [p.getD j 0] by simp [List.getD_eq_getElem?_getD, List.getElem?_eq_getElem h]]
def RelC (w : World) (p : List Int) (v5 v38 : Value) (W : World) : Prop := ∃ j : Nat, j ≤ p.length ∧ v5 = .int .i64 (numBE (p.take j)) ∧ v38 = .int .i64 j ∧ Below w.heap.size w W
theorem byte_take {l : List Int} {m : Nat} (h : ∀ x ∈ l, 0 ≤ x ∧ x ≤ 255) : ∀ x ∈ l.take m, 0 ≤ x ∧ x ≤ 255 := fun x hx => h x (List.mem_of_mem_take hx)
theorem cutm {w : World} {A : Option Addr} {r : List Int} {c : Nat} (h : Kd.C (Kd.int .u8) w A r.length r) (hc : r.length ≤ c) (n : Int) (h0 : 0 ≤ n) (hn : 2 + n ≤ (r.length : Int)) :
    ∃ A2, (∀ W : World, (Instr.slice 27 (.slice A r.length c) (some (.int .i64 1)) (some (.int .i64 (2 + n))) none).run Try.prog W = .ok (.slice A2 ((r.take (2 + n.toNat)).drop 1).length (c - 1)) W) ∧ Kd.C (Kd.int .u8) w A2 ((r.take (2 + n.toNat)).drop 1).length ((r.take (2 + n.toNat)).drop 1) ∧ ((r.take (2 + n.toNat)).drop 1).length ≤ c - 1 := by
  have l1 : ((r.take (2 + n.toNat)).drop 1).length = (2 + n).toNat - 1 := by rw [List.length_drop, List.length_take]; omega
  refine ⟨_, ?_, Kd.C_mid h (lo := 1) (hi := 2 + n.toNat) (by omega) (by omega) hc, by omega⟩
  rw [l1]; exact slice_mid A _ c 1 (2 + n) (by omega) (by omega) hn hc
theorem R_partC {w : World} {base : Nat} {v : Value} {r : List Int} (h : Kd.R (Kd.int .u8) 5 w base (fun _ => True) v r) : ∃ A c, v = .slice A r.length c ∧ r.length ≤ c ∧ Kd.C (Kd.int .u8) w A r.length r := by
  obtain ⟨A, c, rfl⟩ := Kd.R_slice h
  exact ⟨A, c, rfl, (Kd.R_reads' h).2.1, (Kd.R_reads' h).2.2⟩
set_option maxHeartbeats 4000000 in
set_option maxRecDepth 100000 in
theorem cut_calls (l : List Int) (hb : ∀ x ∈ l, 0 ≤ x ∧ x ≤ 255) (hl : l.length ≤ 70368744177664) (r : Option (List Int × List Int)) (hr : cutO l = some r) (A : Option Addr) (c : Nat) (w0 w : World) (hk : Kd.C (Kd.int .u8) w0 A l.length l) (hc : l.length ≤ c) (hB0 : Below w0.heap.size w0 w) :
    Calls Try.prog 43 #[.slice A l.length c] w (CutR w0 w r) := by
  replace hk := Aside0.mk hk
  replace hb := Aside0.mk hb
  replace hB0 := Aside0.mk hB0
  rw [cutO] at hr
  have hu27 := Try.underlying27
  go_enter Try.func43, Try.ntmps43
  go_wp2
  refine wp_scope_jumps 0 (fun a' w' => Aside0 (r = none) ∧ Aside0 (Below w.heap.size w w') ∧ a'.defers = [] ∧ a'.tmps.size = 67) (fun _ _ => 0) rfl ?_ ?_
  rotate_left
  · rintro ⟨tm, df⟩ w' ⟨h1, h2, h3, h4⟩
    dsimp only at h3 h4
    subst h3
    go_wp2
    show bodyPost Try.prog Try.f43 (CutR w0 w r) Exit.ret _ _
    go_ret3
    refine ⟨?_, h2.out⟩
    rw [h1.out]
    simp [h4, Array.getElem?_setIfInBounds, Array.getElem_setIfInBounds]
  by_cases h2 : l.length < 2
  · rw [if_pos h2] at hr
    have h2' : (l.length : Int) < 2 := by omega
    have hrn := Aside0.mk (Option.some.inj hr).symm
    clear hr
    go_wp2
    refine wp_goto ?_
    show (0 : Nat) = 0 ∧ Aside0 (r = none) ∧ Aside0 (Below w.heap.size w _) ∧ _ ∧ _
    exact ⟨rfl, hrn, ⟨Below.refl _ _⟩, rfl, rfl⟩
  rw [if_neg h2] at hr
  obtain ⟨ad, e1, hx⟩ := Kd.at_int hk.out 1 (by omega) (by omega)
  subst e1
  have hxb := hb.out _ (show rd l 1 ∈ l by show l.getD 1 0 ∈ l; rw [List.getD_eq_getElem?_getD, List.getElem?_eq_getElem (by omega)]; exact List.getElem_mem _)
  have e2 : rd l 1 = l.getD 1 0 := rfl
  rw [e2] at hx hxb
  clear e2
  obtain ⟨A2, hto, hfrom, hC1, hC2, hl1, hl2⟩ := cuts hk.out hc 2 (by omega) (by omega)
  clear hto hC1 hl1
  have hlen2 : (l.drop 2).length = l.length - 2 := List.length_drop
  simp only [show (2 : Int).toNat = 2 from rfl] at hfrom hC2 hl2
  generalize l.getD 1 0 = x at *
  generalize hrest : l.drop 2 = rest at *
  replace hC2 := Aside0.mk hC2
  have hwx : wrap64 x = x := by unfold wrap64; omega
  have h2' : ¬ ((l.length : Int) < 2) := by omega
  have hpos1 : (1 : Int) < (l.length : Int) := by omega
  simp only [show (1 : Int).toNat = 1 from rfl] at hx
  replace hx := (hB0.out.cell (World.block_lt_of_cell? w0 _ hx)).trans hx
  replace hx : w.cell? ⟨ad.block, ad.off + 1, none⟩ = some (.int .u8 x) := by simpa [Addr.add] using hx
  replace hlen2 := Aside0.mk hlen2
  have hwi : IntKind.i64.wrap x = x := (i64_w x).trans hwx
  by_cases hx1 : x < 128
  · rw [if_pos hx1] at hr
    have hx2 : ¬ (128 ≤ x) := by omega
    have hrr := Option.some.inj hr
    clear hr
    go_wp2
    go_region_held3 (fun w' => w'.cell? ⟨ad.block, ad.off + 1, none⟩ = some (.int .u8 x)) (first | exact hx | assumption) (fail)
    simp only [hwi, Exit.then]
    by_cases hx3 : x ≤ (rest.length : Int)
    · have hx4 : ¬ ((rest.length : Int) < x) := by omega
      rw [cutEnd, if_pos hx3] at hrr
      obtain ⟨A3, hto, hfrom, hC3, hC4, hl3, hl4⟩ := cuts hC2.out hl2 x (by omega) hx3
      replace hC3 := Aside0.mk hC3
      replace hC4 := Aside0.mk hC4
      replace hrr := Aside0.mk hrr
      generalize rest.take (x).toNat = p1 at *
      generalize rest.drop (x).toNat = p2 at *
      go_wp2
      go_region_held3 (fun w' => Aside0 True) (first | exact ⟨trivial⟩ | assumption) (fail)
      all_goals (
        go_wp2
        show bodyPost Try.prog Try.f43 (CutR w0 w r) Exit.ret _ _
        go_ret3
        rw [← hrr.out]
        exact ⟨⟨_, _, _, _, rfl, hl3, hl4, hC3.out, hC4.out⟩, by first | exact below_drew1 (below_drew1 (Below.refl _ _)) | exact below_drew1 (Below.refl _ _)⟩)
    · have hx4 : ((rest.length : Int) < x) := by omega
      rw [cutEnd, if_neg hx3] at hrr
      have hrn := Aside0.mk hrr.symm
      go_wp2
      refine wp_goto ?_
      show (0 : Nat) = 0 ∧ Aside0 (r = none) ∧ Aside0 (Below w.heap.size w _) ∧ _ ∧ _
      exact ⟨rfl, hrn, ⟨by first | exact below_drew1 (below_drew1 (Below.refl _ _)) | exact below_drew1 (Below.refl _ _)⟩, rfl, rfl⟩
  rw [if_neg hx1] at hr
  have hx2 : (128 ≤ x) := by omega
  rw [show (l.length : Int) - 2 = (rest.length : Int) by rw [hlen2.out]; omega] at hr
  obtain ⟨m, rfl⟩ : ∃ m : Int, x = m + 128 := ⟨x - 128, by omega⟩
  have hm : m + 128 - 128 = m := by omega
  rw [hm] at hr
  have hm0 : 0 ≤ m := by omega
  have hm1 : m ≤ 127 := by omega
  have hwm : wrap64 (m + 128 - 128) = m := by unfold wrap64; omega
  have hwm3 : wrap64 m = m := by unfold wrap64; omega
  have hx1' : decide (m + 128 < 128) = false := by simp; omega
  have hx2' : decide (128 ≤ m + 128) = true := by simp; omega
  by_cases hbad : (rest.length : Int) < m ∨ 3 < m
  · rw [if_pos hbad] at hr
    have hrn := Aside0.mk (Option.some.inj hr).symm
    clear hr
    replace hl2 := Aside0.mk hl2
    by_cases hbad1 : (rest.length : Int) < m
    · clear hbad
      have hd1 : decide ((rest.length : Int) < m) = true := by simpa using hbad1
      go_wp2
      go_region_held3 (fun w' => w'.cell? ⟨ad.block, ad.off + 1, none⟩ = some (.int .u8 (m + 128))) (first | exact hx | assumption) (fail)
      simp only [hwi, Exit.then]
      go_wp2
      refine wp_goto ?_
      show (0 : Nat) = 0 ∧ Aside0 (r = none) ∧ Aside0 (Below w.heap.size w _) ∧ _ ∧ _
      exact ⟨rfl, hrn, ⟨by first | exact below_drew1 (below_drew1 (Below.refl _ _)) | exact below_drew1 (Below.refl _ _)⟩, rfl, rfl⟩
    · have hd1 : decide ((rest.length : Int) < m) = false := by simpa using hbad1
      have hd2 : decide (3 < m) = true := by simp; omega
      clear hbad hbad1
      go_wp2
      go_region_held3 (fun w' => w'.cell? ⟨ad.block, ad.off + 1, none⟩ = some (.int .u8 (m + 128))) (first | exact hx | assumption) (fail)
      simp only [hwi, Exit.then]
      go_wp2
      refine wp_goto ?_
      show (0 : Nat) = 0 ∧ Aside0 (r = none) ∧ Aside0 (Below w.heap.size w _) ∧ _ ∧ _
      exact ⟨rfl, hrn, ⟨by first | exact below_drew1 (below_drew1 (Below.refl _ _)) | exact below_drew1 (Below.refl _ _)⟩, rfl, rfl⟩
  rw [if_neg hbad] at hr
  have hb1 : m ≤ (rest.length : Int) := by omega
  have hb2 : m ≤ 3 := by omega
  have hb3 : ¬ ((rest.length : Int) < m) := by omega
  have hb4 : ¬ (3 < m) := by omega
  clear hbad
  obtain ⟨q, hq, hr⟩ := Option.bind_eq_some_iff.mp hr
  have hrr := Option.some.inj hr
  clear hr
  obtain ⟨A3, hto, hfrom3, hC3, hC4, hl3, hl4⟩ := cuts hC2.out hl2 m hm0 hb1
  obtain ⟨A9, hmid, hC9, hle9⟩ := cutm hk.out hc m hm0 (by have := hlen2.out; omega)
  generalize (l.take (2 + m.toNat)).drop 1 = L9 at *
  replace hC9 := Aside0.mk hC9
  replace hle9 := Aside0.mk hle9
  have hlp : (rest.take m.toNat).length = m.toNat := by rw [List.length_take]; omega
  have hpb := byte_take (m := m.toNat) (show ∀ x ∈ rest, 0 ≤ x ∧ x ≤ 255 by rw [← hrest]; exact fun y hy => hb.out y (List.mem_of_mem_drop hy))
  generalize rest.take m.toNat = p1 at *
  generalize rest.drop m.toNat = p2 at *
  replace hC3 := Aside0.mk hC3
  replace hC4 := Aside0.mk hC4
  replace hpb := Aside0.mk hpb
  replace hq := Aside0.mk hq
  replace hrr := Aside0.mk hrr
  have hlp2 : (p1.length : Int) = m := by omega
  have hmid2 : wrap64 (2 + (p1.length : Int)) = 2 + m := by rw [hlp2]; unfold wrap64; omega
  have hd1 : decide ((rest.length : Int) < m) = false := by simpa using hb1
  have hd2 : decide (3 < m) = false := by simpa using hb2
  replace hl2 := Aside0.mk hl2
  replace hl3 := Aside0.mk hl3
  replace hl4 := Aside0.mk hl4
  replace hlp := Aside0.mk hlp
  replace hlp2 := Aside0.mk hlp2
  replace hm0 := Aside0.mk hm0
  clear hm1 hb1 hb3 hb4 hx1
  go_wp2
  go_region_held3 (fun w' => w'.cell? ⟨ad.block, ad.off + 1, none⟩ = some (.int .u8 (m + 128))) (first | exact hx | assumption) (fail)
  simp only [hwi, Exit.then]
  go_wp2
  go_region_held3 (fun w' => Aside0 True) (first | exact ⟨trivial⟩ | assumption) (fail)
  simp only [Exit.then]
  go_wp2
  go_loopw [5, 38] (RelC w p1) (fun _ v _ => (p1.length - intOf v).toNat)
  case atStart => exact ⟨0, by omega, rfl, rfl, by first | exact below_drew1 (below_drew1 (Below.refl _ _)) | exact below_drew1 (Below.refl _ _)⟩
  case round =>
    obtain ⟨j, hj, rfl, rfl, hbl⟩ := hrel
    replace hbl := Aside0.mk hbl
    by_cases hjl : (j : Int) < p1.length
    · obtain ⟨ad2, e2, hy⟩ := Kd.at_int hC3.out j (by omega) hjl
      subst e2
      replace hy := ((below_step hB0.out hbl.out).cell (World.block_lt_of_cell? w0 _ hy)).trans hy
      have hyb := hpb.out _ (show rd p1 j ∈ p1 by show p1.getD j 0 ∈ p1; rw [List.getD_eq_getElem?_getD, List.getElem?_eq_getElem (by omega)]; exact List.getElem_mem _)
      have e2 : rd p1 j = p1.getD j 0 := rfl
      rw [e2] at hy hyb
      clear e2
      simp only [Int.toNat_natCast] at hy
      have hst := take_getD p1 j (by omega)
      have hnb := numBE_bound j (p1.take j) (by rw [List.length_take]; omega) (byte_take hpb.out)
      have hnb2 : 0 ≤ numBE (p1.take j) ∧ numBE (p1.take j) < 65536 := by
        refine ⟨hnb.1, Int.lt_of_lt_of_le hnb.2 ?_⟩
        have : j = 0 ∨ j = 1 ∨ j = 2 := by have := hlp2.out; omega
        rcases this with rfl | rfl | rfl <;> decide
      clear hnb
      have hst2 : numBE (p1.take (j + 1)) = numBE (p1.take j) * 256 + p1.getD j 0 := by rw [hst, numBE_snoc]
      clear hst
      replace hst2 := Aside0.mk hst2
      generalize p1.getD j 0 = y at *
      generalize numBE (p1.take j) = nb at *
      go_wp2
      rw [or64 nb y (by omega), show wrap64 (nb * 256 + y) = nb * 256 + y by unfold wrap64; omega, show wrap64 ((j : Int) + 1) = (j : Int) + 1 by have := hlp2.out; unfold wrap64; omega]
      refine ⟨⟨j + 1, by omega, by rw [hst2.out], rfl, hbl.out⟩, ?_⟩
      simp only [intOf]; omega
    · obtain rfl : j = p1.length := by omega
      rw [List.take_length]
      have hnb := numBE_bound p1.length p1 rfl hpb.out
      have hnb2 : 0 ≤ numBE p1 ∧ numBE p1 < 16777216 := by
        refine ⟨hnb.1, Int.lt_of_lt_of_le hnb.2 ?_⟩
        have : p1.length = 0 ∨ p1.length = 1 ∨ p1.length = 2 ∨ p1.length = 3 := by have := hlp2.out; omega
        rcases this with h | h | h | h <;> rw [h] <;> decide
      clear hnb
      generalize numBE p1 = nv at *
      have hln : (p1.length : Int) = m := hlp2.out
      have hmi2 : wrap64 (2 + m) = 2 + m := by have := hm0.out; unfold wrap64; omega
      have hmi3 : IntKind.i64.wrap (2 + m) = 2 + m := (i64_w _).trans hmi2
      go_wp2
      replace hrr := hrr.out
      by_cases heq : eqB q L9 = true
      · rw [if_pos heq] at hrr
        replace hrr := Aside0.mk hrr
        go_region_held3 (fun w' => Aside0 True) (first | exact ⟨trivial⟩ | assumption)
          (first
            | (go_at_call 45; refine Calls.mono (bytes_Equal.calls Aq cq q A9 (c - 1) L9 (eqB q L9) w3 hCq.out hleq (Kd.C_below hC9.out (below_step hB0.out mb.out)) hle9.out rfl) ?_; rintro e w4 ⟨rfl, hd⟩; have mc := Aside0.mk (below_step mb.out hd.below); rw [heq]; clear hd)
            | (go_at_call 36; with_reducible refine Calls.mono (der_length.calls 64 _ q _ hq.out) ?_; rintro e w3 ⟨v, rfl, hR, hb⟩; obtain ⟨Aq, cq, rfl, hleq, hCq0⟩ := R_partC hR; have hCq := Aside0.mk hCq0; have mb := Aside0.mk (below_step (below_drew1 hbl.out) hb); clear hR hb hCq0))
        replace hrr := hrr.out
        by_cases hx3 : nv ≤ (p2.length : Int)
        · have hx4 : ¬ ((p2.length : Int) < nv) := by omega
          rw [cutEnd, if_pos hx3] at hrr
          obtain ⟨A5, hto5, hfrom5, hC5, hC6, hl5, hl6⟩ := cuts hC4.out hl4.out nv (by omega) hx3
          replace hC5 := Aside0.mk hC5
          replace hC6 := Aside0.mk hC6
          replace hrr := Aside0.mk hrr
          generalize p2.take (nv).toNat = p5 at *
          generalize p2.drop (nv).toNat = p6 at *
          go_wp2
          go_region_held3 (fun w' => Aside0 True) (first | exact ⟨trivial⟩ | assumption) (fail)
          all_goals (
            go_wp2
            show bodyPost Try.prog Try.f43 (CutR w0 w r) Exit.ret _ _
            go_ret3
            rw [← hrr.out]
            exact ⟨⟨_, _, _, _, rfl, hl5, hl6, hC5.out, hC6.out⟩, by first | exact mc.out | exact below_drew1 mc.out⟩)
        · have hx4 : ((p2.length : Int) < nv) := by omega
          rw [cutEnd, if_neg hx3] at hrr
          have hrn := Aside0.mk hrr.symm
          go_wp2
          refine wp_goto ?_
          show (0 : Nat) = 0 ∧ Aside0 (r = none) ∧ Aside0 (Below w.heap.size w _) ∧ _ ∧ _
          exact ⟨rfl, hrn, ⟨by first | exact mc.out | exact below_drew1 mc.out⟩, rfl, rfl⟩
      · rw [if_neg heq] at hrr
        have hrn := Aside0.mk hrr.symm
        replace heq : eqB q L9 = false := by simpa using heq
        go_region_held3 (fun w' => Aside0 True) (first | exact ⟨trivial⟩ | assumption)
          (first
            | (go_at_call 45; refine Calls.mono (bytes_Equal.calls Aq cq q A9 (c - 1) L9 (eqB q L9) w3 hCq.out hleq (Kd.C_below hC9.out (below_step hB0.out mb.out)) hle9.out rfl) ?_; rintro e w4 ⟨rfl, hd⟩; have mc := Aside0.mk (below_step mb.out hd.below); rw [heq]; clear hd)
            | (go_at_call 36; with_reducible refine Calls.mono (der_length.calls 64 _ q _ hq.out) ?_; rintro e w3 ⟨v, rfl, hR, hb⟩; obtain ⟨Aq, cq, rfl, hleq, hCq0⟩ := R_partC hR; have hCq := Aside0.mk hCq0; have mb := Aside0.mk (below_step (below_drew1 hbl.out) hb); clear hR hb hCq0))
        go_wp2
        refine wp_goto ?_
        show (0 : Nat) = 0 ∧ Aside0 (r = none) ∧ Aside0 (Below w.heap.size w _) ∧ _ ∧ _
        exact ⟨rfl, hrn, ⟨by first | exact mc.out | exact below_drew1 mc.out⟩, rfl, rfl⟩
end Go.Proofs.Ytpphoifjhhidfaa.Der
