/- otp.Truncate and otp.Code: what they make of bytes. -/
import Derived.Test.YtijnmoceafcamaaMacEq
namespace Go.Proofs.Ytijnmoceafcamaa.Sha
set_option linter.unusedVariables false
set_option linter.unusedSimpArgs false
open Go.RowKit
open Go.Proofs.YtijnmoceafcamaaW.PrintWords Go.Proofs.YtijnmoceafcamaaW.PrintMore
def powF (d : Int) : Int := if d = 6 then 1000000 else if d = 7 then 10000000 else if d = 8 then 100000000 else 0
set_option maxHeartbeats 1000000 in
set_option maxRecDepth 100000 in
theorem powers_calls (d : Int) (w : World) : Calls Try.prog 60 #[.int .i64 d] w fun e w' => e = .returned (.int .i64 (powF d)) ∧ w' = w := by
  by_cases h6 : d < 6
  · have : powF d = 0 := by unfold powF; rw [if_neg (by omega), if_neg (by omega), if_neg (by omega)]
    rw [this]
    go_enter Try.func60, Try.ntmps60
    go_wp2
    go_ret
    exact ⟨rfl, rfl⟩
  · by_cases h8 : 8 < d
    · have : powF d = 0 := by unfold powF; rw [if_neg (by omega), if_neg (by omega), if_neg (by omega)]
      rw [this]
      go_enter Try.func60, Try.ntmps60
      go_wp2
      go_ret
      exact ⟨rfl, rfl⟩
    · have : d = 6 ∨ d = 7 ∨ d = 8 := by omega
      rcases this with rfl | rfl | rfl
      · have hix : ∀ w, (Instr.index 91 (.agg #[.int .i64 1000000, .int .i64 10000000, .int .i64 100000000]) (.int .i64 0)).run Try.prog w = .ok (.int .i64 1000000) w := by
          intro w
          kernel_rfl
        go_enter Try.func60, Try.ntmps60
        go_wp2
        go_ret
        exact ⟨rfl, rfl⟩
      · have hix : ∀ w, (Instr.index 91 (.agg #[.int .i64 1000000, .int .i64 10000000, .int .i64 100000000]) (.int .i64 1)).run Try.prog w = .ok (.int .i64 10000000) w := by
          intro w
          kernel_rfl
        go_enter Try.func60, Try.ntmps60
        go_wp2
        go_ret
        exact ⟨rfl, rfl⟩
      · have hix : ∀ w, (Instr.index 91 (.agg #[.int .i64 1000000, .int .i64 10000000, .int .i64 100000000]) (.int .i64 2)).run Try.prog w = .ok (.int .i64 100000000) w := by
          intro w
          kernel_rfl
        go_enter Try.func60, Try.ntmps60
        go_wp2
        go_ret
        exact ⟨rfl, rfl⟩
theorem and8_15 (x : Int) : ∃ a : Nat, Go.bits .and .u8 x 15 = a ∧ a ≤ 15 := by
  have e : Go.bits .and .u8 x 15 = IntKind.u8.wrap (((BitVec.ofInt 8 x &&& BitVec.ofInt 8 15).toNat : Nat) : Int) := rfl
  have h : (BitVec.ofInt 8 x &&& BitVec.ofInt 8 15).toNat ≤ 15 := by
    rw [BitVec.toNat_and]
    exact Nat.le_trans Nat.and_le_right (by decide)
  rw [e]
  refine ⟨(BitVec.ofInt 8 x &&& BitVec.ofInt 8 15).toNat, ?_, h⟩
  show ((_ : Nat) : Int) % 256 = _
  omega
def mix4 (xa xb xc xd : Int) : Int := Go.bits .or .i64 (Go.bits .or .i64 (Go.bits .or .i64 (wrap64 (wrap64 (Go.bits .and .u8 xa 127) * 16777216)) (wrap64 (wrap64 xb * 65536))) (wrap64 (wrap64 xc * 256))) (wrap64 xd)
def numF (s : List Int) : Int := mix4 (s.getD (Go.bits .and .u8 (s.getD 19 0) 15).toNat 0) (s.getD ((Go.bits .and .u8 (s.getD 19 0) 15).toNat + 1) 0) (s.getD ((Go.bits .and .u8 (s.getD 19 0) 15).toNat + 2) 0) (s.getD ((Go.bits .and .u8 (s.getD 19 0) 15).toNat + 3) 0)
/-- The code in a sum of twenty bytes, and 0; or 0 and 1. -/
def truncF (s : List Int) (d : Int) : Int × Int := if powF d = 0 then (0, 1) else (Int.tmod (numF s) (powF d), 0)
set_option maxHeartbeats 1000000 in
set_option maxRecDepth 100000 in
theorem truncate_calls (s : List Int) (O c : Nat) (d : Int) (w : World) (hO : w.heap[O]? = some (.cells (bcells s) 24 (0, 0))) (hl : s.length = 20) :
    Calls Try.prog 50 #[.slice (some ⟨O, 0, none⟩) 20 c, .int .i64 d] w fun e w' => e = .returned (.tuple #[.int .i64 (truncF s d).1, .int .i64 (truncF s d).2]) ∧ Below w.heap.size w w' := by
  unfold truncF
  have cell : Aside0 (∀ j, j < 20 → w.cell? ⟨O, j, none⟩ = some (.int .u8 (s.getD j 0))) := Aside0.mk (fun j hj => by rw [blk_cell hO]; simp [bcells, bytes, hj, hl])
  have c19 := cell.out 19 (by omega)
  obtain ⟨a, ha, ha15⟩ := and8_15 (s.getD 19 0)
  have hnum : numF s = mix4 (s.getD a 0) (s.getD (a + 1) 0) (s.getD (a + 2) 0) (s.getD (a + 3) 0) := by unfold numF; rw [ha, Int.toNat_natCast]
  rw [hnum]
  clear hnum
  have ca := cell.out a (by omega)
  have cb := cell.out (a + 1) (by omega)
  have cc := cell.out (a + 2) (by omega)
  have cd := cell.out (a + 3) (by omega)
  have haI : (a : Int) < 20 := by omega
  have e1 : IntKind.u8.wrap ((a : Int) + 1) = ((a + 1 : Nat) : Int) := by show ((a : Int) + 1) % 256 = _; omega
  have e2 : IntKind.u8.wrap ((a : Int) + 2) = ((a + 2 : Nat) : Int) := by show ((a : Int) + 2) % 256 = _; omega
  have e3 : IntKind.u8.wrap ((a : Int) + 3) = ((a + 3 : Nat) : Int) := by show ((a : Int) + 3) % 256 = _; omega
  have f1 : ((a + 1 : Nat) : Int) < 20 := by omega
  have f2 : ((a + 2 : Nat) : Int) < 20 := by omega
  have f3 : ((a + 3 : Nat) : Int) < 20 := by omega
  generalize s.getD 19 0 = x19 at *
  generalize s.getD a 0 = xa at *
  generalize s.getD (a + 1) 0 = xb at *
  generalize s.getD (a + 2) 0 = xc at *
  generalize s.getD (a + 3) 0 = xd at *
  clear hO
  generalize a + 1 = a1 at *
  generalize a + 2 = a2 at *
  generalize a + 3 = a3 at *
  clear ha15
  by_cases hp : powF d = 0
  · rw [if_pos hp]
    go_enter Try.func50, Try.ntmps50
    go_wp2_with (first
      | (go_at_call 60; refine (powers_calls d _).mono ?_; rintro e w1 ⟨rfl, h1⟩; subst h1))
    go_ret2
    exact ⟨rfl, Below.refl _ _⟩
  · rw [if_neg hp]
    go_enter Try.func50, Try.ntmps50
    go_wp2_with (first
      | (go_at_call 60; refine (powers_calls d _).mono ?_; rintro e w1 ⟨rfl, h1⟩; subst h1))
    refine wp_region_still_lit (by kernel_rfl) (by kernel_rfl) ?_
    repeat still_step
    refine wpStill_nil ?_
    go_wp2
    go_ret2
    exact ⟨rfl, below_drew (Below.refl _ _)⟩
theorem relCo_next0 {w W : World} {O : Nat} {c : Int} (i i1 : Int) (j : Nat) (h1 : i1 = i + 1) (hi : 0 ≤ i ∧ i < 8) (x : Int) (hO : W.heap[O]? = some (.cells (bcells ((be8 c).take i.toNat ++ List.replicate (8 - i.toNat) 0)) 77 (0, 0))) (hb : Below w.heap.size w W) (hw : w.heap.size ≤ O)
    (hx : (bcells ((be8 c).take i.toNat ++ List.replicate (8 - i.toNat) 0)).setIfInBounds j (.int .u8 x) = bcells ((be8 c).take i1.toNat ++ List.replicate (8 - i1.toNat) 0)) : ∃ k : Int, (0 ≤ k ∧ k ≤ 8) ∧ Value.int .i64 i1 = .int .i64 k ∧ (W.setCell ⟨O, j, none⟩ (.int .u8 x)).heap[O]? = some (.cells (bcells ((be8 c).take k.toNat ++ List.replicate (8 - k.toNat) 0)) 77 (0, 0)) ∧ Below w.heap.size w (W.setCell ⟨O, j, none⟩ (.int .u8 x)) :=
  ⟨i1, by omega, rfl, (blk_set hO j _).trans (by rw [hx]), below_set hb hw⟩
/-- The code of a key, a counter and digits. -/
def codeF (key : List Int) (c d : Int) : Int × Int := if key.length = 0 ∨ 64 < key.length ∨ c < 0 then (0, 1) else truncF (macF key (be8 c)) d
theorem zero77 (w : World) : (zeroValue 77).run Try.prog w = .ok (.agg (bcells (List.replicate 8 0))) w := by kernel_rfl
def RelCo (w : World) (O : Nat) (c : Int) (v : Value) (W : World) : Prop := ∃ i : Int, (0 ≤ i ∧ i ≤ 8) ∧ v = .int .i64 i ∧ W.heap[O]? = some (.cells (bcells ((be8 c).take i.toNat ++ List.replicate (8 - i.toNat) 0)) 77 (0, 0)) ∧ Below w.heap.size w W
set_option maxHeartbeats 2000000 in
set_option maxRecDepth 100000 in
theorem code_calls (A : Option Addr) (n cp : Nat) (key : List Int) (c d : Int) (w : World) (hn : key.length = n) (hr : ReadsB w A key) (hb : ∀ x ∈ key, 0 ≤ x ∧ x ≤ 255) (hn9 : n ≤ 1000000) (hc9 : c < 9223372036854775808) :
    Calls Try.prog 40 #[.slice A n cp, .int .i64 c, .int .i64 d] w fun e w' => e = .returned (.tuple #[.int .i64 (codeF key c d).1, .int .i64 (codeF key c d).2]) ∧ Below w.heap.size w w' := by
  have hz := zero77
  by_cases hbad : key.length = 0 ∨ 64 < key.length ∨ c < 0
  · unfold codeF
    rw [if_pos hbad]
    rw [hn] at hbad
    by_cases h0 : (n : Int) = 0
    · go_enter Try.func40, Try.ntmps40
      go_wp2
      go_ret2
      exact ⟨rfl, Below.refl _ _⟩
    · by_cases h64 : 64 < (n : Int)
      · go_enter Try.func40, Try.ntmps40
        go_wp2
        go_ret2
        exact ⟨rfl, Below.refl _ _⟩
      · have hc : c < 0 := by omega
        go_enter Try.func40, Try.ntmps40
        go_wp2
        go_ret2
        exact ⟨rfl, Below.refl _ _⟩
  · unfold codeF
    rw [if_neg hbad]
    rw [hn] at hbad
    have h0 : ¬ (n : Int) = 0 := by omega
    have h64 : ¬ 64 < (n : Int) := by omega
    have hc0 : ¬ c < 0 := by omega
    clear hbad
    replace hn := Aside0.mk hn
    replace hr := Aside0.mk hr
    replace hb := Aside0.mk hb
    go_enter Try.func40, Try.ntmps40
    go_wp2_with ((with_reducible refine gate_dst (N := 8) rfl ?_); refine box_event rfl (N := 8) rfl (cs := bcells (List.replicate 8 0)) (t := 77) ?hr ?_; (case hr => first | (go_simp; done) | (go_simp; rfl)); intro O hO0 w1 hbox0 hb10; have hO := Aside0.mk hO0; have hbox := Aside0.mk hbox0; have hb1 := Aside0.mk hb10; clear hO0 hbox0 hb10)
    have hw0 : Aside0 (w.heap.size ≤ O) := Aside0.mk (by rw [hO.out]; exact Nat.le_refl _)
    go_loopw [23] (RelCo w O c) (fun v _ => (8 - intOf v).toNat)
    case atStart => exact ⟨0, by decide, rfl, hbox.out, hb1.out⟩
    case round =>
      obtain ⟨i, hi, rfl, hO8, hb8⟩ := hrel
      have co : ∀ j, wr.cell? ⟨O, j, none⟩ = (bcells ((be8 c).take i.toNat ++ List.replicate (8 - i.toNat) 0))[j]? := fun j => blk_cell hO8 j
      have fo : Aside0 (∀ j, wr.frozen? ⟨O, j, none⟩ = false) := Aside0.mk fun j => blk_frozen hO8 j
      have hO8' := Aside0.mk hO8
      have hb8' := Aside0.mk hb8
      clear hO8 hb8
      by_cases h8 : i < 8
      · have hi4 : i = 0 ∨ i = 1 ∨ i = 2 ∨ i = 3 ∨ i = 4 ∨ i = 5 ∨ i = 6 ∨ i = 7 := by omega
        clear hi h8
        rcases hi4 with rfl | rfl | rfl | rfl | rfl | rfl | rfl | rfl
        · have ox : wr.cell? ⟨O, 0, none⟩ = some (.int .u8 0) := (co 0).trans rfl
          have fx : wr.frozen? ⟨O, 0, none⟩ = false := fo.out 0
          have hx := Aside0.mk (relCo_next0 0 1 0 (by decide) (by decide) (c / 72057594037927936 % 256) hO8'.out hb8'.out hw0.out rfl)
          clear co
          go_wp2
          have h := hx.out
          rw [show c / 72057594037927936 % 256 = c / 72057594037927936 by omega] at h
          exact ⟨h, by simp [intOf]⟩
        · have ox : wr.cell? ⟨O, 1, none⟩ = some (.int .u8 0) := (co 1).trans rfl
          have fx : wr.frozen? ⟨O, 1, none⟩ = false := fo.out 1
          have hx := Aside0.mk (relCo_next0 1 2 1 (by decide) (by decide) (c / 281474976710656 % 256) hO8'.out hb8'.out hw0.out rfl)
          clear co
          go_wp2
          exact ⟨hx.out, by simp [intOf]⟩
        · have ox : wr.cell? ⟨O, 2, none⟩ = some (.int .u8 0) := (co 2).trans rfl
          have fx : wr.frozen? ⟨O, 2, none⟩ = false := fo.out 2
          have hx := Aside0.mk (relCo_next0 2 3 2 (by decide) (by decide) (c / 1099511627776 % 256) hO8'.out hb8'.out hw0.out rfl)
          clear co
          go_wp2
          exact ⟨hx.out, by simp [intOf]⟩
        · have ox : wr.cell? ⟨O, 3, none⟩ = some (.int .u8 0) := (co 3).trans rfl
          have fx : wr.frozen? ⟨O, 3, none⟩ = false := fo.out 3
          have hx := Aside0.mk (relCo_next0 3 4 3 (by decide) (by decide) (c / 4294967296 % 256) hO8'.out hb8'.out hw0.out rfl)
          clear co
          go_wp2
          exact ⟨hx.out, by simp [intOf]⟩
        · have ox : wr.cell? ⟨O, 4, none⟩ = some (.int .u8 0) := (co 4).trans rfl
          have fx : wr.frozen? ⟨O, 4, none⟩ = false := fo.out 4
          have hx := Aside0.mk (relCo_next0 4 5 4 (by decide) (by decide) (c / 16777216 % 256) hO8'.out hb8'.out hw0.out rfl)
          clear co
          go_wp2
          exact ⟨hx.out, by simp [intOf]⟩
        · have ox : wr.cell? ⟨O, 5, none⟩ = some (.int .u8 0) := (co 5).trans rfl
          have fx : wr.frozen? ⟨O, 5, none⟩ = false := fo.out 5
          have hx := Aside0.mk (relCo_next0 5 6 5 (by decide) (by decide) (c / 65536 % 256) hO8'.out hb8'.out hw0.out rfl)
          clear co
          go_wp2
          exact ⟨hx.out, by simp [intOf]⟩
        · have ox : wr.cell? ⟨O, 6, none⟩ = some (.int .u8 0) := (co 6).trans rfl
          have fx : wr.frozen? ⟨O, 6, none⟩ = false := fo.out 6
          have hx := Aside0.mk (relCo_next0 6 7 6 (by decide) (by decide) (c / 256 % 256) hO8'.out hb8'.out hw0.out rfl)
          clear co
          go_wp2
          exact ⟨hx.out, by simp [intOf]⟩
        · have ox : wr.cell? ⟨O, 7, none⟩ = some (.int .u8 0) := (co 7).trans rfl
          have fx : wr.frozen? ⟨O, 7, none⟩ = false := fo.out 7
          have hx := Aside0.mk (relCo_next0 7 8 7 (by decide) (by decide) (c % 256) hO8'.out hb8'.out hw0.out rfl)
          clear co
          go_wp2
          exact ⟨hx.out, by simp [intOf]⟩
      · obtain rfl : i = 8 := by omega
        have hM : (be8 c).take (8 : Int).toNat ++ List.replicate (8 - (8 : Int).toNat) 0 = be8 c := rfl
        rw [hM] at hO8' co
        clear co h8 hi
        have hMb : Aside0 (∀ x ∈ be8 c, 0 ≤ x ∧ x ≤ 255) := Aside0.mk (by
          intro x hx
          simp only [be8, List.mem_cons, List.not_mem_nil, or_false] at hx
          omega)
        have hMr : Aside0 (ReadsB wr (some ⟨O, 0, none⟩) (be8 c)) := Aside0.mk (fun _ => ⟨_, rfl, fun j hj => by
          rw [Addr.add_lit, Nat.zero_add, blk_cell hO8'.out]
          simp [bcells, bytes, hj]⟩)
        have hMl : Aside0 ((be8 c).length = 8) := Aside0.mk rfl
        have hrr := Aside0.mk (hr.out.below hb8'.out)
        generalize hMe : be8 c = M at *
        replace hMe := Aside0.mk hMe
        have hS := Aside0.mk (Owns.start wr)
        go_wp2_with (first
          | (go_at_call 50; have hq := k3.out; refine (truncate_calls (digest (macP key M)) S 20 d _ (hq.ok 0 _ rfl) (digest_len _)).mono ?_; rintro e w4 ⟨rfl, h⟩; have k4 := Aside0.mk (hq.stay (Keeps.of_below h _)); clear h hq)
          | (refine store24 k2.out 0 rfl rfl _ _ rfl _ rfl rfl (by simp) (digest_len _) ?_; intro x3 h; have k3 : Aside0 (Owns wr x3 [boxR S (digest (macP key M))]) := Aside0.mk h; clear h)
          | (refine alloc24 k1.out rfl rfl ?_; intro S x2 h; have k2 := Aside0.mk h; clear h)
          | (go_at_call 30; refine (own_mac hS.out key M hn.out hrr.out hb.out hMl.out hMr.out hMb.out (by omega) (by decide) _ rfl).mono ?_; rintro e x1 ⟨rfl, h⟩; have k1 := Aside0.mk h; clear h))
        go_ret2
        have hMe2 := hMe.out
        subst hMe2
        exact ⟨rfl, below_step hb8'.out k4.out.below⟩
end Go.Proofs.Ytijnmoceafcamaa.Sha
