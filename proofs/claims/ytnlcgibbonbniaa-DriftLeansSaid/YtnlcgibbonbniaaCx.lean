/- Complex numbers and floats as plain pairs of words: what '+', '*', '==', real, imag, complex and the conversions give, as the walk may take them; a quarter turn. No condition. -/
import Derived.Test.YtnlcgibbonbniaaRows
import Derived.WalkKit
import Derived.WalkLawsBesides
import Derived.Test.YtnlcgibbonbniaaWFoot
namespace Go.Proofs.Ytnlcgibbonbniaa
open Go.RowKit

/-- A complex128: the words of its parts. -/
structure Cx where
  re : Nat
  im : Nat

@[go_sem] theorem Cx.eta (x : Cx) : Cx.mk x.re x.im = x := rfl

def caddOk (x y : Cx) : Bool := (cSumBits .add .f64 x.re x.im y.re y.im).isSome
def cadd (x y : Cx) : Cx := ⟨((cSumBits .add .f64 x.re x.im y.re y.im).getD (0, 0)).1, ((cSumBits .add .f64 x.re x.im y.re y.im).getD (0, 0)).2⟩
def cmulOk (x y : Cx) : Bool := (cMulBits x.re x.im y.re y.im).isSome
def cmul (x y : Cx) : Cx := ⟨((cMulBits x.re x.im y.re y.im).getD (0, 0)).1, ((cMulBits x.re x.im y.re y.im).getD (0, 0)).2⟩
def f2iOk (b : Nat) : Bool := (floatToIntVal .f64 b .i64).isSome
def f2i (b : Nat) : Int := (floatToIntVal .f64 b .i64).getD 0

section
variable (P : Program) (w : World) (a : Addr) (m : Mode)
@[go_sem] theorem run_store_complex (k : FloatKind) (x y : Nat) : (store a (.complex k x y) m).run P w = stored P w a (.complex k x y) m := run_store P w a _ m rfl
@[go_sem] theorem run_store_float (k : FloatKind) (x : Nat) : (store a (.float k x) m).run P w = stored P w a (.float k x) m := run_store P w a _ m rfl
end

section
variable {P : Program} (w : World)
@[go_sem] theorem run_cadd (t : TypeId) (a b c d : Nat) (h : caddOk ⟨a, b⟩ ⟨c, d⟩ = true) : (binOp .add t (.complex .f64 a b) (.complex .f64 c d)).run P w = .ok (.complex .f64 (cadd ⟨a, b⟩ ⟨c, d⟩).re (cadd ⟨a, b⟩ ⟨c, d⟩).im) w := by
  obtain ⟨⟨re, im⟩, e⟩ := Option.isSome_iff_exists.1 h
  have e' : cSumBits .add .f64 a b c d = some (re, im) := e
  rw [run_complex_sum w .add (.inl rfl) t .f64 a b c d re im e']
  simp [cadd, e']
@[go_sem] theorem run_cmul (t : TypeId) (a b c d : Nat) (h : cmulOk ⟨a, b⟩ ⟨c, d⟩ = true) : (binOp .mul t (.complex .f64 a b) (.complex .f64 c d)).run P w = .ok (.complex .f64 (cmul ⟨a, b⟩ ⟨c, d⟩).re (cmul ⟨a, b⟩ ⟨c, d⟩).im) w := by
  obtain ⟨⟨re, im⟩, e⟩ := Option.isSome_iff_exists.1 h
  have e' : cMulBits a b c d = some (re, im) := e
  rw [run_complex_mul w t a b c d re im e']
  simp [cmul, e']
@[go_sem] theorem unary_neg_float (k : FloatKind) (b : Nat) : Op.unary .neg (.float k b) = pure (.float k (Op.negFloat k b)) := rfl
end
@[go_sem] theorem conv_f2i (b : Nat) (w : World) (h : f2iOk b = true) : (convert 43 3 (.float .f64 b)).run Try.prog w = .ok (.int .i64 (f2i b)) w := by
  obtain ⟨n, e⟩ := Option.isSome_iff_exists.1 h
  rw [run_convert_float_int w 43 3 .f64 .i64 b n (by rw [Try.underlying43]; rfl) Try.underlying3 e]
  unfold f2i
  rw [e]; rfl
@[go_sem] theorem conv_i2f (n : Int) (w : World) : (convert 3 43 (.int .i64 n)).run Try.prog w = .ok (.float .f64 (floatOfInt .f64 n)) w :=
  run_convert_int_float w 3 43 .i64 .f64 n (by rw [Try.underlying3]; rfl) Try.underlying43

/-- A quarter turn's words. -/
def turn (k : Int) : Cx := if k % 4 = 0 then ⟨4607182418800017408, 0⟩ else if k % 4 = 1 then ⟨0, 4607182418800017408⟩ else if k % 4 = 2 then ⟨13830554455654793216, 0⟩ else ⟨0, 13830554455654793216⟩

theorem and_mask64 (x : Int) (i : Nat) (hi : i ≤ 62) : Go.bits .and .i64 x (2 ^ i - 1) = x % 2 ^ i := by
  have hpos : 0 < 2 ^ i := Nat.two_pow_pos i
  have hle : 2 ^ i ≤ 2 ^ 62 := Nat.pow_le_pow_right (by decide) hi
  have hc : ((2 : Int) ^ i - 1) = ((2 ^ i - 1 : Nat) : Int) := by
    rw [Int.natCast_sub hpos]; simp
  have hd : (2 : Int) ^ i ∣ 18446744073709551616 := ⟨2 ^ (64 - i), by rw [← Int.pow_add, show i + (64 - i) = 64 by omega]; rfl⟩
  rw [hc]
  show IntKind.i64.wrap (((BitVec.ofInt 64 x &&& BitVec.ofInt 64 ((2 ^ i - 1 : Nat) : Int)).toNat : Nat) : Int) = _
  rw [BitVec.toNat_and, BitVec.toNat_ofInt, BitVec.ofInt_natCast, BitVec.toNat_ofNat, Nat.mod_eq_of_lt (a := 2 ^ i - 1) (by omega), Nat.and_two_pow_sub_one_eq_mod]
  have e : (((x % ((2 ^ 64 : Nat) : Int)).toNat % 2 ^ i : Nat) : Int) = x % 2 ^ i := by
    rw [Int.natCast_emod, Int.toNat_of_nonneg (Int.emod_nonneg _ (by decide))]
    rw [show ((2 ^ 64 : Nat) : Int) = 18446744073709551616 from rfl]
    rw [show ((2 ^ i : Nat) : Int) = (2 : Int) ^ i by simp]
    exact Int.emod_emod_of_dvd _ hd
  rw [e, IntKind.wrap_i64]
  have h1 : 0 ≤ x % 2 ^ i := Int.emod_nonneg _ (by have : (0 : Int) < 2 ^ i := Int.pow_pos (by omega); omega)
  have h2 : x % 2 ^ i < 2 ^ i := Int.emod_lt_of_pos _ (Int.pow_pos (by omega))
  have h3 : (2 : Int) ^ i ≤ 2 ^ 62 := by exact_mod_cast hle
  omega
theorem mask2 (x : Int) : Go.bits .and .i64 x 3 = x % 4 := and_mask64 x 2 (by decide)
theorem mask16 (x : Int) : Go.bits .and .i64 x 65535 = x % 65536 := and_mask64 x 16 (by decide)
theorem mask10 (x : Int) : Go.bits .and .i64 x 1023 = x % 1024 := and_mask64 x 10 (by decide)

theorem quarters_calls (w : World) : Calls Try.prog 24 #[] w fun e w' => e = .returned (.agg #[.complex .f64 4607182418800017408 0, .complex .f64 0 4607182418800017408, .complex .f64 13830554455654793216 0, .complex .f64 0 13830554455654793216]) ∧ Below w.heap.size w w' := by
  go_enter Try.func24, Try.ntmps24
  go_wp2
  exact bodyPost_ret (v := .agg #[.complex .f64 4607182418800017408 0, .complex .f64 0 4607182418800017408, .complex .f64 13830554455654793216 0, .complex .f64 0 13830554455654793216]) (by simp [results, Try.results24, go_sem]) rfl ⟨rfl, (Below.refl _ _).alloc (Nat.le_refl _) _⟩

set_option maxHeartbeats 1000000 in
theorem turn_calls (k : Int) (w : World) : Calls Try.prog 16 #[.int .i64 k] w fun e w' => e = .returned (.complex .f64 (turn k).re (turn k).im) ∧ Below w.heap.size w w' := by
  have hm := mask2 k
  have h0 : 0 ≤ k % 4 := by omega
  have h4 : k % 4 < 4 := by omega
  have i0 : ∀ w, (Instr.index 53 (.agg #[.complex .f64 4607182418800017408 0, .complex .f64 0 4607182418800017408, .complex .f64 13830554455654793216 0, .complex .f64 0 13830554455654793216]) (.int .i64 0)).run Try.prog w = .ok (.complex .f64 4607182418800017408 0) w := fun _ => by kernel_rfl
  have i1 : ∀ w, (Instr.index 53 (.agg #[.complex .f64 4607182418800017408 0, .complex .f64 0 4607182418800017408, .complex .f64 13830554455654793216 0, .complex .f64 0 13830554455654793216]) (.int .i64 1)).run Try.prog w = .ok (.complex .f64 0 4607182418800017408) w := fun _ => by kernel_rfl
  have i2 : ∀ w, (Instr.index 53 (.agg #[.complex .f64 4607182418800017408 0, .complex .f64 0 4607182418800017408, .complex .f64 13830554455654793216 0, .complex .f64 0 13830554455654793216]) (.int .i64 2)).run Try.prog w = .ok (.complex .f64 13830554455654793216 0) w := fun _ => by kernel_rfl
  have i3 : ∀ w, (Instr.index 53 (.agg #[.complex .f64 4607182418800017408 0, .complex .f64 0 4607182418800017408, .complex .f64 13830554455654793216 0, .complex .f64 0 13830554455654793216]) (.int .i64 3)).run Try.prog w = .ok (.complex .f64 0 13830554455654793216) w := fun _ => by kernel_rfl
  have e : k % 4 = 0 ∨ k % 4 = 1 ∨ k % 4 = 2 ∨ k % 4 = 3 := by omega
  rcases e with e | e | e | e
  all_goals
    have ht : turn k = turn (k % 4) := by unfold turn; rw [Int.emod_emod_of_dvd _ (by decide)]
    rw [ht, e]
    rw [e] at hm
    clear h0 h4 e ht
    go_enter Try.func16, Try.ntmps16
    go_wp2_with (go_at_call 24; refine (quarters_calls _).mono ?_; rintro e w' ⟨rfl, hb⟩)
    go_ret
    exact ⟨rfl, hb⟩

@[go_sem] theorem field26_0 (x y : Nat) (n : Int) (w : World) : (Instr.field 26 (.agg #[.complex .f64 x y, .int .i64 n]) 0).run Try.prog w = .ok (.complex .f64 x y) w := by kernel_rfl
@[go_sem] theorem field26_1 (x y : Nat) (n : Int) (w : World) : (Instr.field 26 (.agg #[.complex .f64 x y, .int .i64 n]) 1).run Try.prog w = .ok (.int .i64 n) w := by kernel_rfl
@[go_sem] theorem field36_0 (m n : Int) (w : World) : (Instr.field 36 (.agg #[.int .i64 m, .int .i64 n]) 0).run Try.prog w = .ok (.int .i64 m) w := by kernel_rfl
@[go_sem] theorem field36_1 (m n : Int) (w : World) : (Instr.field 36 (.agg #[.int .i64 m, .int .i64 n]) 1).run Try.prog w = .ok (.int .i64 n) w := by kernel_rfl
open Go.Proofs.YtnlcgibbonbniaaW.PrintWords in
def kdCx : Kd Cx := Kd.scalar (fun x => Value.complex .f64 x.re x.im) (fun _ => rfl)
open Go.Proofs.YtnlcgibbonbniaaW.PrintWords in
def kdFl : Kd Nat := Kd.scalar (fun x => Value.float .f64 x) (fun _ => rfl)
open Go.Proofs.YtnlcgibbonbniaaW.PrintWords in
theorem kdCx_heap : Kd.Heap kdCx := ⟨fun _ h => h⟩
open Go.Proofs.YtnlcgibbonbniaaW.PrintWords in
theorem kdFl_heap : Kd.Heap kdFl := ⟨fun _ h => h⟩
end Go.Proofs.Ytnlcgibbonbniaa
