/- SHA-1 as plain Lean: what a block makes of five words; the digest. No program in sight but the two small functions' printed forms. -/
import Derived.Test.YtijnmoceafcamaaGstepx1
import Derived.Test.YtijnmoceafcamaaGRotateLeft32x1
namespace Go.Proofs.Ytijnmoceafcamaa.Sha
open Go.RowKit

structure Five where
  a : Int
  b : Int
  c : Int
  d : Int
  e : Int

def rot (x n : Int) : Int := (GRotateLeft32.bits_RotateLeft32.f x n).getD 0
def stp (t b c d : Int) : Int × Int := (Gstep.sha_step.f t b c d).getD (0, 0)
theorem stp_some (t b c d : Int) : Gstep.sha_step.f t b c d = some (stp t b c d) := by
  unfold stp Gstep.sha_step.f
  split
  · rfl
  · split
    · rfl
    · split <;> rfl
theorem rot_some (x n : Int) (h : n = 1 ∨ n = 5 ∨ n = 30) : GRotateLeft32.bits_RotateLeft32.f x n = some (rot x n) := by
  unfold rot GRotateLeft32.bits_RotateLeft32.f
  rcases h with rfl | rfl | rfl <;> rfl

/-- Word t of a block. -/
def wd (p : List Int) (t : Nat) : Int := p.getD (4 * t) 0 * 16777216 + p.getD (4 * t + 1) 0 * 65536 + p.getD (4 * t + 2) 0 * 256 + p.getD (4 * t + 3) 0
def nextW (p W : List Int) (t : Nat) : Int :=
  if t < 16 then wd p t else rot (Go.bits .xor .u32 (Go.bits .xor .u32 (Go.bits .xor .u32 (W.getD (t - 3) 0) (W.getD (t - 8) 0)) (W.getD (t - 14) 0)) (W.getD (t - 16) 0)) 1
/-- The first t words, noughts behind. -/
def sched (p : List Int) : Nat → List Int
  | 0 => List.replicate 80 0
  | t + 1 => (sched p t).set t (nextW p (sched p t) t)
theorem sched_length (p : List Int) : ∀ t, (sched p t).length = 80
  | 0 => by simp [sched]
  | t + 1 => by simp [sched, sched_length p t]
def m32 (x : Int) : Int := x % 4294967296
def roundF (w : Int) (t : Nat) (s : Five) : Five :=
  ⟨m32 (m32 (m32 (m32 (rot s.a 5 + (stp t s.b s.c s.d).1) + s.e) + (stp t s.b s.c s.d).2) + w), s.a, rot s.b 30, s.c, s.d⟩
def rounds (W : List Int) (s : Five) : Nat → Five
  | 0 => s
  | t + 1 => roundF (W.getD t 0) t (rounds W s t)
def addF (s r : Five) : Five := ⟨m32 (s.a + r.a), m32 (s.b + r.b), m32 (s.c + r.c), m32 (s.d + r.d), m32 (s.e + r.e)⟩
def compress (s : Five) (p : List Int) : Five := addF s (rounds (sched p 80) s 80)
theorem sched_zero (p : List Int) : sched p 0 = List.replicate 80 0 := rfl
theorem sched_succ (p : List Int) (t : Nat) : sched p (t + 1) = (sched p t).set t (nextW p (sched p t) t) := rfl
theorem rounds_zero (W : List Int) (s : Five) : rounds W s 0 = s := rfl
theorem rounds_succ (W : List Int) (s : Five) (t : Nat) : rounds W s (t + 1) = roundF (W.getD t 0) t (rounds W s t) := rfl
attribute [irreducible] sched rounds
end Go.Proofs.Ytijnmoceafcamaa.Sha
