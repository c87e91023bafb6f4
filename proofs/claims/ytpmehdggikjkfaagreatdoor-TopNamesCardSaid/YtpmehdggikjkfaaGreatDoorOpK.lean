/- append: the runs. -/
import Derived.Test.YtpmehdggikjkfaaGreatDoorOpJ
import Derived.Laws.Append
namespace Go.Proofs.YtpmehdggikjkfaaGreatDoor.Rf
open Go
section
variable {P : Program} {W : World}
theorem join3 (a b : List Value) (Z : Array Value) : a.toArray ++ (b.toArray ++ Z) = (a ++ b).toArray ++ Z := by rw [← Array.append_assoc]; simp
/- append's room is enough -/
theorem append_in {ts : Array TypeId} {t u ty e : TypeId} {i : TypeInfo} {d : TypeDesc} {base : Option Addr} {sLen sCap n : Nat} {x : Value} {ws : List Value} {W' : World} (h0 : ts[0]? = some t) (h1 : ts[1]? = some u)
    (ht : P.underlying t = some (.slice e)) (hu : P.underlying u = some d) (hd : appKind d = .cells) (hi : P.info? e = some i)
    (hlen : (Builtin.lenOf x).run P W = .ok n W) (hf : (Builtin.firstCells i.size n x).run P W = .ok ws.toArray W) (hn : sLen + n ≤ sCap)
    (hst : match base with | some a => (storeCells (a.add (sLen * i.size)) ws).run P W = .ok () W' | none => W' = W) :
    (Builtin.append_ ts ty #[.slice base sLen sCap, x]).run P W = .ok (.slice base (sLen + n) sCap) W' := by
  cases base with
  | none =>
    subst hst
    cases d <;> first
      | (cases hd; done)
      | (simp [Builtin.append_, h0, h1, run_underlying ht, run_underlying hu, sizeOf, typeInfo, hi, hlen, hf, hn]; done)
  | some a =>
    cases d <;> first
      | (cases hd; done)
      | (simp [Builtin.append_, h0, h1, run_underlying ht, run_underlying hu, sizeOf, typeInfo, hi, hlen, hf, hn, hst]; done)
theorem append_out {ts : Array TypeId} {t u ty e : TypeId} {i : TypeInfo} {d : TypeDesc} {z : Value} {base : Option Addr} {sLen sCap n : Nat} {x : Value} {ws old : List Value} (h0 : ts[0]? = some t) (h1 : ts[1]? = some u)
    (ht : P.underlying t = some (.slice e)) (hu : P.underlying u = some d) (hd : appKind d = .cells) (hi : P.info? e = some i) (hz : i.zero = some z)
    (hlen : (Builtin.lenOf x).run P W = .ok n W) (hf : (Builtin.firstCells i.size n x).run P W.drew = .ok ws.toArray W.drew) (hfo : (Builtin.firstCells i.size sLen (.slice base sLen sCap)).run P W.drew = .ok old.toArray W.drew)
    (hn : sCap < sLen + n) (hb : (sLen + n) * i.bytes ≤ 16777216) (hb2 : sLen + n ≤ 16777216) :
    (Builtin.append_ ts ty #[.slice base sLen sCap, x]).run P W = .ok (.slice (some ⟨W.heap.size, 0, none⟩) (sLen + n) (grownCap W (sLen + n) sCap e))
      (W.drew.alloc (.cells ((old ++ ws).toArray ++ Builtin.zeroCells z.cells (grownCap W (sLen + n) sCap e - (sLen + n))) e)) := by
  have hn' : ¬ (sLen + n ≤ sCap) := by omega
  have h63' : ¬ (9223372036854775807 < ((sLen : Int) + (n : Int))) := by omega
  have hfit := growslice_fits (bytes := i.bytes) hn (by omega)
  have h48' : ¬ (281474976710656 < Builtin.nextslicecap (sLen + n) sCap * i.bytes) := by omega
  have hdr : ({ heap := W.heap, tape := W.tape, drawn := W.drawn + 1, os := W.os, output := W.output } : World) = W.drew := rfl
  rw [← join3]
  cases d <;> first
    | (cases hd; done)
    | (simp [Builtin.append_, h0, h1, run_underlying ht, run_underlying hu, sizeOf, typeInfo, zeroValue, hi, hz, hlen, hn', h63', h48', Question.forced, hdr, hf, hfo, newRow, grownCap]; done)
theorem appendz_out {ts : Array TypeId} {t u ty e : TypeId} {i : TypeInfo} {k k' : IntKind} {z : Value} {n : Nat} (h0 : ts[0]? = some t) (h1 : ts[1]? = some u)
    (ht : P.underlying t = some (.slice e)) (hu : P.underlying u = some (.int k)) (hi : P.info? e = some i) (hz : i.zero = some z) (hz2 : z.cells.size = i.size)
    (hn : 0 < n) (hb : n * i.bytes ≤ 16777216) (hb2 : n ≤ 16777216) :
    (Builtin.append_ ts ty #[.slice none 0 0, .int k' (n : Int)]).run P W = .ok (.slice (some ⟨W.heap.size, 0, none⟩) n (grownCap W n 0 e))
      (W.drew.alloc (.cells ((rep (asL z) n).toArray ++ Builtin.zeroCells z.cells (grownCap W n 0 e - n)) e)) := by
  have hn' : n ≠ 0 := by omega
  have h63' : ¬ (9223372036854775807 < (n : Int)) := by omega
  have hfit := growslice_fits (bytes := i.bytes) hn (by omega)
  have h48' : ¬ (281474976710656 < Builtin.nextslicecap n 0 * i.bytes) := by omega
  have hdr : ({ heap := W.heap, tape := W.tape, drawn := W.drawn + 1, os := W.os, output := W.output } : World) = W.drew := rfl
  have hw : IntKind.i64.wrap (n : Int) = (n : Int) := by rw [IntKind.wrap_i64]; omega
  have hneg : ¬ ((n : Int) < 0) := by omega
  have hbi : ¬ (281474976710656 < (n : Int) * (i.bytes : Int)) := by
    have : (n : Int) * (i.bytes : Int) ≤ 16777216 := by rw [← Int.natCast_mul]; exact Int.ofNat_le.2 hb
    omega
  have hzc : Builtin.zeroCells z.cells n = (rep (asL z) n).toArray := by rw [← cells_toList]; exact range_rep z.cells n
  by_cases hs : n * i.size = 0
  · have he : i.size = 0 := by rcases Nat.mul_eq_zero.1 hs with h | h <;> first | omega | exact h
    have hr : rep (asL z) n = [] := List.length_eq_zero_iff.1 (by rw [rep_length, ← cells_toList, Array.length_toList, hz2]; exact hs)
    simp [Builtin.append_, h0, h1, run_underlying ht, run_underlying hu, sizeOf, typeInfo, zeroValue, hi, hz, asInt, asIntOf, hw, hn', hneg, hbi, h63', h48', Question.forced, hdr, run_firstCells_none, newRow, grownCap, he, hr]
  · simp [Builtin.append_, h0, h1, run_underlying ht, run_underlying hu, sizeOf, typeInfo, zeroValue, hi, hz, asInt, asIntOf, hw, hn', hneg, hbi, h63', h48', Question.forced, hdr, run_firstCells_none, newRow, grownCap, hs, hzc]
end
end Go.Proofs.YtpmehdggikjkfaaGreatDoor.Rf
