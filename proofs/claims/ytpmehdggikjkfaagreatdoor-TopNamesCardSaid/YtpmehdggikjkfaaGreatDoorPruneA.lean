/- The look through a cache whose entries are all of later times: none is taken away. -/
import Derived.Test.YtpmehdggikjkfaaGreatDoorGiv
import Derived.Test.YtpmehdggikjkfaaGreatDoorProg
import Derived.Tactics
import Derived.Tactics2
import Derived.StillTactics
import Derived.Laws.AppendOwn
import Derived.Laws.Runes
import Derived.Laws.CopyRow
import Derived.Laws.Shifts
import Derived.Laws.Rows
import Derived.Laws.BitsLemmas
import Derived.Laws.Tables
import Derived.Laws.NewBlocks
import Derived.Laws.Unary
import Derived.Laws.Strings
import Derived.Laws.NewFold
import Derived.Laws.ShiftsVarLaws
import Derived.Laws.Bits
import Derived.Laws.Alloc2
import Derived.Laws.Bits128
import Derived.Laws.Strings2
import Derived.Laws.Wrap64
import Derived.Laws.ShiftsVar
import Derived.Laws.Closers25
import Derived.Laws.RangeString
import Derived.Laws.Concat
import Derived.Laws.Cells
import Derived.Laws.NewDeep
import Derived.Laws.Pointers
import Derived.Laws.StructEq
import Derived.Laws.Closers25b
import Derived.Laws.StandIn
import Derived.Laws.Bits64b
import Derived.Laws.LoneSync
import Derived.Laws.ByValue
import Derived.Laws.MathBits
import Derived.Laws.Externs
import Derived.Laws.BitsAll
import Derived.Laws.BitsAllLaws
import Derived.Laws.Bits64
import Derived.Laws.OwnMore
import Derived.Laws.Build
import Derived.Laws.ResultCell
import Derived.Laws.Entries
import Derived.Laws.Append
import Derived.Laws.RangeAny
import Derived.Laws.World
import Derived.Laws.Strings3
import Derived.Laws.Sem
import Derived.Laws.Slices
import Derived.Laws.MakeOwn
import Derived.Laws.Small
import Derived.Laws.BytesString
import Derived.Scope
import Derived.FnLit
import Derived.LoopTactic
import Derived.LoopN
import Derived.Laws.IdiomRangeMap
import Derived.KernelRfl
namespace Go.Proofs.YtpmehdggikjkfaaGreatDoor.Rf
open Go
def IterAt (w : World) (m ck : Nat) (w' : World) : Prop := ∃ (w1 : World) (seen : Array Nat), w1.Alike w ∧ w' = w1.alloc (.mapIter (some m) ck seen ck)
theorem len_map {m ck : Nat} {es : Array MapEntry} {w : World} (hm : w.heap[m]? = some (.map es ck)) : (Builtin.len_ #[155] 3 #[Value.map (some m)]).run Tryz.prog w = .ok (.int .i64 es.size) w := by
  simp [Builtin.len_, run_underlying Tryz.underlying155, getObj_run hm, goInt]
set_option maxRecDepth 1000000 in
theorem prune_walk (b o m : Nat) (n : Int) (es : Array MapEntry) (ck : Nat) (w : World) (hc : w.cell? ⟨b, o + 1, none⟩ = some (.map (some m))) (hm : w.heap[m]? = some (.map es ck)) (hb : ∀ x ∈ es.toList, x.born < ck) (hn : (es.toList.map (·.born)).Nodup)
    (hv : ∀ x ∈ es.toList, ∃ z, x.val = .int .i64 z ∧ n < z) :
    Calls Tryz.prog 175 #[.pointer (some ⟨b, o, none⟩), .int .i64 n] w fun e w' => e = .returned (.int .i64 0) ∧ w.heap.size ≤ w'.heap.size ∧ (∀ k, k < w.heap.size → w'.heap[k]? = w.heap[k]?) ∧ SameIO w w' := by
  have hrg := run_range_map (P := Tryz.prog) w 155 9 3 m es ck Tryz.underlying155 hm
  have hlen := len_map hm
  have hbs : b < w.heap.size := by
    rcases Nat.lt_or_ge b w.heap.size with h | h
    · exact h
    · simp [World.cell?, Array.getElem?_eq_none h] at hc
  have hms : m < w.heap.size := by
    rcases Nat.lt_or_ge m w.heap.size with h | h
    · exact h
    · simp [Array.getElem?_eq_none h] at hm
  go_enter Tryz.func175, Tryz.ntmps175
  go_wp2
  go_loopw [] (fun w' => IterAt w m ck w') (fun w' => (leftOf es (w'.iterSeen w.heap.size)).size)
  case atStart => exact ⟨w, #[], ⟨rfl, rfl, rfl⟩, rfl⟩
  case round =>
    obtain ⟨w1, seen, hal, rfl⟩ := hrel
    have hsz : w1.heap.size = w.heap.size := by rw [hal.1]
    have hb1 : w1.heap[m]? = some (.map es ck) := by rw [hal.1]; exact hm
    have law := run_next_map (P := Tryz.prog) w1 0 m ck ck seen es ck hb1 hb (Nat.le_refl _)
    rw [hsz] at law
    rcases law with ⟨h0, hrun⟩ | ⟨e, he, w2, hal2, hrun⟩
    · have hnx : ∀ ty, (Instr.next (.pointer (some ⟨w.heap.size, 0, none⟩)) false ty).run Tryz.prog (w1.alloc (.mapIter (some m) ck seen ck)) = _ := fun _ => hrun
      have hold : ∀ k, k < w.heap.size → (w1.alloc (.mapIter (some m) ck seen ck)).heap[k]? = w.heap[k]? := fun k hk => by rw [heap_alloc_old w1 _ (by omega), hal.1]
      have hc2 : (w1.alloc (.mapIter (some m) ck seen ck)).cell? ⟨b, o + 1, none⟩ = some (.map (some m)) := by
        rw [← hc]; exact World.cell?_of_block (w := w) (hold b hbs)
      have hlen2 := len_map (w := w1.alloc (.mapIter (some m) ck seen ck)) (by rw [hold m hms]; exact hm)
      go_wp2
      go_ret
      exact ⟨rfl, by rw [World.alloc]; simp [hsz], hold, hal.2.1, hal.2.2⟩
    · obtain ⟨z, hval, hlt⟩ := hv e (mem_left he).1
      rw [hval] at hrun
      have hnx : ∀ ty, (Instr.next (.pointer (some ⟨w.heap.size, 0, none⟩)) false ty).run Tryz.prog (w1.alloc (.mapIter (some m) ck seen ck)) = _ := fun _ => hrun
      have hsz2 : w2.heap.size = w.heap.size := by rw [hal2.1, hal.1]
      have hb2 : w2.heap[m]? = some (.map es ck) := by rw [hal2.1]; exact hb1
      have hen := run_entry_map (P := Tryz.prog) w2 m ck seen es ck e hb2 (mem_left he).1 hn
      rw [hsz2, hval] at hen
      have hal3 : w2.Alike w := ⟨hal2.1.trans hal.1, hal2.2.1.trans hal.2.1, hal2.2.2.trans hal.2.2⟩
      have hnle : ¬ z ≤ n := Int.not_le.2 hlt
      go_wp2
      go_roundw
      case rel => exact hal3
      case measure =>
        rw [← hsz2, World.iterSeen_alloc, hsz2, ← hsz, World.iterSeen_alloc]
        exact left_shrinks es seen e he
theorem pruneOk : PruneOk Tryz.prog 175 :=
  ⟨⟨_, Tryz.func175, by kernel_rfl, by kernel_rfl⟩, fun b o m n es ck w h1 h2 h3 h4 h5 => prune_walk b o m n es ck w h1 h2 h3 h4 h5⟩
end Go.Proofs.YtpmehdggikjkfaaGreatDoor.Rf
