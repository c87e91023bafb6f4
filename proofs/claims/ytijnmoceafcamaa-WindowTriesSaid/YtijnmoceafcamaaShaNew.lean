/- sha.New and (*sha.Hash).Clone. -/
import Derived.Test.YtijnmoceafcamaaShaWrite
import Derived.Deep.RegionHeld3
namespace Go.Proofs.Ytijnmoceafcamaa.Sha
set_option linter.unusedVariables false
set_option linter.unusedSimpArgs false
open Go.RowKit
open Go.Proofs.YtijnmoceafcamaaW.PrintWords

theorem append_left_step {ops : Array Oper} {o : Oper} {a : Act} {K : Act → World → Prop} {Q : Exit → Act → World → Prop} {E : Prop} (w : World) (hgd : o.guard = none) (s x : Operand) (ho : o.op = .call { callee := .builtin .append, args := #[s, x], argTypes := #[22, 22] }) (hty : o.type = 22)
    (L : Value) (l p : List Int) (gl : Option Nat) (A : Option Addr) (c : Nat) (hs : a.eval s = L) (hx : a.eval x = .slice A p.length c) (hL : LeftAt w L l gl) (hp : ReadsB w A p) (hb : l.length + p.length ≤ 140737488355328)
    (h : ∀ v' w' gl', LeftAt w' v' (l ++ p) gl' → w.grownBy w' gl → (gl' = gl ∨ ∃ k, gl' = some k ∧ w.heap.size ≤ k) → K (a.put o.dst v') w') :
    if Region.wanted o (yielded ops a.tmps) = true then Oper.wp Try.prog o a w K Q else E := by
  have hw : Region.wanted o (yielded ops a.tmps) = true := by simp [Region.wanted, hgd]
  rw [if_pos hw]
  obtain ⟨v', w', gl', hrun, h1, h2, h3⟩ := run_append_left hL A c hp hb
  unfold Oper.wp
  simp [execOp, ho, hty, resolve, invoke, builtin, hs, hx, hrun, Result.andThen]
  exact h v' w' gl' h1 h2 h3
theorem LeftAt.reads {w : World} {A : Option Addr} {n c : Nat} {l : List Int} {gl : Option Nat} (h : LeftAt w (.slice A n c) l gl) : ReadsB w A l := by
  intro h0
  obtain ⟨g, o, cap, e⟩ := h.form h0
  injection e with e1 e2 e3
  subst e1
  obtain ⟨_, _, _, hc⟩ := h.cells
  exact ⟨_, rfl, fun j hj => by rw [Addr.add_lit]; exact hc j hj⟩
theorem zero70 (w : World) : (zeroValue 70).run Try.prog w = .ok (.agg #[.int .u32 0, .int .u32 0, .int .u32 0, .int .u32 0, .int .u32 0, .slice none 0 0, .int .u64 0]) w := by kernel_rfl
def Made (w : World) (m : List Int) (e : Ending) (w' : World) : Prop :=
  ∃ G gl, e = .returned (.pointer (some ⟨G, 0, none⟩)) ∧ w.heap.size ≤ G ∧ HashIs w' G m gl ∧ (gl = none ∨ ∃ k, gl = some k ∧ w.heap.size ≤ k) ∧ Below w.heap.size w w'
theorem new_calls (w : World) : Calls Try.prog 24 #[] w (Made w []) := by
  have hz67 := zero67
  have hz70 := zero70
  go_enter Try.func24, Try.ntmps24
  go_wp2
  go_ret
  refine ⟨w.heap.size, none, rfl, Nat.le_refl _, ⟨⟨.slice none 0 0, ?_, .inl ⟨rfl, rfl, rfl⟩⟩, by simp, by simp⟩, .inl rfl, below_alloc (Below.refl _ _) _⟩
  exact blk_new w _
set_option maxHeartbeats 2000000 in
set_option maxRecDepth 100000 in
theorem clone_calls (G : Nat) (m : List Int) (gl : Option Nat) (w : World) (hH : HashIs w G m gl) : Calls Try.prog 27 #[.pointer (some ⟨G, 0, none⟩)] w (Made w m) := by
  obtain ⟨⟨L, hG, hL⟩, hmb, hml⟩ := hH
  obtain ⟨A, c, rfl, hc⟩ := hL.len
  have hRB := hL.reads
  have hll : (m.drop (64 * (m.length / 64))).length ≤ 63 := by rw [List.length_drop]; omega
  generalize hl : m.drop (64 * (m.length / 64)) = l at *
  generalize hs : blocksF m iv (m.length / 64) = s at *
  have g0 : w.cell? ⟨G, 0, none⟩ = some (.int .u32 s.a) := (blk_cell hG 0).trans rfl
  have g1 : w.cell? ⟨G, 1, none⟩ = some (.int .u32 s.b) := (blk_cell hG 1).trans rfl
  have g2 : w.cell? ⟨G, 2, none⟩ = some (.int .u32 s.c) := (blk_cell hG 2).trans rfl
  have g3 : w.cell? ⟨G, 3, none⟩ = some (.int .u32 s.d) := (blk_cell hG 3).trans rfl
  have g4 : w.cell? ⟨G, 4, none⟩ = some (.int .u32 s.e) := (blk_cell hG 4).trans rfl
  have g5 : w.cell? ⟨G, 5, none⟩ = some (.slice A l.length c) := (blk_cell hG 5).trans rfl
  have g6 : w.cell? ⟨G, 6, none⟩ = some (.int .u64 m.length) := (blk_cell hG 6).trans rfl
  have hGlt := blk_lt hG
  have hl' := Aside0.mk hl
  have hs' := Aside0.mk hs
  have hRB' := Aside0.mk hRB
  have hmb' := Aside0.mk hmb
  clear hl hs hRB hmb hG hL
  have hz67 := zero67
  have hz70 := zero70
  go_enter Try.func27, Try.ntmps27
  go_wp2
  go_region_held3 (fun w' => w'.cell? ⟨G, 0, none⟩ = some (.int .u32 s.a) ∧ w'.cell? ⟨G, 1, none⟩ = some (.int .u32 s.b) ∧ w'.cell? ⟨G, 2, none⟩ = some (.int .u32 s.c) ∧ w'.cell? ⟨G, 3, none⟩ = some (.int .u32 s.d) ∧ w'.cell? ⟨G, 4, none⟩ = some (.int .u32 s.e) ∧ w'.cell? ⟨G, 5, none⟩ = some (.slice A l.length c) ∧ w'.cell? ⟨G, 6, none⟩ = some (.int .u64 m.length))
    (first
      | exact ⟨g0, g1, g2, g3, g4, g5, g6⟩
      | exact ⟨(hgr1.cell_far _ hGlt (by simp)).trans g0, (hgr1.cell_far _ hGlt (by simp)).trans g1, (hgr1.cell_far _ hGlt (by simp)).trans g2, (hgr1.cell_far _ hGlt (by simp)).trans g3, (hgr1.cell_far _ hGlt (by simp)).trans g4, (hgr1.cell_far _ hGlt (by simp)).trans g5, (hgr1.cell_far _ hGlt (by simp)).trans g6⟩
      | go_keep)
    ((refine append_left_step _ (by rfl) _ _ (by rfl) (by rfl) (.slice none 0 0) [] l none A c (by rfl) (by rfl) (.inl ⟨rfl, rfl, rfl⟩) (fun h => hRB'.out h) (by simp; omega) ?_; intro v1 w1 gl1 hv1 hgr1 hat1; obtain ⟨A1, c1, rfl, hc1⟩ := hv1.len))
  go_wp2
  go_ret
  have hbl : Below w.heap.size w w1 := ⟨hgr1.os, hgr1.tape, hgr1.output, hgr1.size, fun k hk => hgr1.block k hk (by simp)⟩
  refine ⟨w1.heap.size, gl1, rfl, hgr1.size, ⟨⟨.slice A1 l.length c1, ?_, ?_⟩, hmb'.out, hml⟩, hat1, below_alloc hbl _⟩
  · rw [hs'.out]; exact blk_new w1 _
  · rw [hl'.out]; exact hv1.move fun g hg => Below.heap_alloc w1 _ g (hv1.lt g hg).1
end Go.Proofs.Ytijnmoceafcamaa.Sha
