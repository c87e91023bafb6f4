/- Steps of regions whose order is drawn: a box of twenty bytes laid, stored into, read. -/
import Derived.Test.YtijnmoceafcamaaMacEq
namespace Go.Proofs.Ytijnmoceafcamaa.Sha
set_option linter.unusedVariables false
set_option linter.unusedSimpArgs false
open Go.RowKit
open Go.Proofs.YtijnmoceafcamaaW.PrintWords
section
variable {ops : Array Oper} {o : Oper} {a : Act} {K : Act → World → Prop} {Q : Exit → Act → World → Prop} {E : Prop} {b w : World} {rs : List Res}
theorem alloc24_step (h : Owns b w rs) (hgd : o.guard = none) (ho : o.op = .alloc 24)
    (k : ∀ O w', Owns b w' (rs ++ [boxR O (List.replicate 20 0)]) → K (a.put o.dst (.pointer (some ⟨O, 0, none⟩))) w') : if Region.wanted o (yielded ops a.tmps) = true then Oper.wp Try.prog o a w K Q else E := by
  have hw : Region.wanted o (yielded ops a.tmps) = true := by simp [Region.wanted, hgd]
  rw [if_pos hw]
  have hz := zero24
  have hrun : (execOp a.eval o).run Try.prog w = .ok (.value (.pointer (some ⟨w.heap.size, 0, none⟩))) (w.alloc (.cells (bcells (List.replicate 20 0)) 24 (0, 0))) := by
    unfold execOp
    simp only [ho]
    go_simp
  unfold Oper.wp
  rw [hrun]
  show K _ _
  refine k _ _ (h.add (Keeps.of_below (below_alloc (Below.refl _ _) _) _) (blk_new w _) ?_)
  intro j hj
  simp [boxR] at hj
  omega
theorem store24_step (h : Owns b w rs) (i : Nat) {O : Nat} {l0 : List Int} (hi : rs[i]? = some (boxR O l0)) (hgd : o.guard = none) (x y : Operand) (ho : o.op = .store 24 x y) (l : List Int) (hx : a.eval x = .pointer (some ⟨O, 0, none⟩)) (hy : a.eval y = .agg (bcells l)) (hl0 : l0.length = 20) (hl : l.length = 20)
    (k : ∀ w', Owns b w' (rs.set i (boxR O l)) → K (a.put o.dst undef) w') : if Region.wanted o (yielded ops a.tmps) = true then Oper.wp Try.prog o a w K Q else E := by
  have hw : Region.wanted o (yielded ops a.tmps) = true := by simp [Region.wanted, hgd]
  rw [if_pos hw]
  have hO : w.heap[O]? = some (.cells (bcells l0) 24 (0, 0)) := h.ok i _ hi
  have hbl : (bytes l).length = 20 := by simp [bytes, hl]
  have hbl0 : (bytes l0).length = 20 := by simp [bytes, hl0]
  refine wp_store_mid 24 x y ho O 0 (bcells l) hx hy ?_ ?_ ?_ (k _ (h.put hi ?_ ?_ ?_))
  · have := there_of hO
    have e : (bcells l).size = (bytes l0).toArray.size := by simp [bcells, hbl, hbl0]
    rw [e]; exact this
  · rw [size24]; simp [bcells, hbl]
  · refine all_oneCell_toArray (fun v hv => ?_)
    simp only [bytes, List.mem_map] at hv
    obtain ⟨q, _, rfl⟩ := hv
    rfl
  · exact Keeps.of_grown (gl := some O) (grown_setCells _ _ _ (World.grownBy.refl _ _))
  · have := heap_setCells (bytes l) 0 w _ hO
    show (w.setCells O 0 (bcells l).toList).heap[O]? = some (.cells (bcells l) 24 (0, 0))
    rw [show (bcells l).toList = bytes l by simp [bcells], this]
    congr 2
    apply Array.ext
    · rw [putC_size]; simp [bcells, hbl, hbl0]
    · intro j h1 h2
      have h := putC_in (bytes l) (bcells l0) 0 j (by simp [bcells, hbl] at h2; omega) (by rw [putC_size] at h1; omega)
      rw [Nat.zero_add, Array.getElem?_eq_getElem h1] at h
      have h3 : (bytes l)[j]? = some ((bcells l)[j]) := by simp [bcells]
      rw [h3] at h
      exact Option.some.inj h
  · exact fun j hj => .inl hj
theorem still_load24 {K : Act → Prop} (h : Owns b w rs) (i : Nat) {O : Nat} {l : List Int} (hi : rs[i]? = some (boxR O l)) (hl : l.length = 20) (hw : Region.wanted o (yielded ops a.tmps) = true) (x : Operand) (ho : o.op = .load 24 x) (hx : a.eval x = .pointer (some ⟨O, 0, none⟩))
    (k : K (a.put o.dst (.agg (bcells l)))) : if Region.wanted o (yielded ops a.tmps) = true then o.still Try.prog a w K else E := by
  rw [if_pos hw]
  have hO : w.heap[O]? = some (.cells (bcells l) 24 (0, 0)) := h.ok i _ hi
  have hld := own_loadVar h i hi hl
  have hrun : (execOp a.eval o).run Try.prog w = .ok (.value (.agg (bcells l))) w := by
    unfold execOp
    simp only [ho, hx, Instr.loadAt, Instr.sureAddr, Sem.run_bind, Sem.run_pure, Result.andThen_ok, hld]
  unfold Oper.still
  rw [hrun]
  exact ⟨rfl, k⟩
end
theorem ReadsB.take {w : World} {A : Option Addr} {p : List Int} (h : ReadsB w A p) (k : Nat) : ReadsB w A (p.take k) := by
  intro h0
  rw [List.length_take] at h0
  obtain ⟨ad, e, hr⟩ := h (by omega)
  refine ⟨ad, e, fun j hj => ?_⟩
  rw [List.length_take] at hj
  rw [hr j (by omega)]
  simp [List.getD_eq_getElem?_getD, List.getElem?_take_of_lt (show j < k by omega)]
theorem equal_two {w : World} (x y : List Int) {A B : Option Addr} {n c m d : Nat} (hn : x.length = n) (hx : ReadsB w A x) (hxb : ∀ z ∈ x, 0 ≤ z ∧ z ≤ 255) (hm : y.length = m) (hy : ReadsB w B y) (hyb : ∀ z ∈ y, 0 ≤ z ∧ z ≤ 255) (hnc : n ≤ 1000000000) (r : Bool) (hr : decide (x = y) = r) :
    Calls Try.prog 31 #[.slice A n c, .slice B m d] w fun e w' => e = .returned (.bool r) ∧ w' = w := by
  subst hr
  exact equal_calls x y A B n c m d w hn hx hxb hm hy hyb hnc
end Go.Proofs.Ytijnmoceafcamaa.Sha
