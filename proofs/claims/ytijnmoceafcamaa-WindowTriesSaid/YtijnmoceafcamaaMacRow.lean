/- Rows of bytes of one's own: made, copied into. -/
import Derived.Test.YtijnmoceafcamaaShaText
import Derived.Laws.IdiomCopy
import Derived.Laws.MakeOwn
import Derived.Laws.OwnMore
namespace Go.Proofs.Ytijnmoceafcamaa.Sha
set_option linter.unusedVariables false
set_option linter.unusedSimpArgs false
open Go.RowKit
open Go.Proofs.YtijnmoceafcamaaW.PrintWords

theorem putC_after : ∀ (vs : List Value) (cur : Array Value) (o i : Nat), o + vs.length ≤ i → (putC cur o vs)[i]? = cur[i]?
  | [], _, _, _, _ => rfl
  | v :: r, cur, o, i, h => by
    simp only [List.length_cons] at h
    rw [putC, putC_after r _ _ _ (by omega), Array.getElem?_setIfInBounds, if_neg (by omega)]
section
variable {ops : Array Oper} {rest : List Oper} {o : Oper} {a : Act} {Q : Exit → Act → World → Prop} {b w : World} {rs : List Res}
theorem own_make (h : Owns b w rs) (hgd : o.guard = none) (x y : Operand) (ho : o.op = .makeSlice 22 x y) (n : Nat) {nn : Int} (hx : a.eval x = .int .i64 nn) (hy : a.eval y = .int .i64 nn) (en : nn = n) (hn : n ≤ 1000000)
    (k : ∀ g w', Owns b w' (rs ++ [rowR (.slice (some ⟨g, 0, none⟩) n n) (List.replicate n 0) (some g)]) → wpList Try.prog ops Q rest (a.put o.dst (.slice (some ⟨g, 0, none⟩) n n)) w') : wpList Try.prog ops Q (o :: rest) a w := by
  subst en
  obtain ⟨i5, hi5, hzz⟩ := Option.map_eq_some_iff.1 info5
  simp only [Prod.mk.injEq] at hzz
  have hrun := run_makeSlice (P := Try.prog) w 22 5 i5 (.int .u8 0) Try.underlying22 hi5 hzz.1 .i64 .i64 (n : Int) (n : Int) (by omega) (by omega) (by rw [hzz.2.1]; omega) (by rw [hzz.2.2]; omega) (by omega)
  have hcells : madeCells (Value.int .u8 0).cells ((n : Int).toNat * i5.size) = bcells (List.replicate n 0) := by
    rw [hzz.2.1, Nat.mul_one, Int.toNat_natCast]
    apply Array.toList_inj.1
    show (madeCells #[.int .u8 0] n).toList = _
    rw [toList_madeCells_one]
    simp [bcells, bytes]
  rw [hcells, Int.toNat_natCast] at hrun
  refine Kd.event_run hgd (v := .slice (some ⟨w.heap.size, 0, none⟩) n n) (w1 := w.alloc (.cells (bcells (List.replicate n 0)) 5)) ?_ ?_
  · unfold execOp
    simp only [ho, hx, hy]
    simp [hrun]
  · have h1 := h.lit (List.replicate n 0)
    rw [List.length_replicate] at h1
    exact k _ _ h1
theorem own_copy_run (h : Owns b w rs) (i : Nat) {A : Option Addr} {N c : Nat} {l : List Int} {gl : Option Nat} (hi : rs[i]? = some (rowR (.slice A N c) l gl)) (hN : l.length = N) {A2 : Option Addr} {n c2 : Nat} (p : List Int) (hn : p.length = n) (hp : ReadsB w A2 p) (ty : TypeId) :
    ∃ v w', (Builtin.copy_ #[22, 22] ty #[.slice A N c, .slice A2 n c2]).run Try.prog w = .ok v w' ∧ Owns b w' (rs.set i (rowR (.slice A N c) (p.take N ++ l.drop n) gl)) := by
  have hL : LeftAt w (.slice A N c) l gl := h.ok i _ hi
  have hsz : (Try.prog.info? 5).map (·.size) = some 1 := by
    obtain ⟨i5, hi5, hzz⟩ := Option.map_eq_some_iff.1 info5
    simp only [Prod.mk.injEq] at hzz
    rw [hi5]; simp [hzz.2.1]
  by_cases h0 : Nat.min n N = 0
  · refine ⟨_, w, run_copy_none (P := Try.prog) w 22 22 ty 5 A A2 N c n c2 Try.underlying22 hsz h0, ?_⟩
    have e : p.take N ++ l.drop n = l := by
      rcases Nat.eq_zero_or_pos n with hn0 | hn0
      · have : p = [] := List.eq_nil_of_length_eq_zero (by omega)
        subst this; rw [hn0]; simp
      · have hN0 : N = 0 := by
          have h0' : min n N = 0 := h0
          omega
        have : l = [] := List.eq_nil_of_length_eq_zero (by omega)
        subst this; rw [hN0]; simp
    rw [e]
    exact h.put hi (Keeps.refl _ _) hL (fun j hj => .inl hj)
  · have hn0 : 0 < n := Nat.pos_of_ne_zero fun e => h0 (by rw [e]; exact Nat.zero_min _)
    have hN0 : 0 < N := Nat.pos_of_ne_zero fun e => h0 (by rw [e]; exact Nat.min_zero _)
    obtain ⟨ad, rfl, hr⟩ := hp (by omega)
    rcases hL with ⟨e, hl, _⟩ | ⟨g, oo, cap, cur, e, hgl, hle, hg, hsz2, hcur⟩
    · rw [hl] at hN; simp at hN; omega
    · injection e with e1 e2 e3
      subst e1 e2 e3 hgl
      have hcl : (bytes (p.take l.length)).length = Nat.min n l.length := by
        simp only [bytes, List.length_map, List.length_take, hn]
        exact Nat.min_comm _ _
      have hcl' : (bytes (p.take l.length)).length ≤ l.length ∧ (bytes (p.take l.length)).length ≤ n := by rw [hcl]; exact ⟨Nat.min_le_right _ _, Nat.min_le_left _ _⟩
      have hbl : (p.take l.length).length = (bytes (p.take l.length)).length := by simp [bytes]
      have hrun := run_copy_cells (P := Try.prog) w 22 22 ty 5 g oo l.length c ad n c2 (bytes (p.take l.length)) Try.underlying22 hsz hcl
        (fun j v hv => by
          have hj : j < (p.take l.length).length := by
            rcases Nat.lt_or_ge j (p.take l.length).length with h1 | h1
            · exact h1
            · rw [List.getElem?_eq_none (by rw [← hbl]; exact h1)] at hv; cases hv
          rw [bytes_get _ _ hj] at hv
          rw [← hv, hr j (by rw [List.length_take] at hj; omega)]
          rw [List.length_take] at hj
          simp [List.getD_eq_getElem?_getD, List.getElem?_take_of_lt (show j < l.length by omega)])
        (fun j hj => by rw [blk_cell hg, Array.getElem?_eq_getElem (by omega)]; rfl) (fun j _ => blk_frozen hg _)
        (fun v hv => by
          simp only [bytes, List.mem_map] at hv
          obtain ⟨q, _, rfl⟩ := hv
          rfl)
      refine ⟨_, _, hrun, h.put hi (Keeps.of_grown (gl := some g) (grown_setCells _ _ _ (World.grownBy.refl _ _))) ?_ (fun j hj => .inl hj)⟩
      have hlen : (p.take l.length ++ l.drop n).length = l.length := by
        rw [List.length_append, List.length_take, List.length_drop]; omega
      refine .inr ⟨g, oo, c, _, by rw [hlen], rfl, by rw [hlen]; exact hle, heap_setCells _ _ _ _ hg, by rw [putC_size]; exact hsz2, fun j hj => ?_⟩
      rw [hlen] at hj
      by_cases hjp : j < (p.take l.length).length
      · rw [putC_in _ _ _ _ (by omega) (by omega), bytes_get _ _ hjp]
        simp only [List.getD_eq_getElem?_getD, List.getElem?_append_left hjp]
      · rw [putC_after _ _ _ _ (by omega), hcur j hj]
        rw [List.length_take] at hjp
        have e2 : (p.take l.length ++ l.drop n)[j]? = l[j]? := by
          rw [List.getElem?_append_right (by rw [List.length_take]; omega), List.length_take, List.getElem?_drop]
          congr 1
          omega
        simp only [List.getD_eq_getElem?_getD, e2]
theorem own_copy (h : Owns b w rs) (i : Nat) {A : Option Addr} {N c : Nat} {l : List Int} {gl : Option Nat} (hi : rs[i]? = some (rowR (.slice A N c) l gl)) (hN : l.length = N) (hgd : o.guard = none) (d s : Operand)
    (ho : o.op = .call { callee := .builtin .copy, args := #[d, s], argTypes := #[22, 22] }) {A2 : Option Addr} {n c2 : Nat} (hd : a.eval d = .slice A N c) (hs : a.eval s = .slice A2 n c2) (p : List Int) (hn : p.length = n) (hp : ReadsB w A2 p)
    (k : ∀ v w', Owns b w' (rs.set i (rowR (.slice A N c) (p.take N ++ l.drop n) gl)) → wpList Try.prog ops Q rest (a.put o.dst v) w') : wpList Try.prog ops Q (o :: rest) a w := by
  obtain ⟨v, w', hrun, h1⟩ := own_copy_run h i hi hN (c2 := c2) p hn hp o.type
  refine wpList_plain hgd fun K hK' => ?_
  unfold Oper.wp
  simp [execOp, ho, resolve, invoke, builtin, hd, hs, hrun, Result.andThen]
  exact hK' _ _ (k v w' h1)
end
end Go.Proofs.Ytijnmoceafcamaa.Sha
