/- append(row, make([]byte, m)...) to a row of bytes of one's own. (After the shape of the kit's printed run_append_zeros, for rows that may begin inside their block.) -/
import Derived.Test.YtijnmoceafcamaaMacEq
import Derived.Test.YtijnmoceafcamaaWZeros
namespace Go.Proofs.Ytijnmoceafcamaa.Sha
set_option linter.unusedVariables false
set_option linter.unusedSimpArgs false
open Go.RowKit
open Go.Proofs.YtijnmoceafcamaaW.PrintWords
theorem zeroCells_bytes (m : Nat) : Builtin.zeroCells (Value.int .u8 0).cells m = (bytes (List.replicate m 0)).toArray := by
  have h : Builtin.zeroCells (Value.int .u8 0).cells m = madeCells #[.int .u8 0] (m * 1) := rfl
  rw [h, Nat.mul_one]
  apply Array.toList_inj.1
  rw [toList_madeCells_one]
  simp [bytes]
theorem run_append_left_zeros {w : World} {L : Value} {l : List Int} {gl : Option Nat} (hL : LeftAt w L l gl) (m : Nat) (ty : TypeId) (hb : l.length + m ≤ 140737488355328) :
    ∃ v' w' gl', (Builtin.append_ #[22, 3] ty #[L, .int .i64 m]).run Try.prog w = .ok v' w' ∧ LeftAt w' v' (l ++ List.replicate m 0) gl' ∧ w.grownBy w' gl ∧ (gl' = gl ∨ ∃ k, gl' = some k ∧ w.heap.size ≤ k) := by
  obtain ⟨i, hi, hzz⟩ := Option.map_eq_some_iff.1 info5
  simp only [Prod.mk.injEq] at hzz
  obtain ⟨hz, hz1, hz2⟩ := hzz
  have ht : Try.prog.underlying 22 = some (.slice 5) := Try.underlying22
  have hti : Try.prog.underlying 3 = some (.int .i64) := Try.underlying3
  have h63 : l.length + m ≤ maxLen := by simp only [maxLen]; omega
  have hw : IntKind.i64.wrap (m : Int) = m := by rw [IntKind.wrap_i64]; omega
  have hw0 : IntKind.i64.wrap 0 = 0 := by rw [IntKind.wrap_i64]; rfl
  have hneg : ¬ ((m : Int) < 0) := by omega
  have hbig : ¬ (281474976710656 < (m : Int)) := by omega
  have hna := zeroCells_bytes m
  obtain ⟨news, hnews⟩ : ∃ news, news = bytes (List.replicate m 0) := ⟨_, rfl⟩
  rw [← hnews] at hna
  have hl : news.length = m := by rw [hnews]; simp [bytes]
  have h1 : ∀ u ∈ news, u.oneCell' = true := by
    intro u hu
    rw [hnews] at hu
    simp only [bytes, List.mem_map] at hu
    obtain ⟨q, _, rfl⟩ := hu
    rfl
  have hbl : (bytes l).length = l.length := by simp [bytes]
  have hbm : bytes (l ++ List.replicate m 0) = bytes l ++ news := by rw [hnews]; simp [bytes]
  have grown : ∀ (old : Nat), old < l.length + m → ∀ (row : Option Nat),
      LeftAt (w.drew.alloc (.cells ((bytes l).toArray ++ news.toArray ++ Builtin.zeroCells (Value.int .u8 0).cells (grownCap w (l.length + m) old 5 - (l.length + m))) 5)) (.slice (some ⟨w.heap.size, 0, none⟩) (l.length + m) (grownCap w (l.length + m) old 5)) (l ++ List.replicate m 0) (some w.heap.size) ∧
      w.grownBy (w.drew.alloc (.cells ((bytes l).toArray ++ news.toArray ++ Builtin.zeroCells (Value.int .u8 0).cells (grownCap w (l.length + m) old 5 - (l.length + m))) 5)) row := by
    intro old ho row
    have hge := grownCap_ge w (l.length + m) old 5
    refine ⟨.inr ⟨w.heap.size, 0, _, _, by rw [List.length_append, List.length_replicate], rfl, by rw [List.length_append, List.length_replicate]; exact hge, heap_alloc_new w.drew _, ?_, fun j hj => ?_⟩, ⟨rfl, rfl, rfl, by simp, fun k hk _ => heap_alloc_old w.drew _ hk⟩⟩
    · rw [zeroCells_bytes]
      simp [bytes, hl]
      omega
    · rw [Nat.zero_add, ← bytes_get _ j hj, hbm]
      have hj2 : j < (bytes l ++ news).length := by rw [← hbm]; simpa [bytes] using hj
      rw [Array.getElem?_append_left (by simpa using hj2)]
      simp
  have runs : ∀ (A : Option Addr) (cap : Nat), cap < l.length + m → (Builtin.firstCells 1 l.length (.slice A l.length cap)).run Try.prog w.drew = .ok (bytes l).toArray w.drew → (Builtin.append_ #[22, 3] ty #[.slice A l.length cap, .int .i64 m]).run Try.prog w =
      .ok (.slice (some ⟨w.heap.size, 0, none⟩) (l.length + m) (grownCap w (l.length + m) cap 5)) (w.drew.alloc (.cells ((bytes l).toArray ++ news.toArray ++ Builtin.zeroCells (Value.int .u8 0).cells (grownCap w (l.length + m) cap 5 - (l.length + m))) 5)) := by
    intro A cap hcap hfo
    have hn : ¬ (l.length + m ≤ cap) := by omega
    have h63' : ¬ (9223372036854775807 < ((l.length : Int) + (m : Int))) := by omega
    have hfit := growslice_fits (bytes := 1) hcap (by omega)
    have h48' : ¬ (281474976710656 < Builtin.nextslicecap (l.length + m) cap) := by omega
    by_cases hm : m = 0
    · have hnl : news = [] := List.eq_nil_of_length_eq_zero (by omega)
      subst hm
      rw [hnl]
      simp only [Nat.add_zero] at hn h63' h48' ⊢
      have h63'' : ¬ (9223372036854775807 < (l.length : Int)) := by omega
      simp [Builtin.append_, run_underlying ht, run_underlying hti, sizeOf, typeInfo, zeroValue, hi, hz, hz1, hz2, asInt, asIntOf, hw0, hn, h63'', h48', Question.forced, hfo, newRow, grownCap]
    · simp [Builtin.append_, run_underlying ht, run_underlying hti, sizeOf, typeInfo, zeroValue, hi, hz, hz1, hz2, asInt, asIntOf, hw, hneg, hbig, hn, h63', h48', Question.forced, hfo, newRow, grownCap, hm, hna]
      congr 2
      apply Array.ext'
      simp [List.append_assoc]
  rcases hL with ⟨rfl, rfl, rfl⟩ | ⟨g, o, cap, cur, rfl, rfl, hle, hg, hsz, hcur⟩
  · by_cases hm : m = 0
    · subst hm
      refine ⟨.slice none 0 0, w, none, ?_, .inl ⟨rfl, rfl, rfl⟩, World.grownBy.refl _ _, .inl rfl⟩
      simp [Builtin.append_, run_underlying ht, run_underlying hti, sizeOf, typeInfo, hi, asInt, asIntOf, hw0]
    · have hgr := grown 0 (by simp; omega) none
      exact ⟨_, _, _, runs none 0 (by simp; omega) (by simp [Builtin.firstCells, bytes]), hgr.1, hgr.2, .inr ⟨_, rfl, Nat.le_refl _⟩⟩
  · by_cases hroom : l.length + m ≤ cap
    · have hst := run_storeCells_cells (P := Try.prog) g (o + l.length) news 0 w (fun j hj => by rw [blk_cell hg, Array.getElem?_eq_getElem (by omega)]; rfl) (fun j _ => blk_frozen hg _) h1
      simp only [Nat.add_zero] at hst
      refine ⟨.slice (some ⟨g, o, none⟩) (l.length + m) cap, w.setCells g (o + l.length) news, some g, ?_, ?_, grown_setCells _ _ _ (World.grownBy.refl _ _), .inl rfl⟩
      · by_cases hm : m = 0
        · have hnl : news = [] := List.eq_nil_of_length_eq_zero (by omega)
          subst hm
          rw [hnl] at hst ⊢
          simp [Builtin.append_, run_underlying ht, run_underlying hti, sizeOf, typeInfo, hi, hz1, asInt, asIntOf, hw0, hle, Addr.add_lit, hst]
        · simp [Builtin.append_, run_underlying ht, run_underlying hti, sizeOf, typeInfo, zeroValue, hi, hz, hz1, hz2, asInt, asIntOf, hw, hneg, hbig, hroom, hm, hna, Addr.add_lit, hst]
      · refine .inr ⟨g, o, cap, _, by rw [List.length_append, List.length_replicate], rfl, by rw [List.length_append, List.length_replicate]; exact hroom, heap_setCells _ _ _ _ hg, by rw [putC_size]; exact hsz, fun j hj => ?_⟩
        rw [List.length_append, List.length_replicate] at hj
        by_cases hjl : j < l.length
        · rw [putC_before _ _ _ _ (by omega), hcur j hjl]
          simp [List.getD_eq_getElem?_getD, List.getElem?_append_left hjl]
        · rw [show o + j = o + l.length + (j - l.length) by omega, putC_in _ _ _ _ (by omega) (by omega), hnews, bytes_get _ _ (by simp; omega)]
          simp [List.getD_eq_getElem?_getD, List.getElem?_append_right (by omega : l.length ≤ j)]
    · have holds : ∀ j u, (bytes l)[j]? = some u → w.cell? ((⟨g, o, none⟩ : Addr).add j) = some u := by
        intro j u hu
        have hj : j < l.length := by
          rcases Nat.lt_or_ge j l.length with h | h
          · exact h
          · rw [List.getElem?_eq_none (by rw [hbl]; exact h)] at hu; cases hu
        rw [bytes_get l j hj] at hu
        rw [← hu, Addr.add_lit, blk_cell hg]
        exact hcur j hj
      have hgr := grown cap (by omega) (some g)
      exact ⟨_, _, _, runs (some ⟨g, o, none⟩) cap (by omega) (run_firstCells_some (P := Try.prog) w.drew 1 l.length _ l.length cap (bytes l) (by rw [hbl]; omega) (by simpa using holds)), hgr.1, hgr.2, .inr ⟨_, rfl, Nat.le_refl _⟩⟩
section
variable {ops : Array Oper} {rest : List Oper} {o : Oper} {a : Act} {Q : Exit → Act → World → Prop} {b w : World} {rs : List Res}
theorem own_zeros (h : Owns b w rs) (i : Nat) {v : Value} {l : List Int} {gl : Option Nat} (hi : rs[i]? = some (rowR v l gl)) (hgd : o.guard = none) (s x : Operand) (ho : o.op = .call { callee := .builtin .append, args := #[s, x], argTypes := #[22, 3] })
    (hs : a.eval s = v) (m : Nat) {mm : Int} (hx : a.eval x = .int .i64 mm) (em : mm = m) (hb : l.length + m ≤ 140737488355328)
    (k : ∀ A' c' N w' gl', (l ++ List.replicate m 0).length = N → N ≤ c' → Owns b w' (rs.set i (rowR (.slice A' N c') (l ++ List.replicate m 0) gl')) → wpList Try.prog ops Q rest (a.put o.dst (.slice A' N c')) w') :
    wpList Try.prog ops Q (o :: rest) a w := by
  subst em
  obtain ⟨v', w', gl', hrun, h1, h2, h3⟩ := run_append_left_zeros (h.ok i _ hi) m o.type hb
  obtain ⟨A', c', rfl, hc'⟩ := h1.len
  refine wpList_plain hgd fun K hK' => ?_
  unfold Oper.wp
  simp [execOp, ho, resolve, invoke, builtin, hs, hx, hrun, Result.andThen]
  refine hK' _ _ ?_
  have h4 := k A' c' _ w' gl' rfl hc' (h.put hi (Keeps.of_grown h2) h1 (by
    intro k hk
    rcases h3 with rfl | ⟨j, rfl, hj⟩
    · exact .inl hk
    · simp [rowR] at hk
      exact .inr (by omega)))
  rw [List.length_append, List.length_replicate] at h4
  exact h4
theorem own_make_step {K : Act → World → Prop} {E : Prop} (h : Owns b w rs) (hgd : o.guard = none) (x y : Operand) (ho : o.op = .makeSlice 22 x y) (n : Nat) {nn : Int} (hx : a.eval x = .int .i64 nn) (hy : a.eval y = .int .i64 nn) (en : nn = n) (hn : n ≤ 1000000)
    (k : ∀ g w', Owns b w' (rs ++ [rowR (.slice (some ⟨g, 0, none⟩) n n) (List.replicate n 0) (some g)]) → K (a.put o.dst (.slice (some ⟨g, 0, none⟩) n n)) w') : if Region.wanted o (yielded ops a.tmps) = true then Oper.wp Try.prog o a w K Q else E := by
  have hw : Region.wanted o (yielded ops a.tmps) = true := by simp [Region.wanted, hgd]
  rw [if_pos hw]
  subst en
  obtain ⟨i5, hi5, hzz⟩ := Option.map_eq_some_iff.1 info5
  simp only [Prod.mk.injEq] at hzz
  have hrun := run_makeSlice (P := Try.prog) w 22 5 i5 (.int .u8 0) Try.underlying22 hi5 hzz.1 .i64 .i64 (n : Int) (n : Int) (by omega) (by omega) (by rw [hzz.2.1]; omega) (by rw [hzz.2.2]; omega) (by omega)
  have hcells : madeCells (Value.int .u8 0).cells ((n : Int).toNat * i5.size) = bcells (List.replicate n 0) := by
    rw [hzz.2.1, Nat.mul_one, Int.toNat_natCast]
    apply Array.toList_inj.1
    show (madeCells #[.int .u8 0] n).toList = _
    rw [toList_madeCells_one]
    simp [bcells, bytes]
  rw [hcells, Int.toNat_natCast] at hrun
  unfold Oper.wp execOp
  simp only [ho, hx, hy]
  simp [hrun]
  have h1 := h.lit (List.replicate n 0)
  rw [List.length_replicate] at h1
  exact k _ _ h1
end
theorem pad64_zeros (p : List Int) (z : Nat) (h : p.length + z ≤ 64) : pad64 (key64 (p ++ List.replicate z 0)) = pad64 (key64 p) := by
  rw [key64, key64, if_pos (by simp; omega), if_pos (by omega), pad64, pad64, List.take_of_length_le (by simp; omega), List.take_of_length_le (by omega)]
  rw [List.append_assoc, List.length_append, List.length_replicate]
  congr 1
  simp only [List.drop_replicate, List.replicate_append_replicate]
  congr 1
  omega
theorem macP_eq {k1 k2 : List Int} (m : List Int) (h : pad64 (key64 k1) = pad64 (key64 k2)) : macP k1 m = macP k2 m := by
  simp only [macP, xorK, h]
theorem key64_long {k : List Int} (h : 64 < k.length) : pad64 (key64 (digest k)) = pad64 (key64 k) := by
  have h1 : key64 k = digest k := if_neg (by omega)
  have h2 : key64 (digest k) = digest k := if_pos (by rw [digest_len]; decide)
  rw [h1, h2]
end Go.Proofs.Ytijnmoceafcamaa.Sha
