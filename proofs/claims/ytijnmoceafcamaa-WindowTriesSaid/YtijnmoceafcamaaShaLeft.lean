/- A row of bytes of a Hash's own, which may begin inside its block: what an append to it leaves. Condition: fewer than 2^47 bytes. -/
import Derived.Test.YtijnmoceafcamaaShaBlock
import Derived.Maps.AppendAt
import Derived.ArgAppend
namespace Go.Proofs.Ytijnmoceafcamaa.Sha
set_option linter.unusedVariables false
set_option linter.unusedSimpArgs false
open Go.RowKit
open Go.Proofs.YtijnmoceafcamaaW.PrintWords

/-- Cells written one behind the other. -/
def putC (cur : Array Value) : Nat → List Value → Array Value
  | _, [] => cur
  | o, v :: r => putC (cur.setIfInBounds o v) (o + 1) r
theorem putC_size : ∀ (vs : List Value) (cur : Array Value) (o : Nat), (putC cur o vs).size = cur.size
  | [], _, _ => rfl
  | v :: r, cur, o => by rw [putC, putC_size r]; simp
theorem putC_before : ∀ (vs : List Value) (cur : Array Value) (o i : Nat), i < o → (putC cur o vs)[i]? = cur[i]?
  | [], _, _, _, _ => rfl
  | v :: r, cur, o, i, h => by
    rw [putC, putC_before r _ _ _ (by omega), Array.getElem?_setIfInBounds]
    rw [if_neg (by omega)]
theorem putC_in : ∀ (vs : List Value) (cur : Array Value) (o j : Nat), j < vs.length → o + j < cur.size → (putC cur o vs)[o + j]? = vs[j]?
  | [], _, _, _, h, _ => by simp at h
  | v :: r, cur, o, 0, _, hs => by
    rw [putC, putC_before r _ _ _ (by omega), Array.getElem?_setIfInBounds, if_pos (Nat.add_zero o).symm, if_pos (by omega)]
    rfl
  | v :: r, cur, o, j + 1, h, hs => by
    rw [putC, show o + (j + 1) = o + 1 + j by omega, putC_in r _ (o + 1) j (by simpa using h) (by simp; omega)]
    rfl
theorem heap_setCells {g : Nat} {e : TypeId} : ∀ (vs : List Value) (o : Nat) (w : World) (cur : Array Value), w.heap[g]? = some (.cells cur e (0, 0)) → (w.setCells g o vs).heap[g]? = some (.cells (putC cur o vs) e (0, 0))
  | [], _, _, _, h => h
  | v :: r, o, w, cur, h => by
    rw [World.setCells, putC]
    exact heap_setCells r (o + 1) _ _ (blk_set h o v)
theorem grown_setCells {w : World} {g : Nat} : ∀ (vs : List Value) (o : Nat) (W : World), w.grownBy W (some g) → w.grownBy (W.setCells g o vs) (some g)
  | [], _, _, h => h
  | v :: r, o, W, h => by
    rw [World.setCells]
    exact grown_setCells r (o + 1) _ (grown_set h o v)

def bytes (l : List Int) : List Value := l.map (Value.int .u8)
theorem bytes_get (l : List Int) (j : Nat) (h : j < l.length) : (bytes l)[j]? = some (.int .u8 (l.getD j 0)) := by
  simp [bytes, h]
/-- The row: none, or l in block g from some place on, with room behind. -/
def LeftAt (w : World) (L : Value) (l : List Int) (gl : Option Nat) : Prop :=
  (L = .slice none 0 0 ∧ l = [] ∧ gl = none) ∨
  ∃ g o cap cur, L = .slice (some ⟨g, o, none⟩) l.length cap ∧ gl = some g ∧ l.length ≤ cap ∧ w.heap[g]? = some (.cells cur 5 (0, 0)) ∧ o + cap ≤ cur.size ∧ ∀ j, j < l.length → cur[o + j]? = some (.int .u8 (l.getD j 0))

theorem LeftAt.move {w w1 : World} {L : Value} {l : List Int} {gl : Option Nat} (h : LeftAt w L l gl) (hm : ∀ g, gl = some g → w1.heap[g]? = w.heap[g]?) : LeftAt w1 L l gl := by
  rcases h with h | ⟨g, o, cap, cur, h1, h2, h3, h4, h5⟩
  · exact .inl h
  · exact .inr ⟨g, o, cap, cur, h1, h2, h3, (hm g h2).trans h4, h5⟩
theorem LeftAt.lt {w : World} {L : Value} {l : List Int} {gl : Option Nat} (h : LeftAt w L l gl) : ∀ g, gl = some g → g < w.heap.size ∧ ∃ cur, w.heap[g]? = some (.cells cur 5 (0, 0)) := by
  rcases h with h | ⟨g, o, cap, cur, h1, h2, h3, h4, h5⟩
  · intro g hg; rw [h.2.2] at hg; cases hg
  · intro g' hg; rw [h2] at hg; cases hg; exact ⟨blk_lt h4, cur, h4⟩
/-- Behind the first k. -/
theorem LeftAt.drop {w : World} {g o n cap : Nat} {l : List Int} {gl : Option Nat} (h : LeftAt w (.slice (some ⟨g, o, none⟩) n cap) l gl) (k : Nat) (hk : k ≤ l.length) :
    LeftAt w (.slice (if cap = k then some ⟨g, o, none⟩ else some ⟨g, o + k, none⟩) (l.length - k) (cap - k)) (l.drop k) gl := by
  rcases h with h | ⟨g', o', cap', cur, h1, h2, h3, h4, h5, h6⟩
  · cases h.1
  · injection h1 with ha hn hc
    injection ha with ha
    injection ha with hg ho
    subst hg; subst ho; subst hc
    right
    by_cases hck : cap = k
    · refine ⟨g, o, 0, cur, ?_, h2, by rw [List.length_drop]; omega, h4, by omega, fun j hj => ?_⟩
      · rw [if_pos hck, List.length_drop]; congr 1; omega
      · rw [List.length_drop] at hj; omega
    · refine ⟨g, o + k, cap - k, cur, ?_, h2, by rw [List.length_drop]; omega, h4, by omega, fun j hj => ?_⟩
      · rw [if_neg hck, List.length_drop]
      · rw [List.length_drop] at hj
        rw [Nat.add_assoc, h6 (k + j) (by omega)]
        congr 2
        rw [List.getD_eq_getElem?_getD, List.getD_eq_getElem?_getD, List.getElem?_drop]
/-- Its bytes as the walk reads them. -/
theorem LeftAt.cells {w : World} {g o n cap : Nat} {l : List Int} {gl : Option Nat} (h : LeftAt w (.slice (some ⟨g, o, none⟩) n cap) l gl) : gl = some g ∧ n = l.length ∧ l.length ≤ cap ∧ ∀ j, j < l.length → w.cell? ⟨g, o + j, none⟩ = some (.int .u8 (l.getD j 0)) := by
  rcases h with h | ⟨g', o', cap', cur, h1, h2, h3, h4, h5, h6⟩
  · cases h.1
  · injection h1 with ha hn hc
    injection ha with ha
    injection ha with hg ho
    subst hg; subst ho; subst hc
    exact ⟨h2, hn, h3, fun j hj => (blk_cell h4 _).trans (h6 j hj)⟩
theorem LeftAt.form {w : World} {L : Value} {l : List Int} {gl : Option Nat} (h : LeftAt w L l gl) (hl : 0 < l.length) : ∃ g o cap, L = .slice (some ⟨g, o, none⟩) l.length cap := by
  rcases h with h | ⟨g', o', cap', cur, h1, _⟩
  · rw [h.2.1] at hl; simp at hl
  · exact ⟨_, _, _, h1⟩
theorem LeftAt.len {w : World} {L : Value} {l : List Int} {gl : Option Nat} (h : LeftAt w L l gl) : ∃ A c, L = .slice A l.length c ∧ l.length ≤ c := by
  rcases h with h | ⟨g', o', cap', cur, h1, h2, h3, _⟩
  · exact ⟨none, 0, by rw [h.1, h.2.1]; rfl, by rw [h.2.1]; simp⟩
  · exact ⟨_, _, h1, h3⟩
theorem left_of_own {w : World} {base : Nat} {v : Value} {n : Nat} {l : List Int} (hn : n = l.length) (h : w.ownsRow base 5 1 v n (bytes l)) : LeftAt w v l v.ownBlock := by
  obtain ⟨h1, h2⟩ := h
  rcases h2 with ⟨rfl, h0⟩ | ⟨g, cap, cur, rfl, hg, hh, hle, hmax, hsz, htake⟩
  · left
    have : l = [] := List.eq_nil_of_length_eq_zero (by omega)
    exact ⟨rfl, this, rfl⟩
  · right
    subst hn
    refine ⟨g, 0, cap, cur, rfl, rfl, hle, hh, by omega, fun j hj => ?_⟩
    have hlen : (bytes l).length = l.length := by simp [bytes]
    have e : (cur.toList.take (bytes l).length)[j]? = (bytes l)[j]? := by
      first | rw [htake] | (rw [hlen, ← Nat.mul_one l.length, htake])
    rw [List.getElem?_take_of_lt (by rw [hlen]; exact hj), bytes_get l j hj, Array.getElem?_toList] at e
    rw [Nat.zero_add]
    exact e

theorem info5 : (Try.prog.info? 5).map (fun i => (i.zero, i.size, i.bytes)) = some (some (.int .u8 0), 1, 1) := by kernel_rfl
/-- Cells of what is appended. -/
def ReadsB (w : World) (A : Option Addr) (p : List Int) : Prop := 0 < p.length → ∃ ad, A = some ad ∧ ∀ j, j < p.length → w.cell? (ad.add j) = some (.int .u8 (p.getD j 0))
theorem readsB_of_C {w : World} {A : Option Addr} {p : List Int} (h : Kd.C (Kd.int .u8) w A p.length p) : ReadsB w A p := by
  intro h0
  obtain ⟨ad, e, _⟩ := Kd.at_int h 0 (by omega) (by omega)
  refine ⟨ad, e, fun j hj => ?_⟩
  obtain ⟨ad', e', hc⟩ := Kd.at_int h (j : Int) (by omega) (by omega)
  rw [e] at e'
  injection e' with e'
  subst e'
  simpa [rd] using hc

theorem run_append_left {w : World} {L : Value} {l p : List Int} {gl : Option Nat} (hL : LeftAt w L l gl) (A : Option Addr) (c : Nat) (hp : ReadsB w A p) (hb : l.length + p.length ≤ 140737488355328) :
    ∃ v' w' gl', (Builtin.append_ #[22, 22] 22 #[L, .slice A p.length c]).run Try.prog w = .ok v' w' ∧ LeftAt w' v' (l ++ p) gl' ∧ w.grownBy w' gl ∧ (gl' = gl ∨ ∃ k, gl' = some k ∧ w.heap.size ≤ k) := by
  obtain ⟨i, hi, hzz⟩ := Option.map_eq_some_iff.1 info5
  simp only [Prod.mk.injEq] at hzz
  obtain ⟨hz0, hz1, hz2⟩ := hzz
  have ht : Try.prog.underlying 22 = some (.slice 5) := Try.underlying22
  have bl : ∀ q : List Int, (bytes q).length = q.length := fun q => by simp [bytes]
  have one : ∀ u ∈ bytes p, u.oneCell' = true := by
    intro u hu
    simp only [bytes, List.mem_map] at hu
    obtain ⟨q, _, rfl⟩ := hu
    rfl
  rcases Nat.eq_zero_or_pos p.length with h0 | h0
  · have hpn : p = [] := List.eq_nil_of_length_eq_zero h0
    subst hpn
    refine ⟨L, w, gl, ?_, by simpa using hL, World.grownBy.refl _ _, .inl rfl⟩
    rcases hL with ⟨rfl, _⟩ | ⟨g, o, cap, cur, rfl, _, hle, _⟩
    · rcases A with _ | ad
      · simp [Builtin.append_, run_underlying ht, sizeOf, typeInfo, hi, Builtin.lenOf, Builtin.firstCells]
      · have hf := run_firstCells_some (P := Try.prog) w i.size 0 ad 0 c [] (by simp) (by simp)
        simp [Builtin.append_, run_underlying ht, sizeOf, typeInfo, hi, Builtin.lenOf, hf]
    · rcases A with _ | ad
      · simp [Builtin.append_, run_underlying ht, sizeOf, typeInfo, hi, Builtin.lenOf, Builtin.firstCells, hle, storeCells]
      · have hf := run_firstCells_some (P := Try.prog) w i.size 0 ad 0 c [] (by simp) (by simp)
        simp [Builtin.append_, run_underlying ht, sizeOf, typeInfo, hi, Builtin.lenOf, hf, hle, storeCells]
  · obtain ⟨ad, rfl, hc⟩ := hp h0
    have hnews : ∀ j u, (bytes p)[j]? = some u → w.cell? (ad.add j) = some u := by
      intro j u hu
      have hj : j < p.length := by
        rcases Nat.lt_or_ge j p.length with h | h
        · exact h
        · rw [List.getElem?_eq_none (by rw [bl]; exact h)] at hu; cases hu
      rw [bytes_get p j hj] at hu
      rw [← hu]
      exact hc j hj
    rcases hL with ⟨rfl, rfl, rfl⟩ | ⟨g, o, cap, cur, rfl, rfl, hle, hg, hsz, hcur⟩
    · obtain ⟨v1, w1, hr, h2, h3, _, h5⟩ := run_append_own_at (P := Try.prog) w w.heap.size 22 22 5 i (.int .u8 0) 1 1 ht hi hz0 hz1 hz2 rfl (by omega) (.slice none 0 0) 0 [] (World.ownsRow_nil _ _ _ _) ad p.length c (bytes p) (by rw [bl]; omega) hnews one (by simp only [maxLen]; simp at hb; omega) (by simp at hb; omega) (Nat.le_refl _)
      refine ⟨v1, w1, v1.ownBlock, hr, left_of_own (n := 0 + p.length) (by simp) h2, h3, ?_⟩
      rcases h5 with h5 | h5
      · exact .inl h5
      · exact .inr ⟨_, h5, Nat.le_refl _⟩
    · by_cases hroom : l.length + p.length ≤ cap
      · have hcell : ∀ j, j < (bytes p).length → (w.cell? ⟨g, o + l.length * i.size + j, none⟩).isSome = true := by
          intro j hj
          rw [bl] at hj
          rw [hz1, Nat.mul_one, blk_cell hg]
          rw [Array.getElem?_eq_getElem (by omega)]
          rfl
        have hr := run_append_room_cells (P := Try.prog) w 22 22 5 i ht hi g o l.length cap ad p.length c (bytes p) (by rw [bl, hz1]; omega) hnews one hroom hcell (fun j hj => blk_frozen hg _)
        refine ⟨_, _, some g, hr, ?_, grown_setCells _ _ _ (World.grownBy.refl _ _), .inl rfl⟩
        right
        refine ⟨g, o, cap, _, by rw [List.length_append], rfl, by rw [List.length_append]; exact hroom, heap_setCells _ _ _ _ hg, by rw [putC_size]; exact hsz, fun j hj => ?_⟩
        rw [hz1, Nat.mul_one]
        rw [List.length_append] at hj
        by_cases hjl : j < l.length
        · rw [putC_before _ _ _ _ (by omega), hcur j hjl]
          simp [List.getD_eq_getElem?_getD, List.getElem?_append_left hjl]
        · rw [show o + j = o + l.length + (j - l.length) by omega, putC_in _ _ _ _ (by rw [bl]; omega) (by omega), bytes_get p _ (by omega)]
          simp [List.getD_eq_getElem?_getD, List.getElem?_append_right (by omega : l.length ≤ j)]
      · have holds : ∀ j u, (bytes l)[j]? = some u → w.cell? ((⟨g, o, none⟩ : Addr).add j) = some u := by
          intro j u hu
          have hj : j < l.length := by
            rcases Nat.lt_or_ge j l.length with h | h
            · exact h
            · rw [List.getElem?_eq_none (by rw [bl]; exact h)] at hu; cases hu
          rw [bytes_get l j hj] at hu
          rw [← hu, Addr.add_lit, blk_cell hg]
          exact hcur j hj
        obtain ⟨v1, w1, hr, h2, h3⟩ := run_append_arg_grows (P := Try.prog) w 22 22 5 i (.int .u8 0) 1 1 ht hi hz0 hz1 hz2 rfl (by omega) ⟨g, o, none⟩ l.length cap (bytes l) (by rw [bl]; omega) holds ad p.length c (bytes p) (by rw [bl]; omega) hnews (by omega) (by simp only [maxLen]; omega) (by omega)
        have h2' : w1.ownsRow w.heap.size 5 1 v1 (l.length + p.length) (bytes (l ++ p)) := by
          have e : bytes (l ++ p) = bytes l ++ bytes p := by simp [bytes]
          rw [e]; exact h2
        refine ⟨v1, w1, v1.ownBlock, hr, left_of_own (by simp) h2', ⟨h3.os, h3.tape, h3.output, h3.size, fun k hk hne => h3.block k hk (by simp)⟩, ?_⟩
        rcases h2.2 with ⟨_, hn⟩ | ⟨g', cap', cur', rfl, hg', _⟩
        · omega
        · exact .inr ⟨g', rfl, hg'⟩

theorem append_left {ops : Array Oper} {rest : List Oper} {o : Oper} {a : Act} {Q : Exit → Act → World → Prop} (w : World) (hgd : o.guard = none) (s x : Operand) (ho : o.op = .call { callee := .builtin .append, args := #[s, x], argTypes := #[22, 22] }) (hty : o.type = 22)
    (L : Value) (l p : List Int) (gl : Option Nat) (A : Option Addr) (c : Nat) (hs : a.eval s = L) (hx : a.eval x = .slice A p.length c) (hL : LeftAt w L l gl) (hp : ReadsB w A p) (hb : l.length + p.length ≤ 140737488355328)
    (h : ∀ v' w' gl', LeftAt w' v' (l ++ p) gl' → w.grownBy w' gl → (gl' = gl ∨ ∃ k, gl' = some k ∧ w.heap.size ≤ k) → wpList Try.prog ops Q rest (a.put o.dst v') w') :
    wpList Try.prog ops Q (o :: rest) a w := by
  obtain ⟨v', w', gl', hrun, h1, h2, h3⟩ := run_append_left hL A c hp hb
  refine wpList_plain hgd fun K hK' => ?_
  unfold Oper.wp
  simp [execOp, ho, hty, resolve, invoke, builtin, hs, hx, hrun, Result.andThen]
  exact hK' _ _ (h v' w' gl' h1 h2 h3)
end Go.Proofs.Ytijnmoceafcamaa.Sha
