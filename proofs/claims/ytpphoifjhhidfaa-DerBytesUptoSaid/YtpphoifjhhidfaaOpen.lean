/- A node that came in as an argument: how it reads, and how much it weighs. No condition. -/
import Derived.Test.YtpphoifjhhidfaaTh4
import Derived.Test.YtpphoifjhhidfaaRows
import Derived.ProofKit
import Derived.OpenShut
import Derived.ChangeOld
namespace Go.Proofs.Ytpphoifjhhidfaa.Der
set_option linter.unusedVariables false
set_option linter.unusedSimpArgs false
open Go.ChangeShapes Go.WideShapes Go.ChangeAt Go.RowKit
open Go.Proofs.YtpphoifjhhidfaaW.PrintWords
mutual
/-- What a node weighs: its texts, and one for each node. -/
def wtT : S24 → Nat
  | ⟨_, _, s, _, ts⟩ => s.size + 1 + wtL ts
def wtL : List S24 → Nat
  | [] => 0
  | t :: r => wtT t + wtL r
end
theorem choose_list {α β : Type} (R : β → α → Prop) : ∀ l : List α, (∀ y ∈ l, ∃ t, R t y) → ∃ ts : List β, ts.length = l.length ∧ ∀ (i : Nat) (t : β) (y : α), ts[i]? = some t → l[i]? = some y → R t y
  | [], _ => ⟨[], rfl, fun i t y h => by simp at h⟩
  | a :: l, h => by
    obtain ⟨t, ht⟩ := h a (by simp)
    obtain ⟨ts, hl, hr⟩ := choose_list R l (fun y hy => h y (by simp [hy]))
    refine ⟨t :: ts, by simp [hl], fun i t' y h1 h2 => ?_⟩
    cases i with
    | zero => simp at h1 h2; subst h1; subst h2; exact ht
    | succ i => simp at h1 h2; exact hr i t' y h1 h2
theorem wtL_bulk {H : Type} : ∀ (ts : List S24) (l : List (DataW H × List MemPlace)), ts.length = l.length → (∀ (i : Nat) (t : S24) y, ts[i]? = some t → l[i]? = some y → wtT t ≤ Rows.uptoBulk y.1) → wtL ts ≤ Rows.uptoBulkAll (l.map (·.1))
  | [], _, _, _ => by rw [wtL]; omega
  | t :: ts, [], h, _ => by simp at h
  | t :: ts, y :: l, h, hr => by
    have h1 := hr 0 t y rfl rfl
    have h2 := wtL_bulk ts l (by simpa using h) (fun i t' y' h1 h2 => hr (i + 1) t' y' (by simpa using h1) (by simpa using h2))
    rw [wtL, List.map_cons, Rows.uptoBulkAll]
    omega
theorem rngL_of : ∀ ts : List S24, (∀ t ∈ ts, rngT t) → rngL ts
  | [], _ => by rw [rngL]; trivial
  | t :: r, h => by rw [rngL]; exact ⟨h t (by simp), rngL_of r (fun t' h' => h t' (by simp [h']))⟩
theorem cells24 : Try.prog.cellsOf 24 = 5 := by kernel_rfl
theorem cells22 : Try.prog.cellsOf 22 = 1 := by kernel_rfl
theorem cells9 : Try.prog.cellsOf 9 = 1 := by kernel_rfl
theorem cells3 : Try.prog.cellsOf 3 = 1 := by kernel_rfl
theorem i64_wf {n : Int} (h : (Lit.int .i64 n).wf = true) : -9223372036854775808 ≤ n ∧ n ≤ 9223372036854775807 := by
  simp [Lit.wf, IntKind.min, IntKind.max, IntKind.wrap, IntKind.bits, IntKind.signed] at h
  omega
theorem open24 {H : Type} {enc : TypeId × Value → H} {w : World} : ∀ (n : Nat) (cs : List Value) (x : DataW H × List MemPlace), DataW.trod enc Try.prog w 0 (fun _ => true) true n 24 cs = some x →
    ∃ (t : S24) (A : Option Addr) (c : Nat), cs = [.int .i64 t.f0, .int .i64 t.f1, .string t.f2, .int .i64 t.f3, .slice A t.f4.length c] ∧ t.f4.length ≤ c ∧ k24.C w A t.f4.length t.f4 ∧ rngT t ∧ wtT t ≤ Rows.uptoBulk x.1 := by
  intro n
  induction n using Nat.strongRecOn with
  | _ n ih =>
    intro cs x h
    obtain ⟨xs, m, rfl, rfl, hcl, hxl, hf⟩ := DataW.trod_struct Try.underlying24 h
    have q0 : DataW.trod enc Try.prog w 0 (fun _ => true) true m 3 ((cs.drop 0).take (Try.prog.cellsOf 3)) = xs[0]? := hf 0 _ rfl
    have q1 : DataW.trod enc Try.prog w 0 (fun _ => true) true m 3 ((cs.drop 1).take (Try.prog.cellsOf 3)) = xs[1]? := hf 1 _ rfl
    have q2 : DataW.trod enc Try.prog w 0 (fun _ => true) true m 9 ((cs.drop 2).take (Try.prog.cellsOf 9)) = xs[2]? := hf 2 _ rfl
    have q3 : DataW.trod enc Try.prog w 0 (fun _ => true) true m 3 ((cs.drop 3).take (Try.prog.cellsOf 3)) = xs[3]? := hf 3 _ rfl
    have q4 : DataW.trod enc Try.prog w 0 (fun _ => true) true m 22 ((cs.drop 4).take (Try.prog.cellsOf 22)) = xs[4]? := hf 4 _ rfl
    clear hf h
    rw [cells24] at hcl
    obtain ⟨v0, v1, v2, v3, v4, rfl⟩ : ∃ v0 v1 v2 v3 v4, cs = [v0, v1, v2, v3, v4] := by
      match cs, hcl with
      | [v0, v1, v2, v3, v4], _ => exact ⟨_, _, _, _, _, rfl⟩
    obtain ⟨x0, x1, x2, x3, x4, rfl⟩ : ∃ x0 x1 x2 x3 x4, xs = [x0, x1, x2, x3, x4] := by
      match xs, hxl with
      | [x0, x1, x2, x3, x4], _ => exact ⟨_, _, _, _, _, rfl⟩
    simp only [cells3, cells9, cells22, List.drop_zero, List.take_succ_cons, List.take_zero, List.drop_succ_cons, List.getElem?_cons_zero, List.getElem?_cons_succ] at q0 q1 q2 q3 q4
    obtain ⟨a0, e0', rfl, w0⟩ := DataW.trod_int Try.underlying3 q0
    obtain ⟨a1, e1', rfl, w1⟩ := DataW.trod_int Try.underlying3 q1
    obtain ⟨s2, e2', rfl, w2⟩ := DataW.trod_string Try.underlying9 q2
    obtain ⟨a3, e3', rfl, w3⟩ := DataW.trod_int Try.underlying3 q3
    simp only [List.cons.injEq, and_true] at e0' e1' e2' e3'
    subst e0' e1' e2' e3'
    have hsz : s2.data.toList.length = s2.size := by rw [Array.length_toList]; rfl
    rcases DataW.trod_slice Try.underlying22 q4 with ⟨e4, rfl⟩ | ⟨ad, len, cap, elems, rest, m', rfl, e4, rfl, _, hlc, hcm, hel, hget, _, _⟩
    · simp only [List.cons.injEq, and_true] at e4
      subst e4
      refine ⟨⟨a0, a1, s2, a3, []⟩, none, 0, rfl, Nat.le_refl _, Kd.C_nil _ _, ?_, ?_⟩
      · rw [rngT]; exact ⟨i64_wf w1, by rw [rngL]; trivial⟩
      · rw [wtT, wtL]; simp only [List.map_cons, List.map_nil, Rows.uptoBulk, Rows.uptoBulkAll]; omega
    · simp only [List.cons.injEq, and_true] at e4
      subst e4
      simp only [cells24] at hget
      have hall : ∀ y ∈ elems, ∃ t : S24, wtT t ≤ Rows.uptoBulk y.1 ∧ rngT t ∧ True := by
        intro y hy
        obtain ⟨i, hi, rfl⟩ := List.getElem_of_mem hy
        have h1 := hget i (by omega)
        rw [List.getElem?_eq_getElem hi] at h1
        obtain ⟨cs', _, h2⟩ := Option.bind_eq_some_iff.mp h1
        obtain ⟨t, A, c, _, _, _, h3, h4⟩ := ih m' (by omega) cs' _ h2
        exact ⟨t, h4, h3, trivial⟩
      have hall2 : ∀ z ∈ (List.range len).zip elems, ∃ t : S24, (∃ c : List Value, c.length = 5 ∧ k24.K w t c ∧ ∀ i u, c[i]? = some u → w.cell? (ad.add (z.1 * 5 + i)) = some u) ∧ rngT t ∧ wtT t ≤ Rows.uptoBulk z.2.1 := by
        intro z hz
        obtain ⟨i, hi, rfl⟩ := List.getElem_of_mem hz
        rw [List.getElem_zip]
        simp only [List.length_zip, List.length_range] at hi
        simp only [List.getElem_range]
        have h1 := hget i (by omega)
        rw [List.getElem?_eq_getElem (by omega)] at h1
        obtain ⟨cs', h5, h2⟩ := Option.bind_eq_some_iff.mp h1
        obtain ⟨_, h6, h7⟩ := World.cells?_some h5
        obtain ⟨t, A, c, rfl, h8, h9, h3, h4⟩ := ih m' (by omega) cs' _ h2
        refine ⟨t, ⟨_, rfl, k24_mk w t h8 h9, fun j u hu => ?_⟩, h3, h4⟩
        have hj : j < 5 := by
          have := (List.getElem?_eq_some_iff.1 hu).1
          simpa using this
        have h10 := h7 j hj
        rw [hu] at h10
        rw [← h10]
        congr 1
        unfold Addr.add
        by_cases h11 : i * 5 = 0 <;> by_cases h12 : j = 0 <;> simp [h11, h12, Nat.add_assoc]
      obtain ⟨ts, htl, htr⟩ := choose_list (fun (t : S24) (z : Nat × (DataW H × List MemPlace)) => (∃ c : List Value, c.length = 5 ∧ k24.K w t c ∧ ∀ i u, c[i]? = some u → w.cell? (ad.add (z.1 * 5 + i)) = some u) ∧ rngT t ∧ wtT t ≤ Rows.uptoBulk z.2.1) _ hall2
      simp only [List.length_zip, List.length_range] at htl
      have htl2 : ts.length = len := by omega
      have hz : ∀ (i : Nat) (hi : i < elems.length), ((List.range len).zip elems)[i]? = some (i, elems[i]) := by
        intro i hi
        rw [List.getElem?_eq_getElem (by simp; omega), List.getElem_zip, List.getElem_range]
      have hlen : len ≤ 9223372036854775807 := by unfold maxLen at hcm; omega
      refine ⟨⟨a0, a1, s2, a3, ts⟩, some ad, cap, by rw [htl2], by simpa [htl2] using hlc, ?_, ?_, ?_⟩
      · refine ⟨rfl, by simpa [htl2] using hlen, fun _ => ⟨ad, rfl, fun j p hp => ?_⟩⟩
        have hj : j < len := by have h0 := (List.getElem?_eq_some_iff.1 hp).1; rw [← htl2]; exact h0
        exact (htr j p _ hp (hz j (by omega))).1
      · rw [rngT]
        refine ⟨i64_wf w1, rngL_of ts (fun t ht => ?_)⟩
        obtain ⟨i, hi, rfl⟩ := List.getElem_of_mem ht
        exact (htr i _ _ (List.getElem?_eq_getElem hi) (hz i (by omega))).2.1
      · have hw := wtL_bulk ts elems (by omega) (fun i t y h1 h2 => by
          have hi : i < len := by have := (List.getElem?_eq_some_iff.1 h1).1; omega
          have h3 := (htr i t _ h1 (hz i (by omega))).2.2
          rw [List.getElem?_eq_getElem (by omega)] at h2
          rw [Option.some.inj h2] at h3
          exact h3)
        rw [wtT]
        simp only [List.map_cons, List.map_nil, Rows.uptoBulk, Rows.uptoBulkAll]
        omega
/-- A node as an argument. -/
theorem open_node {H : Type} {enc : TypeId × Value → H} {w : World} {r : Reach} {b0 : Nat} {v : Value} {d : DataW H} {p : List MemPlace} (hv : Value.okWide Try.prog w r b0 24 v) (h : DataW.Trod enc Try.prog w 0 (fun _ => true) true 24 v d p) :
    ∃ (t : S24) (A : Option Addr) (c : Nat), v = nodeV t A c ∧ t.f4.length ≤ c ∧ k24.C w A t.f4.length t.f4 ∧ rngT t ∧ wtT t ≤ Rows.uptoBulk d := by
  obtain ⟨cs, rfl, hsz⟩ := okWide_struct Try.underlying24 hv
  obtain ⟨fuel, ht⟩ := h
  obtain ⟨t, A, c, e, h1, h2, h3, h4⟩ := open24 fuel _ _ ht
  refine ⟨t, A, c, ?_, h1, h2, h3, h4⟩
  have e2 : cs.toList = [.int .i64 t.f0, .int .i64 t.f1, .string t.f2, .int .i64 t.f3, .slice A t.f4.length c] := e
  show Value.agg cs = Value.agg _
  rw [← Array.toArray_toList (xs := cs), e2]
end Go.Proofs.Ytpphoifjhhidfaa.Der
