/- Arguments opened: a struct of whole numbers by value; a slice of whole numbers; a slice of slices of whole numbers: what the printed contracts ask of them. No condition. -/
import Derived.Test.YtijnmoceafcamaaRows
import Derived.Test.YtijnmoceafcamaaWMore
import Derived.WalkKit
import Derived.ProofKit
import Derived.OpenShut
import Derived.ChangeOld
import Derived.Below
import Derived.Deep.Matrix
namespace Go.Proofs.Ytijnmoceafcamaa.Opened
open Go.ChangeShapes Go.WideShapes Go.ChangeAt Go.RowKit Go.Deep
open Go.Proofs.YtijnmoceafcamaaW.PrintWords

section
variable {H : Type} {enc : TypeId × Value → H} {P : Program} {w : World} {base : Nat} {spare : Nat → Bool} {held : Bool}

/-- A struct all of whose fields are whole numbers of one kind, each in a cell of its own. -/
theorem rec_ints {r : Reach} {b0 : Nat} {t : TypeId} {k : IntKind} {fs : Array Field} {v : Value} {d : DataW H} {p : List MemPlace} (hs : P.underlying t = some (.struct fs))
    (hf : ∀ (i : Nat) (f : Field), fs[i]? = some f → f.offset = i ∧ P.underlying f.type = some (.int k) ∧ P.cellsOf f.type = 1) (hC : P.cellsOf t = fs.size)
    (hv : Value.okWide P w r b0 t v) (h : DataW.Trod enc P w base spare held t v d p) :
    ∃ xs : List Int, xs.length = fs.size ∧ v = .agg (xs.map (Value.int k)).toArray ∧ ∀ x ∈ xs, (Lit.int k x).wf = true := by
  obtain ⟨cs, rfl, hsz⟩ := okWide_struct hs hv
  obtain ⟨fuel, ht⟩ := h
  obtain ⟨ys, n, _, _, _, hyl, hg⟩ := DataW.trod_struct hs ht
  have hcell : ∀ i, i < fs.size → ∃ x : Int, cs[i]? = some (.int k x) ∧ (Lit.int k x).wf = true := by
    intro i hi
    obtain ⟨ho, hu, hc⟩ := hf i fs[i] (Array.getElem?_eq_getElem hi)
    have h1 := hg i fs[i] (Array.getElem?_eq_getElem hi)
    rw [ho, hc, List.getElem?_eq_getElem (by omega)] at h1
    obtain ⟨x, e, _, wx⟩ := DataW.trod_int hu h1
    refine ⟨x, ?_, wx⟩
    have hlt : i < cs.toList.length := by rw [Array.length_toList]; omega
    have e2 : ((Value.agg cs).cells.toList.drop i).take 1 = [cs.toList[i]] := by
      show (cs.toList.drop i).take 1 = _
      rw [List.drop_eq_getElem_cons hlt]
      rfl
    rw [e2] at e
    injection e with e
    rw [← Array.getElem?_toList, List.getElem?_eq_getElem hlt, e]
  have hlist : ∀ m, m ≤ fs.size → ∃ xs : List Int, xs.length = m ∧ (∀ (i : Nat) (x : Int), xs[i]? = some x → cs[i]? = some (Value.int k x)) ∧ ∀ x ∈ xs, (Lit.int k x).wf = true := by
    intro m
    induction m with
    | zero => intro _; exact ⟨[], rfl, fun i x hx => by simp at hx, fun x hx => by cases hx⟩
    | succ m ih =>
      intro hm
      obtain ⟨xs, hl, hx, hw⟩ := ih (by omega)
      obtain ⟨x, hc, wx⟩ := hcell m (by omega)
      refine ⟨xs ++ [x], by simp [hl], fun i y hy => ?_, fun y hy => ?_⟩
      · rw [List.getElem?_append] at hy
        split at hy
        · exact hx i y hy
        · rename_i hge
          have : i = m := by
            have := (List.getElem?_eq_some_iff.1 hy).1
            simp at this; omega
          subst this
          rw [hl, Nat.sub_self] at hy
          simp at hy
          rw [hc, hy]
      · rcases List.mem_append.1 hy with hy | hy
        · exact hw y hy
        · rw [List.mem_singleton] at hy; rw [hy]; exact wx
  obtain ⟨xs, hl, hx, hw⟩ := hlist fs.size (Nat.le_refl _)
  refine ⟨xs, hl, ?_, hw⟩
  congr 1
  apply Array.ext_getElem?
  intro i
  rw [show (List.map (Value.int k) xs).toArray[i]? = (List.map (Value.int k) xs)[i]? from by simp, List.getElem?_map]
  by_cases hi : i < fs.size
  · have h1 : xs[i]? = some xs[i] := List.getElem?_eq_getElem (by omega)
    rw [h1, hx i _ h1]; rfl
  · rw [Array.getElem?_eq_none (by omega), List.getElem?_eq_none (by omega)]; rfl

/-- A slice of whole numbers. -/
theorem ints_C {k : IntKind} {a : Option Addr} {len cap : Nat} {zs : List Int} (h : (a = none ∧ len = 0 ∧ cap = 0 ∧ zs = []) ∨ ∃ x, a = some x ∧ len ≤ cap ∧ cap ≤ maxLen ∧ zs.length = cap ∧ (∀ i, i < zs.length → w.cell? (x.add i) = some (.int k (zs.getD i 0))) ∧ ∀ n ∈ zs, (Lit.int k n).wf = true) :
    ∃ l : List Int, len = l.length ∧ Kd.C (Kd.int k) w a l.length l ∧ l.length ≤ cap ∧ l.length ≤ maxLen ∧ ∀ x ∈ l, (Lit.int k x).wf = true := by
  obtain ⟨l, e, hr, hm, hw, hc⟩ := ReadsInt.ofRowC h
  exact ⟨l, e, Kd.C_of_reads (d := (0 : Int)) (h1 := fun _ => rfl) hr, hc, hm, hw⟩

theorem open_ints_C {t e : TypeId} {k : IntKind} {a : Option Addr} {len cap : Nat} {d : DataW H} {p : List MemPlace} (ht : P.underlying t = some (.slice e)) (he : P.underlying e = some (.int k)) (hc : P.cellsOf e = 1)
    (h : DataW.Trod enc P w base (fun _ => true) held t (.slice a len cap) d p) :
    ∃ l : List Int, len = l.length ∧ Kd.C (Kd.int k) w a l.length l ∧ l.length ≤ cap ∧ l.length ≤ maxLen ∧ ∀ x ∈ l, (Lit.int k x).wf = true := by
  obtain ⟨fuel, hf⟩ := h
  rcases open_ints ht he hc hf with ⟨hcs, _⟩ | ⟨x, l, c, zs, hcs, _, hl, hm, hz, _, hcell, hwz⟩
  · simp [Value.cells] at hcs
    obtain ⟨rfl, rfl, rfl⟩ := hcs
    exact ints_C (.inl ⟨rfl, rfl, rfl, rfl⟩)
  · simp [Value.cells] at hcs
    obtain ⟨rfl, rfl, rfl⟩ := hcs
    exact ints_C (.inr ⟨_, rfl, hl, hm, by simpa using hz, hcell, hwz⟩)

/-- A slice of slices of whole numbers. -/
theorem open_rows_C {t e q : TypeId} {k : IntKind} {a : Option Addr} {len cap : Nat} {d : DataW H} {p : List MemPlace} (ht : P.underlying t = some (.slice e)) (he : P.underlying e = some (.slice q)) (hq : P.underlying q = some (.int k))
    (ce : P.cellsOf e = 1) (cq : P.cellsOf q = 1) (h : DataW.Trod enc P w base (fun _ => true) held t (.slice a len cap) d p) :
    ∃ l : List (List Int), len = l.length ∧ Kd.C (Kd.slice q (Kd.int k)) w a l.length l ∧ l.length ≤ cap ∧ l.length ≤ maxLen ∧ ∀ r ∈ l, r.length ≤ maxLen ∧ ∀ x ∈ r, (Lit.int k x).wf = true := by
  obtain ⟨fuel, hf⟩ := h
  rcases open_int_rows ht he hq ce cq hf with ⟨hcs, _⟩ | ⟨x, l, c, A, L, C, Z, hcs, _, hl, hm, _, hcell⟩
  · simp [Value.cells] at hcs
    obtain ⟨rfl, rfl, rfl⟩ := hcs
    exact ⟨[], rfl, Kd.C_nil _ _, by simp, by simp, fun r hr => by cases hr⟩
  · simp [Value.cells] at hcs
    obtain ⟨rfl, rfl, rfl⟩ := hcs
    have each : ∀ r, r < cap → ∃ y : List Int, w.cell? (x.add r) = some (.slice (A r) y.length (C r)) ∧ y.length ≤ C r ∧ Kd.C (Kd.int k) w (A r) y.length y ∧ y.length ≤ maxLen ∧ ∀ n ∈ y, (Lit.int k n).wf = true := by
      intro r hr
      obtain ⟨h1, h2, h3, h4, h5, h6, h7⟩ := hcell r hr
      have hrow : ∃ y : List Int, L r = y.length ∧ Kd.C (Kd.int k) w (A r) y.length y ∧ y.length ≤ C r ∧ y.length ≤ maxLen ∧ ∀ n ∈ y, (Lit.int k n).wf = true := by
        cases hA : A r with
        | none =>
          have hc0 := h6 hA
          exact ints_C (zs := Z r) (cap := C r) (.inl ⟨rfl, by omega, hc0, List.eq_nil_of_length_eq_zero (by omega)⟩)
        | some a' =>
          obtain ⟨_, hc⟩ := h7 a' hA
          exact ints_C (zs := Z r) (cap := C r) (.inr ⟨a', rfl, h2, h3, h4, fun i hi => hc i (by omega), h5⟩)
      obtain ⟨y, e1, e2, e3, e4, e5⟩ := hrow
      rw [e1] at h1
      exact ⟨y, h1, e3, e2, e4, e5⟩
    have hlist : ∀ m, m ≤ len → ∃ ys : List (List Int), ys.length = m ∧ (∀ (i : Nat) (y : List Int), ys[i]? = some y → w.cell? (x.add i) = some (.slice (A i) y.length (C i)) ∧ y.length ≤ C i ∧ Kd.C (Kd.int k) w (A i) y.length y) ∧ ∀ r ∈ ys, r.length ≤ maxLen ∧ ∀ n ∈ r, (Lit.int k n).wf = true := by
      intro m
      induction m with
      | zero => intro _; exact ⟨[], rfl, fun i y hy => by simp at hy, fun r hr => by cases hr⟩
      | succ m ih =>
        intro hmm
        obtain ⟨ys, hyl, hy, hw⟩ := ih (by omega)
        obtain ⟨y, g1, g2, g3, g4, g5⟩ := each m (by omega)
        refine ⟨ys ++ [y], by simp [hyl], fun i z hz => ?_, fun r hr => ?_⟩
        · rw [List.getElem?_append] at hz
          split at hz
          · exact hy i z hz
          · have : i = m := by
              have := (List.getElem?_eq_some_iff.1 hz).1
              simp at this; omega
            subst this
            rw [hyl, Nat.sub_self] at hz
            simp at hz
            subst hz
            exact ⟨g1, g2, g3⟩
        · rcases List.mem_append.1 hr with hr | hr
          · exact hw r hr
          · rw [List.mem_singleton] at hr; subst hr; exact ⟨g4, g5⟩
    obtain ⟨ys, hyl, hy, hw⟩ := hlist len (Nat.le_refl _)
    have hml : len ≤ maxLen := by omega
    refine ⟨ys, hyl.symm, ⟨rfl, by rw [hyl]; unfold maxLen at hml; omega, fun _ => ⟨x, rfl, fun j y hj => ?_⟩⟩, by omega, by omega, hw⟩
    obtain ⟨g1, g2, g3⟩ := hy j y hj
    refine ⟨[.slice (A j) y.length (C j)], rfl, ⟨_, _, rfl, g2, g3⟩, fun i u hu => ?_⟩
    cases i with
    | zero =>
      simp at hu
      subst hu
      simpa [Kd.slice] using g1
    | succ i => simp at hu
end
end Go.Proofs.Ytijnmoceafcamaa.Opened
