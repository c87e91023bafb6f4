/- What the row's list gives to the law: the cells of two package-level variables. -/
import Derived.Test.YtpmehdggikjkfaaGreatDoorRows
import Derived.Test.YtpmehdggikjkfaaGreatDoorTop
import Derived.WalkKit
import Derived.ProofKit
import Derived.Lay
import Derived.SevenTiedAt
import Derived.OpenShut
import Derived.Lib.LaidTab
namespace Go.Proofs.YtpmehdggikjkfaaGreatDoor
open Go.ChangeShapes Go.WideShapes Go.ChangeAt Go.RowKit
namespace TopRow
/-! ### what the list gives -/
def Reads1 (P : Program) (w : World) (n : String) (d : DataW Unit) : Prop :=
  ∃ g t cs fuel p, P.globalNamed n = some g ∧ (P.globals[g]?).map (·.type) = some t ∧ w.var? P n = some cs ∧ DataW.trod (fun _ => ()) P w 0 (fun _ => true) false fuel t cs.toList = some (d, p)
theorem laid_reads {P : Program} {w : World} : ∀ {l : List (String × DataW Unit)} {ps : List MemPlace}, DataW.LaidVars P w l ps → ∀ n d, (n, d) ∈ l → Reads1 P w n d
  | [], _, _, _, _, hm => by cases hm
  | (n', d') :: r, ps, h, n, d, hm => by
    obtain ⟨g, t, cs, fuel, p, q, h1, h2, h3, h4, h5, _⟩ := h
    rcases List.mem_cons.1 hm with e | e
    · cases e
      exact ⟨g, t, cs, fuel, p, h1, h2, h3, h4⟩
    · exact laid_reads h5 n d e
theorem laid_reads' {P : Program} {w : World} {l : List (String × DataW Unit)} (h : laidMet P l w) {n : String} {d : DataW Unit} (hm : (n, d) ∈ l) : Reads1 P w n d :=
  let ⟨_, hv, _⟩ := h
  laid_reads hv n d hm
theorem heap_of_var {P : Program} {w : World} {n : String} {g : Nat} {cs : Array Value} (hg : P.globalNamed n = some g) (h : w.var? P n = some cs) : ∃ ty fr, w.heap[g]? = some (.cells cs ty fr) := by
  simp only [World.var?, hg, Option.bind_some] at h
  split at h
  · rename_i c ty fr hc
    cases h
    exact ⟨ty, fr, hc⟩
  · cases h
theorem chunks {α : Type} (f : α → List Value) : ∀ (tab : List α) (cs : List Value), (∀ a, (f a).length = 3) → cs.length = tab.length * 3 → (∀ (i : Nat) a, tab[i]? = some a → (cs.drop (i * 3)).take 3 = f a) → cs = tab.flatMap f
  | [], cs, _, hl, _ => by
    have : cs.length = 0 := by simpa using hl
    simpa using List.length_eq_zero_iff.1 this
  | a :: r, cs, hf, hl, h => by
    have h0 : cs.take 3 = f a := by simpa using h 0 a rfl
    have ih := chunks f r (cs.drop 3) hf (by rw [List.length_drop, hl]; simp; omega) fun i b hb => by
      rw [List.drop_drop, show 3 + i * 3 = (i + 1) * 3 by omega]
      exact h (i + 1) b (by simpa using hb)
    rw [List.flatMap_cons, ← h0, ← ih, List.take_append_drop]
def kindsTab : List (List UInt8 × Int × Bool) := [([], 0, false), ([100], 0, true), ([97], 0, true), ([112], -1, false), ([101], 2, false), ([109], 2, false), ([104], 1, false), ([107], 1, true), ([117], 1, false), ([115], 2, false), ([120], 2, false)]
def rowD {H : Type} (x : List UInt8 × Int × Bool) : DataW H := .agg [.lit (.string x.1), .lit (.int .i64 x.2.1), .lit (.bool x.2.2)]
def rowC (x : List UInt8 × Int × Bool) : List Value := [.string ⟨⟨x.1⟩⟩, .int .i64 x.2.1, .bool x.2.2]
theorem three {α : Type} {l : List α} (h : l.length = 3) : ∃ a b c, l = [a, b, c] := by
  match l, h with
  | [a, b, c], _ => exact ⟨a, b, c, rfl⟩
theorem c178 : Tryz.prog.cellsOf 178 = 3 := by kernel_rfl
theorem c179 : Tryz.prog.cellsOf 179 = 33 := by kernel_rfl
theorem c225 : Tryz.prog.cellsOf 225 = 20 := by kernel_rfl
theorem c164 : Tryz.prog.cellsOf 164 = 1 := by kernel_rfl
theorem c9 : Tryz.prog.cellsOf 9 = 1 := by kernel_rfl
theorem c3 : Tryz.prog.cellsOf 3 = 1 := by kernel_rfl
theorem c4 : Tryz.prog.cellsOf 4 = 1 := by kernel_rfl
theorem row_cells {w : World} {fuel : Nat} {cs : List Value} {x : List UInt8 × Int × Bool} {p : List MemPlace} (h : DataW.trod (fun _ : TypeId × Value => ()) Tryz.prog w 0 (fun _ => true) false fuel 178 cs = some (rowD x, p)) : cs = rowC x := by
  obtain ⟨xs, n, rfl, hx, hl, hxl, hall⟩ := DataW.trod_struct Tryz.underlying178 h
  rw [c178] at hl
  obtain ⟨u, v, t, rfl⟩ := three hl
  obtain ⟨a, b, c, rfl⟩ := three (l := xs) hxl
  have hd := congrArg Prod.fst hx
  simp only [rowD, List.map_cons, List.map_nil, DataW.agg.injEq, List.cons.injEq, and_true] at hd
  obtain ⟨ha, hb, hc⟩ := hd
  have k0 : DataW.trod (fun _ : TypeId × Value => ()) Tryz.prog w 0 (fun _ => true) false n 9 (([u, v, t].drop 0).take (Tryz.prog.cellsOf 9)) = [a, b, c][0]? := hall 0 _ rfl
  have k1 : DataW.trod (fun _ : TypeId × Value => ()) Tryz.prog w 0 (fun _ => true) false n 3 (([u, v, t].drop 1).take (Tryz.prog.cellsOf 3)) = [a, b, c][1]? := hall 1 _ rfl
  have k2 : DataW.trod (fun _ : TypeId × Value => ()) Tryz.prog w 0 (fun _ => true) false n 4 (([u, v, t].drop 2).take (Tryz.prog.cellsOf 4)) = [a, b, c][2]? := hall 2 _ rfl
  rw [c9] at k0
  rw [c3] at k1
  rw [c4] at k2
  simp only [List.drop_zero, List.drop_succ_cons, List.take_succ_cons, List.take_zero, List.getElem?_cons_zero, List.getElem?_cons_succ] at k0 k1 k2
  obtain ⟨s, e0, rfl, _⟩ := DataW.trod_string Tryz.underlying9 k0
  obtain ⟨m, e1, rfl, _⟩ := DataW.trod_int Tryz.underlying3 k1
  obtain ⟨q, e2, rfl⟩ := DataW.trod_bool Tryz.underlying4 k2
  simp only [DataW.lit.injEq, Lit.string.injEq] at ha
  simp only [DataW.lit.injEq, Lit.int.injEq, true_and] at hb
  simp only [DataW.lit.injEq, Lit.bool.injEq] at hc
  have hs : s = ⟨⟨x.1⟩⟩ := Rf.ba_ext ha.symm
  simp only [List.cons.injEq, and_true] at e0 e1 e2
  rw [e0, e1, e2, hs, ← hb, ← hc]
  rfl
theorem kinds_cells {w : World} {fuel : Nat} {cs : List Value} {p : List MemPlace} (h : DataW.trod (fun _ : TypeId × Value => ()) Tryz.prog w 0 (fun _ => true) false fuel 179 cs = some (Rows.laid_sluiceway_term_kinds, p)) : cs = Rf.kindsC := by
  obtain ⟨xs, n, rfl, hx, hl, hxl, hall⟩ := DataW.trod_array Tryz.underlying179 h
  rw [c179] at hl
  have hd : xs.map (·.1) = kindsTab.map rowD := by
    have := congrArg Prod.fst hx
    have e : (DataW.agg (kindsTab.map rowD) : DataW Unit) = .agg (xs.map (·.1)) := this
    exact (DataW.agg.inj e).symm
  have := chunks rowC kindsTab cs (fun _ => rfl) (by rw [hl]; rfl) fun i a ha => by
    have hi : i < 11 := by
      have := (List.getElem?_eq_some_iff.1 ha).1
      simpa [kindsTab] using this
    have h1 := hall i hi
    rw [c178] at h1
    have h2 : (xs.map (·.1))[i]? = some (rowD a) := by rw [hd, List.getElem?_map, ha]; rfl
    rw [List.getElem?_map, Option.map_eq_some_iff] at h2
    obtain ⟨y, hy1, hy2⟩ := h2
    rw [hy1] at h1
    obtain ⟨yd, yp⟩ := y
    simp only at hy2
    subst hy2
    exact row_cells h1
  rw [this]
  rfl
def powTab : List Int := [1, 10, 100, 1000, 10000, 100000, 1000000, 10000000, 100000000, 1000000000, 10000000000, 100000000000, 1000000000000, 10000000000000, 100000000000000, 1000000000000000, 10000000000000000, 100000000000000000, 1000000000000000000, 10000000000000000000]
theorem pow_cells {w : World} {fuel : Nat} {cs : List Value} {p : List MemPlace} (h : DataW.trod (fun _ : TypeId × Value => ()) Tryz.prog w 0 (fun _ => true) false fuel 225 cs = some (Rows.laid_internal_strconv_uint64pow10, p)) : cs = Rf.powC := by
  have e : (Rows.laid_internal_strconv_uint64pow10 : DataW Unit) = Lib.tabData .u64 powTab := rfl
  rw [e] at h
  exact Lib.cells_of_tab Tryz.underlying225 Tryz.underlying164 c164 c225 h
end TopRow
end Go.Proofs.YtpmehdggikjkfaaGreatDoor
