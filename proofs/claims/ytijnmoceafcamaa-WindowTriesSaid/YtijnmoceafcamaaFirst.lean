/- window.first: the least of the hits from one counter to another one (below 2^40), or none; it changes nothing that was there. Condition: a row of at most 2^47 bytes. -/
import Derived.Test.YtijnmoceafcamaaShelf
import Derived.Test.YtijnmoceafcamaaWMore
import Derived.WalkLawsBesides
namespace Go.Proofs.Ytijnmoceafcamaa.First
open Go.Shelf Go.RowKit Go.Lib Go.Sort
open Go.Proofs.YtijnmoceafcamaaW.PrintWords

/-- A cell that was stored into twice holds what was stored last (the walk's simp asks it at a lower depth so). -/
@[go_sem] theorem cell?_setCell_twice (w : World) (a : Addr) (u v : Value) (h : (w.cell? a).isSome = true) : ((w.setCell a u).setCell a v).cell? a = some v :=
  World.cell?_setCell_same' _ a v (by rw [World.cell?_setCell_same' w a u h]; rfl)

/-- What the hits are cut to. -/
def hitB (frm tt x : Int) : Bool := decide (frm ≤ x) && decide (x ≤ min tt 1099511627775)
def flt (l : List Int) (frm tt : Int) : List Int := l.filter (hitB frm tt)
def first (l : List Int) (frm tt : Int) : Int × Bool := if flt l frm tt = [] then (0, false) else (Lib.minOf (flt l frm tt), true)

theorem cells_of {w : World} {A : Option Addr} {l : List Int} (h : Kd.C (Kd.int .i64) w A l.length l) (hn : 0 < l.length) :
    ∃ b off, A = some ⟨b, off, none⟩ ∧ ∀ j, j < l.length → w.cell? ⟨b, off + j, none⟩ = some (.int .i64 (l.getD j 0)) := by
  obtain ⟨ad, e, hc⟩ := Kd.at_int h 0 (Int.le_refl _) (by omega)
  obtain ⟨b, off, spot⟩ := ad
  have hspot : spot = none := by simpa [Addr.add] using World.cell?_spot hc
  subst hspot
  refine ⟨b, off, e, fun j hj => ?_⟩
  obtain ⟨ad2, e2, hc2⟩ := Kd.at_int h (j : Int) (by omega) (by omega)
  rw [e] at e2
  injection e2 with e2
  subst e2
  rcases Nat.eq_zero_or_pos j with rfl | hj0
  · simpa [Addr.add, rd] using hc2
  · have : ¬ j = 0 := by omega
    simpa [Addr.add, rd, this] using hc2

/-- The closure: whether a hit is struck. -/
theorem closure (frm tt x : Int) (B1 B2 : Nat) (W : World) (h1 : W.cell? ⟨B1, 0, none⟩ = some (.int .i64 frm)) (h2 : W.cell? ⟨B2, 0, none⟩ = some (.int .i64 tt)) :
    FnGives Try.prog 58 #[.pointer (some ⟨B1, 0, none⟩), .pointer (some ⟨B2, 0, none⟩)] #[.int .i64 x] (.bool (!hitB frm tt x)) W := by
  show Calls Try.prog 58 #[.int .i64 x, .pointer (some ⟨B1, 0, none⟩), .pointer (some ⟨B2, 0, none⟩)] W _
  go_enter Try.func58, Try.ntmps58
  go_wp2
  · go_ret
    refine ⟨?_, 0, rfl⟩
    show Ending.returned (.bool !decide (x ≤ min tt 1099511627775)) = _
    unfold hitB
    rw [decide_eq_true (by assumption : frm ≤ x)]
    rfl
  · go_ret
    refine ⟨?_, 0, rfl⟩
    show Ending.returned (.bool true) = _
    have hlt : x < frm := by assumption
    unfold hitB
    rw [decide_eq_false (by omega : ¬ frm ≤ x)]
    rfl

theorem zero3 : ∀ w, (zeroValue 3).run Try.prog w = .ok (.int .i64 0) w := Try.zeroValue3

/-- The least of what is left. -/
theorem delete_calls (g cap B1 B2 : Nat) (l : List Int) (frm tt : Int) (w : World) (hH : Holds (Value.int .i64) w g 0 l.toArray) (hb1 : B1 < w.heap.size) (hb2 : B2 < w.heap.size) (hn1 : B1 ≠ g) (hn2 : B2 ≠ g)
    (h1 : w.cell? ⟨B1, 0, none⟩ = some (.int .i64 frm)) (h2 : w.cell? ⟨B2, 0, none⟩ = some (.int .i64 tt)) (hsz : l.length ≤ 9223372036854775807) (hcap : l.length ≤ cap) :
    Calls Try.prog 56 #[.slice (some ⟨g, 0, none⟩) l.length cap, .func (.func 58) #[] #[.pointer (some ⟨B1, 0, none⟩), .pointer (some ⟨B2, 0, none⟩)]] w fun e w' =>
      e = .returned (.slice (some ⟨g, 0, none⟩) (flt l frm tt).length cap) ∧ (∀ j, j < (flt l frm tt).length → w'.cell? ⟨g, 0 + j, none⟩ = some (.int .i64 ((flt l frm tt).getD j 0))) ∧ w.grownBy w' (some g) := by
  have eg : ∀ args w, (callFunc 58 args).run Try.prog w = .ok (.enter 58 args) w := enters_of Try.func58 (by kernel_rfl) rfl
  have hp : PredAt Try.prog 58 #[.pointer (some ⟨B1, 0, none⟩), .pointer (some ⟨B2, 0, none⟩)] (Value.int .i64) (fun x => !hitB frm tt x) w :=
    fun W x hb => closure frm tt x B1 B2 W ((hb.cell (p := ⟨B1, 0, none⟩) hb1).trans h1) ((hb.cell (p := ⟨B2, 0, none⟩) hb2).trans h2)
  have cellAt : ∀ (B : Nat) (v : Value) (n : Nat) (os : Array Obj) (dk : Array Int), B < w.heap.size → B ≠ g → w.cell? ⟨B, 0, none⟩ = some v → (sortWorld (Value.int .i64) w g 0 n dk os).cell? ⟨B, 0, none⟩ = some v := by
    intro B v n os dk hB hne hc
    unfold sortWorld
    rw [cell?_grow _ _ _ (by show B < (putRow _ _ _ _ _).heap.size; rw [size_putRow]; exact hB), cell?_putRow_other _ _ g 0 _ _ (Or.inl hne)]
    exact hc
  have hpo : PredOver Try.prog 58 #[.pointer (some ⟨B1, 0, none⟩), .pointer (some ⟨B2, 0, none⟩)] (Value.int .i64) (fun x => !hitB frm tt x) g 0 l.toArray.size w :=
    fun n os dk x _ => closure frm tt x B1 B2 _ (cellAt B1 _ n os dk hb1 hn1 h1) (cellAt B2 _ n os dk hb2 hn2 h2)
  have hcon := Try.slices_DeleteFunc (Value.int .i64) (fun _ => rfl) (fun x => !hitB frm tt x) 58 #[.pointer (some ⟨B1, 0, none⟩), .pointer (some ⟨B2, 0, none⟩)] eg 0 zero3 g 0 cap l.toArray w hp hpo hH (by simpa using hsz) (by simpa using hcap)
  rw [List.size_toArray] at hcon
  have hf : (l.filter fun x => !(!hitB frm tt x)) = flt l frm tt := by unfold flt; congr 1; funext x; simp
  simp only [hf] at hcon
  refine hcon.mono ?_
  rintro e w' ⟨rfl, q, rfl⟩
  have hle : (flt l frm tt).length ≤ l.length := List.length_filter_le _ _
  have hHa : Holds (Value.int .i64) (Sort.ahead w q) g 0 l.toArray := holds_ahead (Value.int .i64) w q g 0 _ hH
  refine ⟨rfl, fun j hj => ?_, ?_⟩
  · rw [cell?_putRow (Value.int .i64) _ g 0 l.toArray _ hHa (by simp; omega) j (by simp; omega)]
    congr 2
    rw [getElem!_pos _ j (by simp; omega)]
    simp [hj]
  · refine ⟨rfl, rfl, rfl, by simp, fun k hk hne => ?_⟩
    have : g ≠ k := fun e => hne (by rw [e])
    simp [putRow, mapBlock, Sort.ahead, Array.getElem?_modify, this]

theorem delete_empty (a : Option Addr) (c : Nat) (fv : Value) (w : World) :
    Calls Try.prog 56 #[.slice a 0 c, fv] w fun e w' => e = .returned (.slice a 0 c) ∧ w' = w := by
  have hc := Try.slices_IndexFunc_empty (α := Int) a c fv w
  go_enter Try.func56, Try.ntmps56
  go_wp2_with (go_at_call 61; refine hc.mono ?_; rintro e w' ⟨rfl, rfl⟩)
  go_ret
  exact ⟨rfl, rfl⟩

theorem holds_of_blockF {w : World} {g : Nat} {cur : Array Value} {e : TypeId} {ss : List Int} (hb : w.heap[g]? = some (.cells cur e (0, 0))) (ht : cur.toList.take ss.length = ss.map (Value.int .i64)) : Holds (Value.int .i64) w g 0 ss.toArray := by
  intro j hj
  have hj' : j < ss.length := by simpa using hj
  have hcur : cur[j]? = some (.int .i64 ss[j]!) := by
    have h1 : (cur.toList.take ss.length)[j]? = (ss.map (Value.int .i64))[j]? := by rw [ht]
    rw [List.getElem?_take_of_lt hj', Array.getElem?_toList, List.getElem?_map, List.getElem?_eq_getElem hj'] at h1
    rw [h1, getElem!_pos ss j hj']
    rfl
  have e1 : ss.toArray[j]! = ss[j]! := by rw [getElem!_pos _ j (by simpa using hj'), getElem!_pos ss j hj']; simp
  rw [e1]
  refine ⟨?_, ?_⟩
  · simp [World.cell?, hb, hcur]
  · simp [World.frozen?, hb]

def two (w : World) (frm tt : Int) : World := (w.alloc (.cells #[.int .i64 frm] 3)).alloc (.cells #[.int .i64 tt] 3)

/-- What is known behind the copy: a slice of the call's own, and the two variables. -/
structure Copied (w w1 : World) (frm tt : Int) (v : Value) (l : List Int) : Prop where
  below : Below w.heap.size w w1
  size : w.heap.size + 2 ≤ w1.heap.size
  c1 : w1.cell? ⟨w.heap.size, 0, none⟩ = some (.int .i64 frm)
  c2 : w1.cell? ⟨w.heap.size + 1, 0, none⟩ = some (.int .i64 tt)
  row : w1.ownsRow (w.heap.size + 2) 3 1 v l.length (l.map (Value.int .i64))

theorem copied {w w1 : World} {frm tt : Int} {v : Value} {l : List Int} (hb : Below (two w frm tt).heap.size (two w frm tt) w1) (hr : w1.ownsRow (two w frm tt).heap.size 3 1 v l.length (l.map (Value.int .i64))) : Copied w w1 frm tt v l := by
  have hs : (two w frm tt).heap.size = w.heap.size + 2 := by simp [two]
  refine ⟨?_, by have := hb.size; omega, ?_, ?_, by rw [← hs]; exact hr⟩
  · exact (((Below.refl _ _).alloc (Nat.le_refl _) _).alloc (by simp) _).trans (hb.mono (by simp [two]; omega))
  · refine (hb.cell (p := ⟨w.heap.size, 0, none⟩) (by rw [hs]; show w.heap.size < _; omega)).trans ?_
    simp [two]
  · refine (hb.cell (p := ⟨w.heap.size + 1, 0, none⟩) (by rw [hs]; show w.heap.size + 1 < _; omega)).trans ?_
    simp [two]

theorem clone_calls (A0 : Option Addr) (c0 : Nat) (l0 : List Int) (frm tt : Int) (w : World) (hr0 : Kd.C (Kd.int .i64) w A0 l0.length l0) (hc0 : l0.length ≤ c0) (hbig : l0.length * 8 ≤ 140737488355328) :
    Calls Try.prog 57 #[.slice A0 l0.length c0] (two w frm tt) fun e w1 => ∃ v, e = .returned v ∧ Copied w w1 frm tt v l0 := by
  rcases Nat.eq_zero_or_pos l0.length with h0 | h0
  · have hl : l0 = [] := List.eq_nil_of_length_eq_zero h0
    subst hl
    cases A0 with
    | none =>
      refine (Try.slices_Clone_int_nil 0 c0 _).mono ?_
      rintro e w1 ⟨rfl, rfl⟩
      exact ⟨_, rfl, copied (Below.refl _ _) (World.ownsRow_nil _ _ _ _)⟩
    | some a =>
      refine (Try.slices_Clone_int_zero a c0 _).mono ?_
      rintro e w1 ⟨v, rfl, hr, _, hb⟩
      exact ⟨_, rfl, copied hb hr⟩
  · obtain ⟨b, off, rfl, hc⟩ := cells_of hr0 h0
    have hb : ∀ j, j < l0.length → b < w.heap.size := fun j hj => World.block_lt_of_cell? w _ (hc j hj)
    refine (Try.slices_Clone_int b off l0.length c0 l0 (two w frm tt) (Nat.le_refl _) hbig (fun j hj => ?_)).mono ?_
    · unfold two
      exact Lib.cell?_alloc_some _ (Lib.cell?_alloc_some _ (hc j hj))
    · rintro e w1 ⟨v, rfl, hr, _, hb1⟩
      rw [List.take_length] at hr
      exact ⟨_, rfl, copied hb1 hr⟩

/-- What is known behind the cut. -/
structure Cut (w w2 : World) (v : Value) (f : List Int) : Prop where
  below : Below w.heap.size w w2
  shape : (f = [] ∧ ∃ a c, v = .slice a 0 c) ∨ ∃ g c, v = .slice (some ⟨g, 0, none⟩) f.length c ∧ ∀ j, j < f.length → w2.cell? ⟨g, 0 + j, none⟩ = some (.int .i64 (f.getD j 0))

theorem cut_calls (frm tt : Int) (v : Value) (l : List Int) (w w1 : World) (h : Copied w w1 frm tt v l) (hsz : l.length ≤ 9223372036854775807) :
    Calls Try.prog 56 #[v, .func (.func 58) #[] #[.pointer (some ⟨w.heap.size, 0, none⟩), .pointer (some ⟨w.heap.size + 1, 0, none⟩)]] w1 fun e w2 => ∃ v2, e = .returned v2 ∧ Cut w w2 v2 (flt l frm tt) := by
  have hlen := h.row.1
  rcases h.row.2 with ⟨rfl, hx⟩ | ⟨g, cap, cur, rfl, hg, hh, hr⟩
  · have hl : l = [] := by simpa using hx
    subst hl
    refine (delete_empty none 0 _ w1).mono ?_
    rintro e w2 ⟨rfl, rfl⟩
    exact ⟨_, rfl, h.below, .inl ⟨rfl, _, _, rfl⟩⟩
  · obtain ⟨hcl, _, _, hr⟩ := hr
    rw [Nat.mul_one] at hr
    have hH : Holds (Value.int .i64) w1 g 0 l.toArray := holds_of_blockF hh hr
    refine (delete_calls g cap w.heap.size (w.heap.size + 1) l frm tt w1 hH (by have := h.size; omega) (by have := h.size; omega) (by omega) (by omega) h.c1 h.c2 hsz hcl).mono ?_
    rintro e w2 ⟨rfl, hc, hgr⟩
    exact ⟨_, rfl, h.below.grown hgr (by have := h.size; omega) (fun k hk => by cases hk; omega), .inr ⟨g, cap, rfl, hc⟩⟩

theorem min_calls (f : List Int) (g c : Nat) (w2 : World) (hc : ∀ j, j < f.length → w2.cell? ⟨g, 0 + j, none⟩ = some (.int .i64 (f.getD j 0))) (h0 : 0 < f.length) (hsz : f.length ≤ 9223372036854775807) :
    Calls Try.prog 59 #[.slice (some ⟨g, 0, none⟩) f.length c] w2 fun e w3 => e = .returned (.int .i64 (Lib.minOf f)) ∧ w3 = w2 := by
  have := Try.slices_Min_int g 0 f.length c f w2 h0 (Nat.le_refl _) hsz hc
  rw [List.take_length] at this
  exact this

set_option maxHeartbeats 1000000 in
theorem first_calls (A0 : Option Addr) (c0 : Nat) (l0 : List Int) (frm tt r1 : Int) (r2 : Bool) (w : World) (hr0 : Kd.C (Kd.int .i64) w A0 l0.length l0) (hc0 : l0.length ≤ c0) (hbig : l0.length * 8 ≤ 140737488355328) (h : first l0 frm tt = (r1, r2)) :
    Calls Try.prog 48 #[.slice A0 l0.length c0, .int .i64 frm, .int .i64 tt] w fun e w' => e = .returned (.tuple #[.int .i64 r1, .bool r2]) ∧ Below w.heap.size w w' := by
  have C1 := Aside0.mk (clone_calls A0 c0 l0 frm tt w hr0 hc0 hbig)
  have C2 := Aside0.mk (fun v w1 (hk : Copied w w1 frm tt v l0) => cut_calls frm tt v l0 w w1 hk (by omega))
  have HB := Aside0.mk hbig
  have HF := Aside0.mk h
  clear hr0 hc0 hbig h
  go_enter Try.func48, Try.ntmps48
  go_wp2_with fail
  refine C1.out.mono ?_
  rintro e w1 ⟨v, rfl, hk⟩
  have HK := Aside0.mk hk
  clear hk
  go_wp2_with fail
  refine (C2.out v w1 HK.out).mono ?_
  rintro e w2 ⟨v2, rfl, hcut⟩
  have hb := Aside0.mk hcut.below
  rcases hcut.shape with ⟨hf, a, c, rfl⟩ | ⟨g, c, rfl, hc⟩
  · have hr : r1 = 0 ∧ r2 = false := by
      have := HF.out
      unfold first at this
      rw [if_pos hf] at this
      injection this with h1 h2
      exact ⟨h1.symm, h2.symm⟩
    obtain ⟨rfl, rfl⟩ := hr
    clear hf hcut
    go_wp2
    go_ret2
    exact ⟨rfl, hb.out⟩
  · have hlen : (flt l0 frm tt).length ≤ l0.length := List.length_filter_le _ _
    rcases Nat.eq_zero_or_pos (flt l0 frm tt).length with h0 | h0
    · have hr : r1 = 0 ∧ r2 = false := by
        have := HF.out
        unfold first at this
        rw [if_pos (List.eq_nil_of_length_eq_zero h0)] at this
        injection this with h1 h2
        exact ⟨h1.symm, h2.symm⟩
      obtain ⟨rfl, rfl⟩ := hr
      rw [h0]
      clear hc hcut h0 hlen
      go_wp2
      go_ret2
      exact ⟨rfl, hb.out⟩
    · have hr : r1 = Lib.minOf (flt l0 frm tt) ∧ r2 = true := by
        have := HF.out
        unfold first at this
        rw [if_neg (by intro e; rw [e] at h0; exact absurd h0 (Nat.lt_irrefl 0))] at this
        injection this with h1 h2
        exact ⟨h1.symm, h2.symm⟩
      obtain ⟨hr1, rfl⟩ := hr
      have hB : l0.length * 8 ≤ 140737488355328 := HB.out
      have hm0 := min_calls (flt l0 frm tt) g c w2 hc h0 (by omega)
      rw [← hr1] at hm0
      have hm := Aside0.mk hm0
      clear hm0 hr1 hB
      have hne : (((flt l0 frm tt).length : Int) == 0) = false := beq_eq_false_iff_ne.2 (by omega)
      generalize (flt l0 frm tt).length = nn at hm hne ⊢
      clear hc hcut h0 hlen
      go_wp2_with fail
      refine hm.out.mono ?_
      rintro e w3 ⟨rfl, rfl⟩
      go_wp2
      go_ret2
      exact ⟨rfl, hb.out⟩

end Go.Proofs.Ytijnmoceafcamaa.First
