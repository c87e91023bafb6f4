/- (*sha.Hash).Write: a Hash of a message becomes one of the message and what is written. Condition: at most 2^46 bytes. -/
import Derived.Test.YtijnmoceafcamaaShaLeft
namespace Go.Proofs.Ytijnmoceafcamaa.Sha
set_option linter.unusedVariables false
set_option linter.unusedSimpArgs false
open Go.RowKit
open Go.Proofs.YtijnmoceafcamaaW.PrintWords

def iv : Five := ⟨1732584193, 4023233417, 2562383102, 271733878, 3285377520⟩
/-- The state behind k blocks. -/
def blocksF (m : List Int) (s : Five) : Nat → Five
  | 0 => s
  | k + 1 => compress (blocksF m s k) ((m.drop (64 * k)).take 64)
theorem blocksF_append (m p : List Int) (s : Five) : ∀ k, 64 * k ≤ m.length → blocksF (m ++ p) s k = blocksF m s k
  | 0, _ => rfl
  | k + 1, h => by
    rw [blocksF, blocksF, blocksF_append m p s k (by omega), List.drop_append_of_le_length (by omega), List.take_append_of_le_length (by rw [List.length_drop]; omega)]
/-- A Hash at block G that has taken m; its row lies in gl. -/
structure HashIs (w : World) (G : Nat) (m : List Int) (gl : Option Nat) : Prop where
  at_ : ∃ L, w.heap[G]? = some (.cells (hcells (blocksF m iv (m.length / 64)) L m.length) 70 (0, 0)) ∧ LeftAt w L (m.drop (64 * (m.length / 64))) gl
  byte : ∀ x ∈ m, 0 ≤ x ∧ x ≤ 255
  len : m.length ≤ 70368744177664
/-- What has changed: no more than G, gl, and new blocks. -/
structure Fr (w W : World) (G : Nat) (gl : Option Nat) : Prop where
  os : W.os = w.os
  tape : W.tape = w.tape
  output : W.output = w.output
  size : w.heap.size ≤ W.heap.size
  block : ∀ k, k < w.heap.size → k ≠ G → some k ≠ gl → W.heap[k]? = w.heap[k]?
theorem Fr.refl (w : World) (G : Nat) (gl : Option Nat) : Fr w w G gl := ⟨rfl, rfl, rfl, Nat.le_refl _, fun _ _ _ _ => rfl⟩
theorem Fr.set {w W : World} {G : Nat} {gl : Option Nat} (h : Fr w W G gl) (j : Nat) (v : Value) : Fr w (W.setCell ⟨G, j, none⟩ v) G gl :=
  ⟨h.os, h.tape, h.output, by have := h.size; simpa using this, fun k hk h1 h2 => (Below.heap_setCell W ⟨G, j, none⟩ v k h1).trans (h.block k hk h1 h2)⟩
theorem Fr.drew {w W : World} {G : Nat} {gl : Option Nat} (h : Fr w W G gl) : Fr w W.drew G gl := ⟨h.os, h.tape, h.output, h.size, h.block⟩
theorem Fr.grown {w W W' : World} {G : Nat} {gl row : Option Nat} (h : Fr w W G gl) (hg : W.grownBy W' row) (hr : row = some G ∨ row = gl ∨ ∀ k, row = some k → w.heap.size ≤ k) : Fr w W' G gl :=
  ⟨hg.os.trans h.os, hg.tape.trans h.tape, hg.output.trans h.output, Nat.le_trans h.size hg.size, fun k hk h1 h2 => (hg.block k (Nat.lt_of_lt_of_le hk h.size) (fun e => by
    rcases hr with hr | hr | hr
    · rw [hr] at e; injection e with e; exact h1 e
    · rw [hr] at e; exact h2 e
    · exact absurd (hr k e.symm) (by omega))).trans (h.block k hk h1 h2)⟩
theorem getD_byte {m : List Int} (h : ∀ x ∈ m, 0 ≤ x ∧ x ≤ 255) (j : Nat) : 0 ≤ m.getD j 0 ∧ m.getD j 0 ≤ 255 := by
  rcases Nat.lt_or_ge j m.length with hj | hj
  · rw [List.getD_eq_getElem?_getD, List.getElem?_eq_getElem hj]; exact h _ (List.getElem_mem hj)
  · rw [List.getD_eq_getElem?_getD, List.getElem?_eq_none hj]; decide
theorem ne_of_types {w : World} {G : Nat} {cs : Array Value} {L : Value} {l : List Int} {gl : Option Nat} (hG : w.heap[G]? = some (.cells cs 70 (0, 0))) (hL : LeftAt w L l gl) : gl ≠ some G := by
  intro e
  obtain ⟨_, cur, hc⟩ := hL.lt G e
  rw [hG] at hc
  injection hc with hc
  injection hc with _ hc
  cases hc

theorem ReadsB.set {w : World} {A : Option Addr} {p : List Int} (h : ReadsB w A p) (a : Addr) (u v : Value) (hc : w.cell? a = some u) (hu : ∀ x, u ≠ .int .u8 x) : ReadsB (w.setCell a v) A p := by
  intro h0
  obtain ⟨ad, e, hr⟩ := h h0
  refine ⟨ad, e, fun j hj => ?_⟩
  rw [World.cell?_setCell_other]
  · exact hr j hj
  · intro e2
    have h3 := hr j hj
    first | rw [e2, hc] at h3 | rw [← e2, hc] at h3
    injection h3 with h3
    exact hu _ h3
theorem LeftAt.set {w : World} {L : Value} {l : List Int} {gl : Option Nat} (h : LeftAt w L l gl) {G : Nat} (hne : gl ≠ some G) (j : Nat) (v : Value) : LeftAt (w.setCell ⟨G, j, none⟩ v) L l gl :=
  h.move fun g hg => Below.heap_setCell w ⟨G, j, none⟩ v g (fun e => hne (by rw [hg, e]))
def RelW (w : World) (G : Nat) (M : List Int) (q : Nat) (gl gl' : Option Nat) (W : World) : Prop :=
  ∃ j L, q ≤ j ∧ 64 * j ≤ M.length ∧ W.heap[G]? = some (.cells (hcells (blocksF M iv j) L M.length) 70 (0, 0)) ∧ LeftAt W L (M.drop (64 * j)) gl' ∧ Fr w W G gl

def leftLen (G : Nat) (W : World) : Nat := match W.cell? ⟨G, 5, none⟩ with
  | some (.slice _ n _) => n
  | _ => 0
theorem relW_next {w wr w2 : World} {G g o c2 nn j q : Nat} {M : List Int} {gl gl' : Option Nat} (hqj : q ≤ j) (hn : M.length - 64 * j = nn) (h64 : 64 ≤ nn) (hG : w2.heap[G]? = some (.cells (hcells (blocksF M iv (j + 1)) (.slice (some ⟨g, o, none⟩) nn c2) M.length) 70 (0, 0)))
    (hL : LeftAt wr (.slice (some ⟨g, o, none⟩) nn c2) (M.drop (64 * j)) gl') (hne : gl' ≠ some G) (hg : wr.grownBy w2 (some G)) (hF : Fr w wr G gl) (hmu : leftLen G wr = nn) (V : Value) (hV : V = .slice (if c2 = 64 then some ⟨g, o, none⟩ else some ⟨g, o + 64, none⟩) (nn - 64) (c2 - 64)) :
    RelW w G M q gl gl' (w2.setCell ⟨G, 5, none⟩ V) ∧ leftLen G (w2.setCell ⟨G, 5, none⟩ V) < leftLen G wr := by
  subst hV
  have hd : (M.drop (64 * j)).length = nn := by rw [List.length_drop]; exact hn
  have hL2 : LeftAt w2 (.slice (some ⟨g, o, none⟩) nn c2) (M.drop (64 * j)) gl' := hL.move fun k hk => hg.block k (hL.lt k hk).1 (fun e => hne (by rw [hk]; exact e))
  have hL3 := (hL2.drop 64 (by omega)).set hne 5 (.slice (if c2 = 64 then some ⟨g, o, none⟩ else some ⟨g, o + 64, none⟩) (nn - 64) (c2 - 64))
  rw [hd, List.drop_drop, show 64 * j + 64 = 64 * (j + 1) by omega] at hL3
  have hG5 := blk_set hG 5 (.slice (if c2 = 64 then some ⟨g, o, none⟩ else some ⟨g, o + 64, none⟩) (nn - 64) (c2 - 64))
  refine ⟨⟨j + 1, _, by omega, by omega, hG5.trans rfl, hL3, (hF.grown hg (.inl rfl)).set 5 _⟩, ?_⟩
  have e5 : (w2.setCell ⟨G, 5, none⟩ (.slice (if c2 = 64 then some ⟨g, o, none⟩ else some ⟨g, o + 64, none⟩) (nn - 64) (c2 - 64))).cell? ⟨G, 5, none⟩ = some (.slice (if c2 = 64 then some ⟨g, o, none⟩ else some ⟨g, o + 64, none⟩) (nn - 64) (c2 - 64)) := (blk_cell hG5 5).trans rfl
  rw [hmu]
  unfold leftLen
  rw [e5]
  show nn - 64 < nn
  omega
def Written (w : World) (G : Nat) (M : List Int) (gl : Option Nat) (e : Ending) (w' : World) : Prop :=
  e = .returned (.tuple #[]) ∧ ∃ gl', HashIs w' G M gl' ∧ Fr w w' G gl ∧ (gl' = gl ∨ ∃ k, gl' = some k ∧ w.heap.size ≤ k)

set_option maxHeartbeats 2000000 in
set_option maxRecDepth 100000 in
theorem write_calls (G : Nat) (m p : List Int) (gl : Option Nat) (A : Option Addr) (c : Nat) (w : World) (hH : HashIs w G m gl) (hp : ReadsB w A p) (hpb : ∀ x ∈ p, 0 ≤ x ∧ x ≤ 255) (hlen : m.length + p.length ≤ 70368744177664) :
    Calls Try.prog 25 #[.pointer (some ⟨G, 0, none⟩), .slice A p.length c] w (Written w G (m ++ p) gl) := by
  obtain ⟨⟨L, hG, hL⟩, hmb, hml⟩ := hH
  have hdl : (m.drop (64 * (m.length / 64))).length ≤ 63 := by rw [List.length_drop]; omega
  have hap : m.drop (64 * (m.length / 64)) ++ p = (m ++ p).drop (64 * (m.length / 64)) := by rw [List.drop_append_of_le_length (by omega)]
  have hbf : blocksF (m ++ p) iv (m.length / 64) = blocksF m iv (m.length / 64) := blocksF_append m p iv _ (by omega)
  have hMl : (m ++ p).length = m.length + p.length := List.length_append
  have hMb : ∀ x ∈ m ++ p, 0 ≤ x ∧ x ≤ 255 := by
    intro x hx
    rcases List.mem_append.1 hx with h | h
    · exact hmb x h
    · exact hpb x h
  rw [← hbf] at hG
  have hq : 64 * (m.length / 64) ≤ (m ++ p).length := by omega
  generalize hMM : m ++ p = M at *
  generalize m.length / 64 = q at *
  generalize m.drop (64 * q) = l at *
  generalize hs : blocksF M iv q = s at *
  have hn0 : 0 ≤ (m.length : Int) := by omega
  have hn1 : (m.length : Int) + p.length = M.length := by omega
  have hne := Aside0.mk (ne_of_types hG hL)
  have g5 : w.cell? ⟨G, 5, none⟩ = some L := (blk_cell hG 5).trans rfl
  have g6 : w.cell? ⟨G, 6, none⟩ = some (.int .u64 m.length) := (blk_cell hG 6).trans rfl
  have f5 : w.frozen? ⟨G, 5, none⟩ = false := blk_frozen hG 5
  have f6 : w.frozen? ⟨G, 6, none⟩ = false := blk_frozen hG 6
  have hG' := Aside0.mk hG
  have hL' := Aside0.mk hL
  have hs' := Aside0.mk hs
  have hap' := Aside0.mk hap
  have hMb' := Aside0.mk hMb
  have hn1' := Aside0.mk hn1
  have hp' := Aside0.mk hp
  have hx1 : (m.length : Int) + p.length < 18446744073709551616 := by omega
  clear hG hL hs hap hMb hn1 hp hMM hMl hpb hmb hbf
  go_enter Try.func25, Try.ntmps25
  go_wp2_with (first | (at_builtin; refine append_left _ rfl _ _ rfl rfl L l p gl A c rfl rfl ?hL ?hp ?hb ?h))
  case hL => exact hL'.out.set hne.out 6 _
  case hp => exact hp'.out.set _ _ _ g6 (by intro x h; cases h)
  case hb => omega
  case h =>
    intro v' w1 gl' hv hgr hgl
    obtain ⟨A1, c1, rfl, hc1⟩ := hv.len
    have hG6 : (w.setCell ⟨G, 6, none⟩ (.int .u64 (m.length + p.length))).heap[G]? = some (.cells (hcells s L M.length) 70 (0, 0)) := by
      rw [hn1'.out]; exact (blk_set hG'.out 6 _).trans rfl
    have hG1 : w1.heap[G]? = some (.cells (hcells s L M.length) 70 (0, 0)) := (hgr.block G (blk_lt hG6) (fun e => hne.out e.symm)).trans hG6
    have hF1 := Aside0.mk (((Fr.refl w G gl).set 6 (.int .u64 (m.length + p.length))).grown hgr (.inr (.inl rfl)))
    have hne1 := Aside0.mk (ne_of_types hG1 hv)
    have k5 : w1.cell? ⟨G, 5, none⟩ = some L := (blk_cell hG1 5).trans rfl
    have kf : w1.frozen? ⟨G, 5, none⟩ = false := blk_frozen hG1 5
    have hG1' := Aside0.mk hG1
    have hv' := Aside0.mk hv
    have hgl' := Aside0.mk hgl
    clear hG6 hG1 hv hgr hgl g5 g6 f5 f6 hx1 hn0 hL' hG' hp'
    go_wp2
    go_loopw [] (RelW w G M q gl gl') (leftLen G)
    case atStart =>
      refine ⟨q, .slice A1 (l ++ p).length c1, Nat.le_refl _, hq, ?_, ?_, hF1.out.set 5 _⟩
      · rw [hs'.out, List.length_append]; exact (blk_set hG1'.out 5 _).trans rfl
      · rw [← hap'.out]; exact hv'.out.set hne1.out 5 _
    case round =>
      clear hG1' hv' hne1 hF1 k5 kf hc1 hs' hap' hdl hq
      obtain ⟨j, L2, hqj, hj, hG2, hL2, hF⟩ := hrel
      obtain ⟨A2, c2, rfl, hc2⟩ := hL2.len
      have hd : (M.drop (64 * j)).length = M.length - 64 * j := List.length_drop
      obtain ⟨nn, hnn⟩ : ∃ nn, M.length - 64 * j = nn := ⟨_, rfl⟩
      rw [hd, hnn] at hc2 hG2 hL2
      rw [hnn] at hd
      have k5 : wr.cell? ⟨G, 5, none⟩ = some (.slice A2 nn c2) := (blk_cell hG2 5).trans rfl
      have kf : wr.frozen? ⟨G, 5, none⟩ = false := blk_frozen hG2 5
      have hmu : Aside0 (leftLen G wr = nn) := Aside0.mk (by unfold leftLen; rw [k5])
      have hne2 := Aside0.mk (ne_of_types hG2 hL2)
      have hG2' := Aside0.mk hG2
      have hL2' := Aside0.mk hL2
      have hF' := Aside0.mk hF
      have hd' := Aside0.mk hd
      have hnn' := Aside0.mk hnn
      clear hG2 hL2 hF hd hnn
      by_cases h64 : (64 : Int) ≤ (nn : Int)
      · obtain ⟨g, o, cp, hA⟩ := hL2'.out.form (by rw [hd'.out]; omega)
        injection hA with hA hn2 hcp
        subst hA
        clear hcp hn2
        have h64b : decide ((64 : Int) ≤ (nn : Int)) = true := decide_eq_true h64
        have hx2 : (64 : Int) ≤ (c2 : Int) := by omega
        have hcl := hL2'.out.cells
        have P1 : ∀ jj, jj < 64 → wr.cell? ⟨g, o + jj, none⟩ = some (.int .u8 (((M.drop (64 * j)).take 64).getD jj 0)) := fun jj hjj => by
          rw [hcl.2.2.2 jj (by rw [hd'.out]; omega)]
          congr 2
          rw [List.getD_eq_getElem?_getD, List.getD_eq_getElem?_getD, List.getElem?_take_of_lt hjj]
        have P2 : ∀ jj, 0 ≤ ((M.drop (64 * j)).take 64).getD jj 0 ∧ ((M.drop (64 * j)).take 64).getD jj 0 ≤ 255 := getD_byte fun x hx => hMb'.out x (List.mem_of_mem_drop (List.mem_of_mem_take hx))
        have P3 : g ≠ G := fun e => hne2.out (by rw [hcl.1, e])
        have hb := Aside0.mk (block_calls G (blocksF M iv j) (.slice (some ⟨g, o, none⟩) nn c2) M.length _ g o c2 wr hG2'.out P1 P2 P3 (by omega))
        have hgg := Aside0.mk hcl.1
        have P3' := Aside0.mk P3
        have hnx : Aside0 (compress (blocksF M iv j) ((M.drop (64 * j)).take 64) = blocksF M iv (j + 1)) := Aside0.mk rfl
        clear hcl P1 P2 P3
        go_wp2_with (go_at_call 44; refine hb.out.mono ?_; rintro e w2 ⟨rfl, hb1, hb2⟩; rw [hnx.out] at hb1; have m5 : w2.cell? ⟨G, 5, none⟩ = some (.slice (some ⟨g, o, none⟩) nn c2) := (blk_cell hb1 5).trans rfl; have mf : w2.frozen? ⟨G, 5, none⟩ = false := blk_frozen hb1 5; have hb1' := Aside0.mk hb1; have hb2' := Aside0.mk hb2; clear hb1 hb2 k5 kf)
        · exact relW_next hqj hnn'.out (by omega) hb1'.out hL2'.out hne2.out hb2'.out hF'.out hmu.out _ (by simp [h])
        · exact relW_next hqj hnn'.out (by omega) hb1'.out hL2'.out hne2.out hb2'.out hF'.out hmu.out _ (by simp [h])
      · have h64b : decide ((64 : Int) ≤ (nn : Int)) = false := decide_eq_false h64
        have hend : Aside0 (j = M.length / 64) := Aside0.mk (by have := hnn'.out; omega)
        have hnd : Aside0 (M.drop (64 * j) = M.drop (64 * (M.length / 64))) := Aside0.mk (by rw [← hend.out])
        go_wp2
        refine bodyPost_end (v := .tuple #[]) (by simp [results, Try.results25, go_sem]) rfl ⟨rfl, gl', ⟨⟨.slice A2 nn c2, ?_, ?_⟩, hMb'.out, by have := hn1'.out; omega⟩, hF'.out, hgl'.out⟩
        · rw [← hend.out]; exact hG2'.out
        · rw [← hend.out]; exact hL2'.out
end Go.Proofs.Ytijnmoceafcamaa.Sha
