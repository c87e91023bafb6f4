/- (*sha.Hash).block: what a block makes of the state. Condition: sixty-four bytes that lie in another block than the Hash. -/
import Derived.Test.YtijnmoceafcamaaShaRot
import Derived.Test.YtijnmoceafcamaaShaBits
import Derived.Test.YtijnmoceafcamaaWMore
import Derived.WalkLawsBesides
import Derived.StillTailTactics
namespace Go.Proofs.Ytijnmoceafcamaa.Sha
set_option linter.unusedVariables false
set_option linter.unusedSimpArgs false
open Go.RowKit
open Go.Proofs.YtijnmoceafcamaaW.PrintWords

def hcells (s : Five) (L : Value) (n : Int) : Array Value := #[.int .u32 s.a, .int .u32 s.b, .int .u32 s.c, .int .u32 s.d, .int .u32 s.e, L, .int .u64 n]
def wcells (W : List Int) : Array Value := (W.map (Value.int .u32)).toArray
def scells (s : Five) : Array Value := #[.int .u32 s.a, .int .u32 s.b, .int .u32 s.c, .int .u32 s.d, .int .u32 s.e]
theorem wcells_get (W : List Int) (j : Nat) (h : j < W.length) : (wcells W)[j]? = some (.int .u32 (W.getD j 0)) := by
  simp [wcells, h]
theorem wcells_set (W : List Int) (j : Nat) (v : Int) : (wcells W).setIfInBounds j (.int .u32 v) = wcells (W.set j v) := by
  simp [wcells, List.map_set]

def RelA (p : List Int) (w : World) (B : Nat) (v : Value) (W : World) : Prop := ∃ t : Nat, t ≤ 80 ∧ v = .int .i64 t ∧ W.heap[B]? = some (.cells (wcells (sched p t)) 82 (0, 0)) ∧ Below w.heap.size w W
theorem relA_next {p : List Int} {w W : World} {B t : Nat} (hB : B = w.heap.size) (ht : t < 80) (hW : W.heap[B]? = some (.cells (wcells (sched p t)) 82 (0, 0))) (hb : Below w.heap.size w W) {x : Int} (hx : x = nextW p (sched p t) t) :
    RelA p w B (.int .i64 ((t : Int) + 1)) (W.setCell ⟨B, t, none⟩ (.int .u32 x)).drew := by
  refine ⟨t + 1, by omega, by simp, ?_, ?_⟩
  · subst hx
    have h1 : (W.setCell ⟨B, t, none⟩ (.int .u32 (nextW p (sched p t) t))).heap[B]? = some (.cells (wcells (sched p (t + 1))) 82 (0, 0)) := by
      rw [blk_set hW t _, wcells_set, sched_succ]
    exact h1
  · exact below_drew (below_set hb (by omega))
theorem zero82 (w : World) : (zeroValue 82).run Try.prog w = .ok (.agg (wcells (List.replicate 80 0))) w := by kernel_rfl
def put5 (W : World) (S : Nat) (s : Five) : World := ((((W.setCell ⟨S, 0, none⟩ (.int .u32 s.a)).setCell ⟨S, 1, none⟩ (.int .u32 s.b)).setCell ⟨S, 2, none⟩ (.int .u32 s.c)).setCell ⟨S, 3, none⟩ (.int .u32 s.d)).setCell ⟨S, 4, none⟩ (.int .u32 s.e)
theorem put5_blk {W : World} {S : Nat} {s0 : Five} (s : Five) (h : W.heap[S]? = some (.cells (scells s0) 67 (0, 0))) : (put5 W S s).heap[S]? = some (.cells (scells s) 67 (0, 0)) :=
  (blk_set (blk_set (blk_set (blk_set (blk_set h 0 (.int .u32 s.a)) 1 (.int .u32 s.b)) 2 (.int .u32 s.c)) 3 (.int .u32 s.d)) 4 (.int .u32 s.e)).trans rfl
theorem put5_below {w W : World} {S : Nat} (s : Five) (h : Below w.heap.size w W) (hS : w.heap.size ≤ S) : Below w.heap.size w (put5 W S s) :=
  below_set (below_set (below_set (below_set (below_set h hS) hS) hS) hS) hS
theorem put5_far {W : World} {S B : Nat} (s : Five) {t : TypeId} {cs : Array Value} (h : W.heap[B]? = some (.cells cs t (0, 0))) (hne : B ≠ S) : (put5 W S s).heap[B]? = some (.cells cs t (0, 0)) :=
  blk_far (blk_far (blk_far (blk_far (blk_far h (p := ⟨S, 0, none⟩) hne _) (p := ⟨S, 1, none⟩) hne _) (p := ⟨S, 2, none⟩) hne _) (p := ⟨S, 3, none⟩) hne _) (p := ⟨S, 4, none⟩) hne _
def RelB (p : List Int) (s : Five) (w : World) (B S : Nat) (v : Value) (W : World) : Prop := ∃ t : Nat, t ≤ 80 ∧ v = .int .i64 t ∧ W.heap[B]? = some (.cells (wcells (sched p 80)) 82 (0, 0)) ∧ W.heap[S]? = some (.cells (scells (rounds (sched p 80) s t)) 67 (0, 0)) ∧ Below w.heap.size w W
theorem relB_next {p : List Int} {s : Five} {w W : World} {B S t : Nat} (hBS : B ≠ S) (hS : w.heap.size ≤ S) (ht : t < 80) (hW : W.heap[B]? = some (.cells (wcells (sched p 80)) 82 (0, 0))) (hs : W.heap[S]? = some (.cells (scells (rounds (sched p 80) s t)) 67 (0, 0))) (hb : Below w.heap.size w W) {r : Five} (hr : r = rounds (sched p 80) s (t + 1)) :
    RelB p s w B S (.int .i64 ((t : Int) + 1)) (put5 W S r) := by
  subst hr
  have h1 := put5_far (rounds (sched p 80) s (t + 1)) hW hBS
  have h2 := put5_blk (rounds (sched p 80) s (t + 1)) hs
  have h3 := put5_below (rounds (sched p 80) s (t + 1)) hb hS
  refine ⟨t + 1, by omega, by rw [Int.natCast_add]; rfl, ?_, ?_, h3⟩
  · exact h1
  · exact h2
theorem roundF_eq (x : Int) (t : Nat) (q : Five) : roundF x t q = ⟨(rot q.a 5 + (stp t q.b q.c q.d).1 + q.e + (stp t q.b q.c q.d).2 + x) % 4294967296, q.a, rot q.b 30, q.c, q.d⟩ := by
  unfold roundF m32
  congr 1
  omega
def mixF (s r : Five) (i : Int) : Five := ⟨if 0 < i then m32 (s.a + r.a) else s.a, if 1 < i then m32 (s.b + r.b) else s.b, if 2 < i then m32 (s.c + r.c) else s.c, if 3 < i then m32 (s.d + r.d) else s.d, if 4 < i then m32 (s.e + r.e) else s.e⟩
def RelC (s r : Five) (L : Value) (n : Int) (w : World) (G : Nat) (v : Value) (W : World) : Prop := ∃ i : Int, (0 ≤ i ∧ i ≤ 5) ∧ v = .int .i64 i ∧ W.heap[G]? = some (.cells (hcells (mixF s r i) L n) 70 (0, 0)) ∧ w.grownBy W (some G)
theorem grown_set {w W : World} {G : Nat} (h : w.grownBy W (some G)) (j : Nat) (v : Value) : w.grownBy (W.setCell ⟨G, j, none⟩ v) (some G) :=
  ⟨h.os, h.tape, h.output, by have := h.size; simpa using this, fun k hk hne => (Below.heap_setCell W ⟨G, j, none⟩ v k (fun e => hne (by rw [e]))).trans (h.block k hk hne)⟩
theorem grown_drew {w W : World} {row : Option Nat} (h : w.grownBy W row) : w.grownBy W.drew row := ⟨h.os, h.tape, h.output, h.size, h.block⟩
theorem relC_next {s r : Five} {L : Value} {n : Int} {w W : World} {G : Nat} (i i1 : Int) (j : Nat) (h1 : i1 = i + 1) (hi : 0 ≤ i ∧ i < 5) (x : Int) (hH : W.heap[G]? = some (.cells (hcells (mixF s r i) L n) 70 (0, 0))) (hg : w.grownBy W (some G))
    (hx : (hcells (mixF s r i) L n).setIfInBounds j (.int .u32 x) = hcells (mixF s r i1) L n) : RelC s r L n w G (.int .i64 i1) (W.setCell ⟨G, j, none⟩ (.int .u32 x)).drew :=
  ⟨i1, by omega, rfl, blk_drew ((blk_set hH j _).trans (by rw [hx])), grown_drew (grown_set hg j _)⟩
theorem zero67 (w : World) : (zeroValue 67).run Try.prog w = .ok (.agg #[.int .u32 0, .int .u32 0, .int .u32 0, .int .u32 0, .int .u32 0]) w := by kernel_rfl
set_option maxHeartbeats 2000000 in
set_option maxRecDepth 100000 in
theorem block_calls (G : Nat) (s : Five) (L : Value) (n : Int) (p : List Int) (b off c : Nat) (w : World)
    (hH : w.heap[G]? = some (.cells (hcells s L n) 70 (0, 0)))
    (hp : ∀ j, j < 64 → w.cell? ⟨b, off + j, none⟩ = some (.int .u8 (p.getD j 0))) (hb : ∀ j, 0 ≤ p.getD j 0 ∧ p.getD j 0 ≤ 255)
    (hbG : b ≠ G) (hc : 64 ≤ c) :
    Calls Try.prog 44 #[.pointer (some ⟨G, 0, none⟩), .slice (some ⟨b, off, none⟩) 64 c] w fun e w' => e = .returned (.tuple #[]) ∧ w'.heap[G]? = some (.cells (hcells (compress s p) L n) 70 (0, 0)) ∧ w.grownBy w' (some G) := by
  have hH' := Aside0.mk hH
  have hp' := Aside0.mk hp
  have hb' := Aside0.mk hb
  have hbw := Aside0.mk (World.block_lt_of_cell? w _ (hp 0 (by omega)))
  clear hH hp hb
  have hz82 := zero82
  go_enter Try.func44, Try.ntmps44
  go_wp2_with (first | ((with_reducible refine gate_dst (N := 4) rfl ?_); refine box_event ?hg (N := 4) ?hd (cs := wcells (List.replicate 80 0)) (t := 82) ?hr ?_; (case hd => rfl); (case hg => rfl); (case hr => first | (go_simp; done) | (go_simp; rfl)); intro B hg0 w3 hbox hb3; have hg := Aside0.mk hg0; clear hg0))
  go_loopw [13] (RelA p w B) (fun v _ => (80 - intOf v).toNat)
  case atStart => exact ⟨0, by omega, rfl, by rw [sched_zero]; exact hbox, hb3⟩
  case round =>
    clear hbox hb3 w3
    obtain ⟨t, ht, rfl, hW, hbel⟩ := hrel
    have hl80 := Aside0.mk (sched_length p t)
    by_cases h80 : (t : Int) < 80
    · by_cases h16 : (t : Int) < 16
      · have h16b : decide ((t : Int) < 16) = true := decide_eq_true h16
        have h80b : decide ((t : Int) < 80) = true := decide_eq_true h80
        have hW' := Aside0.mk hW
        have hbel' := Aside0.mk hbel
        clear hW hbel
        go_wp2
        obtain ⟨k0, hk0⟩ : ∃ k : Nat, k = 4 * t := ⟨_, rfl⟩
        obtain ⟨k1, hk1⟩ : ∃ k : Nat, k = k0 + 1 := ⟨_, rfl⟩
        obtain ⟨k2, hk2⟩ : ∃ k : Nat, k = k0 + 2 := ⟨_, rfl⟩
        obtain ⟨k3, hk3⟩ : ∃ k : Nat, k = k0 + 3 := ⟨_, rfl⟩
        have e0 : IntKind.i64.wrap (4 * (t : Int)) = (k0 : Int) := by rw [IntKind.wrap_i64]; omega
        have e1 : IntKind.i64.wrap ((k0 : Int) + 1) = (k1 : Int) := by rw [IntKind.wrap_i64]; omega
        have e2 : IntKind.i64.wrap ((k0 : Int) + 2) = (k2 : Int) := by rw [IntKind.wrap_i64]; omega
        have e3 : IntKind.i64.wrap ((k0 : Int) + 3) = (k3 : Int) := by rw [IntKind.wrap_i64]; omega
        have b0 : (k0 : Int) < 64 := by omega
        have b1 : (k1 : Int) < 64 := by omega
        have b2 : (k2 : Int) < 64 := by omega
        have b3 : (k3 : Int) < 64 := by omega
        have a0 : (0 : Int) ≤ (k0 : Int) := by omega
        have a1 : (0 : Int) ≤ (k1 : Int) := by omega
        have a2 : (0 : Int) ≤ (k2 : Int) := by omega
        have a3 : (0 : Int) ≤ (k3 : Int) := by omega
        have a4 : (0 : Int) ≤ (t : Int) := by omega
        have hpw : ∀ j, j < 64 → wr.cell? ⟨b, off + j, none⟩ = some (.int .u8 (p.getD j 0)) := fun j hj => (hbel'.out.cell (p := ⟨b, off + j, none⟩) hbw.out).trans (hp'.out j hj)
        have c0 := hpw k0 (by omega)
        have c1 := hpw k1 (by omega)
        have c2 := hpw k2 (by omega)
        have c3 := hpw k3 (by omega)
        clear hpw
        have cw : wr.cell? ⟨B, t, none⟩ = some (.int .u32 ((sched p t).getD t 0)) := by
          rw [blk_cell hW'.out t, wcells_get _ _ (by rw [sched_length]; omega)]
        have cf : wr.frozen? ⟨B, t, none⟩ = false := blk_frozen hW'.out t
        have hx : Aside0 ((p.getD k0 0) * 16777216 + (p.getD k1 0) * 65536 + (p.getD k2 0) * 256 + (p.getD k3 0) = nextW p (sched p t) t) := Aside0.mk (by
          unfold nextW wd; rw [if_pos (by omega)]; subst hk1; subst hk2; subst hk3; subst hk0; rfl)
        have d0 := Aside0.mk (hb'.out k0)
        have d1 := Aside0.mk (hb'.out k1)
        have d2 := Aside0.mk (hb'.out k2)
        have d3 := Aside0.mk (hb'.out k3)
        generalize p.getD k0 0 = x0 at *
        generalize p.getD k1 0 = x1 at *
        generalize p.getD k2 0 = x2 at *
        generalize p.getD k3 0 = x3 at *
        clear h16b h80b hk1 hk2 hk3 hk0 ht hbG
        go_still_tail 35, (by kernel_rfl)
        change wpList _ _ _ _ _ wr.drew
        go_wp2
        refine ⟨relA_next hg.out (by omega) hW'.out hbel'.out ((word_of x0 x1 x2 x3 d0.out d1.out d2.out d3.out).trans hx.out), ?_⟩
        simp [intOf]; omega
      · have h16b : decide ((t : Int) < 16) = false := decide_eq_false h16
        have h80b : decide ((t : Int) < 80) = true := decide_eq_true h80
        have hW' := Aside0.mk hW
        have hbel' := Aside0.mk hbel
        clear hW hbel
        go_wp2
        obtain ⟨k0, hk0⟩ : ∃ k : Nat, k = t - 3 := ⟨_, rfl⟩
        obtain ⟨k1, hk1⟩ : ∃ k : Nat, k = t - 8 := ⟨_, rfl⟩
        obtain ⟨k2, hk2⟩ : ∃ k : Nat, k = t - 14 := ⟨_, rfl⟩
        obtain ⟨k3, hk3⟩ : ∃ k : Nat, k = t - 16 := ⟨_, rfl⟩
        have e0 : IntKind.i64.wrap ((t : Int) - 3) = (k0 : Int) := by rw [IntKind.wrap_i64]; omega
        have e1 : IntKind.i64.wrap ((t : Int) - 8) = (k1 : Int) := by rw [IntKind.wrap_i64]; omega
        have e2 : IntKind.i64.wrap ((t : Int) - 14) = (k2 : Int) := by rw [IntKind.wrap_i64]; omega
        have e3 : IntKind.i64.wrap ((t : Int) - 16) = (k3 : Int) := by rw [IntKind.wrap_i64]; omega
        have b0 : (k0 : Int) < 80 := by omega
        have b1 : (k1 : Int) < 80 := by omega
        have b2 : (k2 : Int) < 80 := by omega
        have b3 : (k3 : Int) < 80 := by omega
        have a0 : (0 : Int) ≤ (k0 : Int) := by omega
        have a1 : (0 : Int) ≤ (k1 : Int) := by omega
        have a2 : (0 : Int) ≤ (k2 : Int) := by omega
        have a3 : (0 : Int) ≤ (k3 : Int) := by omega
        have a4 : (0 : Int) ≤ (t : Int) := by omega
        have hpw : ∀ j, j < 80 → wr.cell? ⟨B, j, none⟩ = some (.int .u32 ((sched p t).getD j 0)) := fun j hj => by
          rw [blk_cell hW'.out j, wcells_get _ _ (by rw [sched_length]; omega)]
        have c0 := hpw k0 (by omega)
        have c1 := hpw k1 (by omega)
        have c2 := hpw k2 (by omega)
        have c3 := hpw k3 (by omega)
        have cw := hpw t (by omega)
        clear hpw
        have cf : wr.frozen? ⟨B, t, none⟩ = false := blk_frozen hW'.out t
        have hx : Aside0 (rot (Go.bits .xor .u32 (Go.bits .xor .u32 (Go.bits .xor .u32 ((sched p t).getD k0 0) ((sched p t).getD k1 0)) ((sched p t).getD k2 0)) ((sched p t).getD k3 0)) 1 = nextW p (sched p t) t) := Aside0.mk (by
          unfold nextW; rw [if_neg (by omega)]; subst hk1; subst hk2; subst hk3; subst hk0; rfl)
        generalize (sched p t).getD k0 0 = x0 at *
        generalize (sched p t).getD k1 0 = x1 at *
        generalize (sched p t).getD k2 0 = x2 at *
        generalize (sched p t).getD k3 0 = x3 at *
        clear h16b h80b hk1 hk2 hk3 hk0 ht hbG
        go_still_tail 22, (by kernel_rfl)
        still_call (rot_calls _ 1 (.inl rfl) _)
        repeat still_step
        refine wpStill_nil ?_
        change wpList _ _ _ _ _ wr.drew
        go_wp2
        refine ⟨relA_next hg.out (by omega) hW'.out hbel'.out hx.out, ?_⟩
        simp [intOf]; omega
    · have h80b : decide ((t : Int) < 80) = false := decide_eq_false h80
      obtain rfl : t = 80 := by omega
      have hW' := Aside0.mk hW
      have hbel' := Aside0.mk hbel
      clear hW hbel
      have hHr : wr.heap[G]? = some (.cells (hcells s L n) 70 (0, 0)) := blk_below hH'.out hbel'.out
      have g0 : wr.cell? ⟨G, 0, none⟩ = some (.int .u32 s.a) := (blk_cell hHr 0).trans rfl
      have g1 : wr.cell? ⟨G, 1, none⟩ = some (.int .u32 s.b) := (blk_cell hHr 1).trans rfl
      have g2 : wr.cell? ⟨G, 2, none⟩ = some (.int .u32 s.c) := (blk_cell hHr 2).trans rfl
      have g3 : wr.cell? ⟨G, 3, none⟩ = some (.int .u32 s.d) := (blk_cell hHr 3).trans rfl
      have g4 : wr.cell? ⟨G, 4, none⟩ = some (.int .u32 s.e) := (blk_cell hHr 4).trans rfl
      have hHr' := Aside0.mk hHr
      clear hHr
      have hz67 := zero67
      go_wp2_with (first | ((with_reducible refine gate_dst (N := 6) rfl ?_); refine box_event ?hg (N := 6) ?hd (cs := scells ⟨0, 0, 0, 0, 0⟩) (t := 67) ?hr ?_; (case hd => rfl); (case hg => rfl); (case hr => first | (go_simp; done) | (go_simp; rfl)); intro S hS0 w5 hSbox0 hb5; have hS := Aside0.mk hS0; have hSbox := Aside0.mk hSbox0; have s0 : w5.cell? ⟨S, 0, none⟩ = some (.int .u32 0) := (blk_cell hSbox0 0).trans rfl; have s1 : w5.cell? ⟨S, 1, none⟩ = some (.int .u32 0) := (blk_cell hSbox0 1).trans rfl; have s2 : w5.cell? ⟨S, 2, none⟩ = some (.int .u32 0) := (blk_cell hSbox0 2).trans rfl; have s3 : w5.cell? ⟨S, 3, none⟩ = some (.int .u32 0) := (blk_cell hSbox0 3).trans rfl; have s4 : w5.cell? ⟨S, 4, none⟩ = some (.int .u32 0) := (blk_cell hSbox0 4).trans rfl; have sf := Aside0.mk (fun i => blk_frozen hSbox0 i); have f0 : w5.frozen? ⟨S, 0, none⟩ = false := sf.out 0; have f1 : w5.frozen? ⟨S, 1, none⟩ = false := sf.out 1; have f2 : w5.frozen? ⟨S, 2, none⟩ = false := sf.out 2; have f3 : w5.frozen? ⟨S, 3, none⟩ = false := sf.out 3; have f4 : w5.frozen? ⟨S, 4, none⟩ = false := sf.out 4; clear hS0 hSbox0))
      clear s0 s1 s2 s3 s4 f0 f1 f2 f3 f4 g0 g1 g2 g3 g4 sf
      have hSB : Aside0 (B ≠ S) := Aside0.mk (by have h1 := hS.out; have h2 := blk_lt hW'.out; omega)
      have hwS : Aside0 (w.heap.size ≤ S) := Aside0.mk (by have h1 := hS.out; have h2 := hbel'.out.size; omega)
      have hW5 := Aside0.mk (blk_below hW'.out hb5)
      have hb5' := Aside0.mk (below_step hbel'.out hb5)
      have hst := Aside0.mk (put5_blk s hSbox.out)
      clear hb5
      go_loopw [80] (RelB p s w B S) (fun v _ => (80 - intOf v).toNat)
      case atStart => exact ⟨0, by omega, rfl, put5_far s hW5.out hSB.out, by rw [rounds_zero]; exact hst.out, put5_below s hb5'.out hwS.out⟩
      case round =>
        clear hst hW5 hb5' hSbox w5 hbel' hHr' hW' ht h80b
        obtain ⟨t, ht, rfl, hW, hs, hbel⟩ := hrel
        by_cases h80 : (t : Int) < 80
        · have h80b : decide ((t : Int) < 80) = true := decide_eq_true h80
          have hW' := Aside0.mk hW
          have hbel' := Aside0.mk hbel
          have hs' := Aside0.mk hs
          have cs : ∀ j, wr.cell? ⟨S, j, none⟩ = (scells (rounds (sched p 80) s t))[j]? := fun j => blk_cell hs j
          have fs : ∀ j, wr.frozen? ⟨S, j, none⟩ = false := fun j => blk_frozen hs j
          have hr : Aside0 (roundF ((sched p 80).getD t 0) t (rounds (sched p 80) s t) = rounds (sched p 80) s (t + 1)) := Aside0.mk (rounds_succ _ _ _).symm
          have cw : wr.cell? ⟨B, t, none⟩ = some (.int .u32 ((sched p 80).getD t 0)) := by
            rw [blk_cell hW'.out t, wcells_get _ _ (by rw [sched_length]; omega)]
          clear hW hbel hs
          generalize (sched p 80).getD t 0 = x at *
          generalize hq : rounds (sched p 80) s t = q at cs hr
          have hq' := Aside0.mk hq
          clear hq
          have s0 : wr.cell? ⟨S, 0, none⟩ = some (.int .u32 q.a) := (cs 0).trans rfl
          have s1 : wr.cell? ⟨S, 1, none⟩ = some (.int .u32 q.b) := (cs 1).trans rfl
          have s2 : wr.cell? ⟨S, 2, none⟩ = some (.int .u32 q.c) := (cs 2).trans rfl
          have s3 : wr.cell? ⟨S, 3, none⟩ = some (.int .u32 q.d) := (cs 3).trans rfl
          have s4 : wr.cell? ⟨S, 4, none⟩ = some (.int .u32 q.e) := (cs 4).trans rfl
          have f0 := fs 0
          have f1 := fs 1
          have f2 := fs 2
          have f3 := fs 3
          have f4 := fs 4
          clear cs fs
          have a4 : (0 : Int) ≤ (t : Int) := by omega
          go_wp2_with (go_at_call 55; refine (step_calls _ _ _ _ _).mono ?_; rintro e wr ⟨rfl, rfl⟩)
          refine wp_region_still_lit (by kernel_rfl) (by kernel_rfl) ?_
          repeat still_step
          still_call (rot_calls _ 5 (.inr (.inl rfl)) _)
          repeat still_step
          refine wpStill_nil ?_
          generalize hw6 : ({ wr with drawn := wr.drawn + 1 } : World) = w6
          have s0n : w6.cell? ⟨S, 0, none⟩ = some (.int .u32 q.a) := by rw [← hw6]; exact s0
          have s1n : w6.cell? ⟨S, 1, none⟩ = some (.int .u32 q.b) := by rw [← hw6]; exact s1
          have s2n : w6.cell? ⟨S, 2, none⟩ = some (.int .u32 q.c) := by rw [← hw6]; exact s2
          have s3n : w6.cell? ⟨S, 3, none⟩ = some (.int .u32 q.d) := by rw [← hw6]; exact s3
          have s4n : w6.cell? ⟨S, 4, none⟩ = some (.int .u32 q.e) := by rw [← hw6]; exact s4
          have f0n : w6.frozen? ⟨S, 0, none⟩ = false := by rw [← hw6]; exact f0
          have f1n : w6.frozen? ⟨S, 1, none⟩ = false := by rw [← hw6]; exact f1
          have f2n : w6.frozen? ⟨S, 2, none⟩ = false := by rw [← hw6]; exact f2
          have f3n : w6.frozen? ⟨S, 3, none⟩ = false := by rw [← hw6]; exact f3
          have f4n : w6.frozen? ⟨S, 4, none⟩ = false := by rw [← hw6]; exact f4
          have hW6 : Aside0 (w6.heap[B]? = some (.cells (wcells (sched p 80)) 82 (0, 0))) := by rw [← hw6]; exact hW'
          have hs6 : Aside0 (w6.heap[S]? = some (.cells (scells (rounds (sched p 80) s t)) 67 (0, 0))) := by rw [← hw6]; exact hs'
          have hbel6 : Aside0 (Below w.heap.size w w6) := by rw [← hw6]; exact Aside0.mk (below_drew hbel'.out)
          clear hw6 s0 s1 s2 s3 s4 f0 f1 f2 f3 f4 hW' hs' hbel' cw
          go_wp2
          go_still_tail 10, (by kernel_rfl)
          still_call (rot_calls _ 30 (.inr (.inr rfl)) _)
          repeat still_step
          refine wpStill_nil ?_
          generalize hw7 : ({ w6 with drawn := w6.drawn + 1 } : World) = w7
          have s0 : w7.cell? ⟨S, 0, none⟩ = some (.int .u32 q.a) := by rw [← hw7]; exact s0n
          have s1 : w7.cell? ⟨S, 1, none⟩ = some (.int .u32 q.b) := by rw [← hw7]; exact s1n
          have s2 : w7.cell? ⟨S, 2, none⟩ = some (.int .u32 q.c) := by rw [← hw7]; exact s2n
          have s3 : w7.cell? ⟨S, 3, none⟩ = some (.int .u32 q.d) := by rw [← hw7]; exact s3n
          have s4 : w7.cell? ⟨S, 4, none⟩ = some (.int .u32 q.e) := by rw [← hw7]; exact s4n
          have f0 : w7.frozen? ⟨S, 0, none⟩ = false := by rw [← hw7]; exact f0n
          have f1 : w7.frozen? ⟨S, 1, none⟩ = false := by rw [← hw7]; exact f1n
          have f2 : w7.frozen? ⟨S, 2, none⟩ = false := by rw [← hw7]; exact f2n
          have f3 : w7.frozen? ⟨S, 3, none⟩ = false := by rw [← hw7]; exact f3n
          have f4 : w7.frozen? ⟨S, 4, none⟩ = false := by rw [← hw7]; exact f4n
          have hW7 : Aside0 (w7.heap[B]? = some (.cells (wcells (sched p 80)) 82 (0, 0))) := by rw [← hw7]; exact hW6
          have hs7 : Aside0 (w7.heap[S]? = some (.cells (scells (rounds (sched p 80) s t)) 67 (0, 0))) := by rw [← hw7]; exact hs6
          have hbel7 : Aside0 (Below w.heap.size w w7) := by rw [← hw7]; exact Aside0.mk (below_drew hbel6.out)
          clear hw7 s0n s1n s2n s3n s4n f0n f1n f2n f3n f4n hW6 hs6 hbel6
          go_wp2
          refine ⟨relB_next (r := ⟨(rot q.a 5 + (stp t q.b q.c q.d).1 + q.e + (stp t q.b q.c q.d).2 + x) % 4294967296, q.a, rot q.b 30, q.c, q.d⟩) hSB.out hwS.out (by omega) hW7.out hs7.out hbel7.out ((roundF_eq x t q).symm.trans hr.out), ?_⟩
          simp [intOf]; omega
        · have h80b : decide ((t : Int) < 80) = false := decide_eq_false h80
          obtain rfl : t = 80 := by omega
          have hHr := blk_below hH'.out hbel
          have cs : ∀ j, wr.cell? ⟨S, j, none⟩ = (scells (rounds (sched p 80) s 80))[j]? := fun j => blk_cell hs j
          have s0 : wr.cell? ⟨S, 0, none⟩ = some (.int .u32 (rounds (sched p 80) s 80).a) := (cs 0).trans rfl
          have s1 : wr.cell? ⟨S, 1, none⟩ = some (.int .u32 (rounds (sched p 80) s 80).b) := (cs 1).trans rfl
          have s2 : wr.cell? ⟨S, 2, none⟩ = some (.int .u32 (rounds (sched p 80) s 80).c) := (cs 2).trans rfl
          have s3 : wr.cell? ⟨S, 3, none⟩ = some (.int .u32 (rounds (sched p 80) s 80).d) := (cs 3).trans rfl
          have s4 : wr.cell? ⟨S, 4, none⟩ = some (.int .u32 (rounds (sched p 80) s 80).e) := (cs 4).trans rfl
          clear cs hW hs
          have hcz : Aside0 (compress s p = addF s (rounds (sched p 80) s 80)) := Aside0.mk rfl
          generalize rounds (sched p 80) s 80 = r at *
          have hH2 := Aside0.mk hHr
          have hbel' := Aside0.mk hbel
          clear hbel hHr ht h80
          go_wp2
          go_loopw [121] (RelC s r L n w G) (fun v _ => (5 - intOf v).toNat)
          case atStart =>
            exact ⟨0, by omega, rfl, hH2.out, grown_of_below hbel'.out (some G)⟩
          case round =>
            clear hH2 hbel' s0 s1 s2 s3 s4 hSB hwS
            obtain ⟨i, hi, rfl, hG, hgr⟩ := hrel
            by_cases h5 : i < 5
            · have hi' : i = 0 ∨ i = 1 ∨ i = 2 ∨ i = 3 ∨ i = 4 := by omega
              have hgr' := Aside0.mk hgr
              have hG' := Aside0.mk hG
              have x0 : ∀ w, (Instr.index 67 (.agg #[.int .u32 r.a, .int .u32 r.b, .int .u32 r.c, .int .u32 r.d, .int .u32 r.e]) (.int .i64 0)).run Try.prog w = .ok (.int .u32 r.a) w := fun _ => by kernel_rfl
              have x1 : ∀ w, (Instr.index 67 (.agg #[.int .u32 r.a, .int .u32 r.b, .int .u32 r.c, .int .u32 r.d, .int .u32 r.e]) (.int .i64 1)).run Try.prog w = .ok (.int .u32 r.b) w := fun _ => by kernel_rfl
              have x2 : ∀ w, (Instr.index 67 (.agg #[.int .u32 r.a, .int .u32 r.b, .int .u32 r.c, .int .u32 r.d, .int .u32 r.e]) (.int .i64 2)).run Try.prog w = .ok (.int .u32 r.c) w := fun _ => by kernel_rfl
              have x3 : ∀ w, (Instr.index 67 (.agg #[.int .u32 r.a, .int .u32 r.b, .int .u32 r.c, .int .u32 r.d, .int .u32 r.e]) (.int .i64 3)).run Try.prog w = .ok (.int .u32 r.d) w := fun _ => by kernel_rfl
              have x4 : ∀ w, (Instr.index 67 (.agg #[.int .u32 r.a, .int .u32 r.b, .int .u32 r.c, .int .u32 r.d, .int .u32 r.e]) (.int .i64 4)).run Try.prog w = .ok (.int .u32 r.e) w := fun _ => by kernel_rfl
              have cg : ∀ j, wr.cell? ⟨G, j, none⟩ = (hcells (mixF s r i) L n)[j]? := fun j => blk_cell hG j
              have fg : ∀ j, wr.frozen? ⟨G, j, none⟩ = false := fun j => blk_frozen hG j
              have f0 := fg 0
              have f1 := fg 1
              have f2 := fg 2
              have f3 := fg 3
              have f4 := fg 4
              clear fg hG hgr hi
              rcases hi' with rfl | rfl | rfl | rfl | rfl
              · have c0 : wr.cell? ⟨G, 0, none⟩ = some (.int .u32 s.a) := (cg 0).trans rfl
                clear cg
                go_wp2
                go_still_tail 11, (by kernel_rfl)
                change wpList _ _ _ _ _ wr.drew
                go_wp2
                refine ⟨?_, by simp [intOf]⟩
                (repeat apply Exists.intro)
                exact ⟨relC_next 0 1 0 (by decide) (by decide) _ hG'.out hgr'.out rfl, rfl⟩
              · have c0 : wr.cell? ⟨G, 1, none⟩ = some (.int .u32 s.b) := (cg 1).trans rfl
                clear cg
                go_wp2
                go_still_tail 11, (by kernel_rfl)
                change wpList _ _ _ _ _ wr.drew
                go_wp2
                refine ⟨?_, by simp [intOf]⟩
                (repeat apply Exists.intro)
                exact ⟨relC_next 1 2 1 (by decide) (by decide) _ hG'.out hgr'.out rfl, rfl⟩
              · have c0 : wr.cell? ⟨G, 2, none⟩ = some (.int .u32 s.c) := (cg 2).trans rfl
                clear cg
                go_wp2
                go_still_tail 11, (by kernel_rfl)
                change wpList _ _ _ _ _ wr.drew
                go_wp2
                refine ⟨?_, by simp [intOf]⟩
                (repeat apply Exists.intro)
                exact ⟨relC_next 2 3 2 (by decide) (by decide) _ hG'.out hgr'.out rfl, rfl⟩
              · have c0 : wr.cell? ⟨G, 3, none⟩ = some (.int .u32 s.d) := (cg 3).trans rfl
                clear cg
                go_wp2
                go_still_tail 11, (by kernel_rfl)
                change wpList _ _ _ _ _ wr.drew
                go_wp2
                refine ⟨?_, by simp [intOf]⟩
                (repeat apply Exists.intro)
                exact ⟨relC_next 3 4 3 (by decide) (by decide) _ hG'.out hgr'.out rfl, rfl⟩
              · have c0 : wr.cell? ⟨G, 4, none⟩ = some (.int .u32 s.e) := (cg 4).trans rfl
                clear cg
                go_wp2
                go_still_tail 11, (by kernel_rfl)
                change wpList _ _ _ _ _ wr.drew
                go_wp2
                refine ⟨?_, by simp [intOf]⟩
                (repeat apply Exists.intro)
                exact ⟨relC_next 4 5 4 (by decide) (by decide) _ hG'.out hgr'.out rfl, rfl⟩
            · have h5b : decide (i < 5) = false := decide_eq_false h5
              obtain rfl : i = 5 := by omega
              have hgr' := Aside0.mk hgr
              have hG' := Aside0.mk hG
              clear hgr hG hi
              go_wp2
              exact bodyPost_end (v := .tuple #[]) (by simp [results, Try.results44, go_sem]) rfl ⟨rfl, by rw [hcz.out]; exact hG'.out, hgr'.out⟩
end Go.Proofs.Ytijnmoceafcamaa.Sha
