/- (*sha.Hash).Sum and sha.Sum: the digest. -/
import Derived.Test.YtijnmoceafcamaaShaNew
import Derived.Deep.MidRow
namespace Go.Proofs.Ytijnmoceafcamaa.Sha
set_option linter.unusedVariables false
set_option linter.unusedSimpArgs false
open Go.RowKit
open Go.Proofs.YtijnmoceafcamaaW.PrintWords

/-- How many noughts are put behind n bytes and the one mark. -/
def zc (n : Nat) : Nat := (119 - n % 64) % 64
def be8 (n : Int) : List Int := [n / 72057594037927936 % 256, n / 281474976710656 % 256, n / 1099511627776 % 256, n / 4294967296 % 256, n / 16777216 % 256, n / 65536 % 256, n / 256 % 256, n % 256]
def pad8 (n : Nat) : List Int := (128 :: List.replicate (zc n) 0) ++ be8 (8 * n)
def be4 (x : Int) : List Int := [x / 16777216 % 256, x / 65536 % 256, x / 256 % 256, x % 256]
def outB (s : Five) : List Int := be4 s.a ++ be4 s.b ++ be4 s.c ++ be4 s.d ++ be4 s.e
def digest (m : List Int) : List Int := outB (blocksF (m ++ pad8 m.length) iv ((m ++ pad8 m.length).length / 64))
def bcells (l : List Int) : Array Value := (bytes l).toArray
theorem zero24 (w : World) : (zeroValue 24).run Try.prog w = .ok (.agg (bcells (List.replicate 20 0))) w := by kernel_rfl

theorem pad8_len (n : Nat) : (pad8 n).length ≤ 72 := by simp [pad8, be8]; unfold zc; omega
theorem pad8_byte (n : Nat) : ∀ x ∈ pad8 n, 0 ≤ x ∧ x ≤ 255 := by
  intro x hx
  simp only [pad8, be8, List.cons_append, List.mem_cons, List.mem_append, List.mem_replicate, List.not_mem_nil, or_false] at hx
  omega
theorem left_new {w : World} {P : Nat} {l : List Int} (h : w.heap[P]? = some (.cells (bcells l) 5 (0, 0))) : LeftAt w (.slice (some ⟨P, 0, none⟩) l.length l.length) l (some P) :=
  .inr ⟨P, 0, l.length, _, rfl, rfl, Nat.le_refl _, h, by simp [bcells, bytes], fun j hj => by
    rw [Nat.zero_add]
    simp [bcells, bytes, hj]⟩
theorem HashIs.below {w w1 : World} {G : Nat} {m : List Int} {gl : Option Nat} (h : HashIs w G m gl) (hb : Below w.heap.size w w1) : HashIs w1 G m gl := by
  obtain ⟨⟨L, hG, hL⟩, h2, h3⟩ := h
  exact ⟨⟨L, blk_below hG hb, hL.move fun g hg => hb.block g (hL.lt g hg).1⟩, h2, h3⟩

def PadAt (w4 : World) (l : List Int) (gp : Nat) (v : Value) (W : World) : Prop := LeftAt W v l (some gp) ∧ w4.heap.size ≤ gp ∧ Below w4.heap.size w4 W
theorem padAt_next {w4 W w' : World} {l : List Int} {gp : Nat} {v v' : Value} {x : Int} {o : Obj} {gl' : Option Nat} (h : PadAt w4 l gp v W) (hv : LeftAt w' v' (l ++ [x]) gl') (hg : (W.alloc o).grownBy w' (some gp)) (hat : gl' = some gp ∨ ∃ k, gl' = some k ∧ W.heap.size + 1 ≤ k) : ∃ gp', PadAt w4 (l ++ [x]) gp' v' w' := by
  obtain ⟨h1, h2, h3⟩ := h
  have hb : Below w4.heap.size w4 w' := (below_alloc h3 o).grown hg (Nat.le_trans h3.size (by simp)) (by intro k hk; injection hk with hk; omega)
  rcases hat with rfl | ⟨k, rfl, hk⟩
  · exact ⟨gp, hv, h2, hb⟩
  · refine ⟨k, hv, ?_, hb⟩
    have := h3.size
    omega
def vlen : Value → Nat
  | .slice _ n _ => n
  | _ => 0
def RelP1 (w4 : World) (n : Nat) (v : Value) (W : World) : Prop := ∃ i gp, i ≤ zc n ∧ PadAt w4 (128 :: List.replicate i 0) gp v W
def RelP2 (w4 : World) (n : Nat) (v29 v : Value) (W : World) : Prop := ∃ (i : Int) (gp : Nat), (0 ≤ i ∧ i ≤ 8) ∧ v29 = .int .i64 i ∧ PadAt w4 ((128 :: List.replicate (zc n) 0) ++ (be8 (8 * n)).take i.toNat) gp v W
def RelO (w : World) (O X : Nat) (s : Five) (L : Value) (n : Int) (v : Value) (W : World) : Prop := ∃ i : Int, (0 ≤ i ∧ i ≤ 20) ∧ v = .int .i64 i ∧ W.heap[O]? = some (.cells (bcells ((outB s).take i.toNat ++ List.replicate (20 - i.toNat) 0)) 24 (0, 0)) ∧ W.heap[X]? = some (.cells (hcells s L n) 70 (0, 0)) ∧ Below w.heap.size w W
theorem relO_next {w W : World} {O X : Nat} {s : Five} {L : Value} {n : Int} (i i1 : Int) (j : Nat) (h1 : i1 = i + 1) (hi : 0 ≤ i ∧ i < 20) (x : Int) (hO : W.heap[O]? = some (.cells (bcells ((outB s).take i.toNat ++ List.replicate (20 - i.toNat) 0)) 24 (0, 0))) (hX : W.heap[X]? = some (.cells (hcells s L n) 70 (0, 0))) (hb : Below w.heap.size w W) (hOX : O ≠ X) (hw : w.heap.size ≤ O)
    (hx : (bcells ((outB s).take i.toNat ++ List.replicate (20 - i.toNat) 0)).setIfInBounds j (.int .u8 x) = bcells ((outB s).take i1.toNat ++ List.replicate (20 - i1.toNat) 0)) : RelO w O X s L n (.int .i64 i1) (W.setCell ⟨O, j, none⟩ (.int .u8 x)) :=
  ⟨i1, by omega, rfl, (blk_set hO j _).trans (by rw [hx]), blk_far (p := ⟨O, j, none⟩) hX (fun e => hOX e.symm) _, below_set hb hw⟩
theorem size24 : (Try.prog.info? 24).map (·.size) = some 20 := by kernel_rfl
theorem rangeAt_of {w : World} {O : Nat} {l : List Int} {t : TypeId} (h : w.heap[O]? = some (.cells (bcells l) t (0, 0))) : w.rangeAt O 0 (bytes l) := by
  intro j v hj
  rw [Nat.zero_add, blk_cell h]
  simpa [bcells] using hj
theorem there_of {w : World} {O : Nat} {l : List Int} {t : TypeId} (h : w.heap[O]? = some (.cells (bcells l) t (0, 0))) : w.there O 0 (bytes l).toArray.size := by
  intro j hj
  rw [Nat.zero_add]
  refine ⟨?_, blk_frozen h j⟩
  rw [blk_cell h]
  have hj' : j < (bytes l).length := by simpa using hj
  simp [bcells, hj']
theorem below_setCells {w : World} {O : Nat} : ∀ (vs : List Value) (o : Nat) (W : World), Below w.heap.size w W → w.heap.size ≤ O → Below w.heap.size w (W.setCells O o vs)
  | [], _, _, h, _ => h
  | v :: r, o, W, h, hO => by rw [World.setCells]; exact below_setCells r (o + 1) _ (below_set h hO) hO
theorem ret_cell {W : World} {O : Nat} {cs : List Value} {tmps : Array Value} (h2 : tmps[2]? = some (.pointer (some ⟨O, 0, none⟩))) (hld : (loadVar 24 ⟨O, 0, none⟩).run Try.prog W = .ok (.agg cs.toArray) W) : (results Try.f26 tmps).run Try.prog W = .ok (.agg cs.toArray) W := by
  simp [results, Try.results26, h2, asAddr, hld]
theorem putC_self (l : List Int) : putC (bcells l) 0 (bytes l) = bcells l := by
  apply Array.ext
  · rw [putC_size]
  · intro i h1 h2
    have hb : (bytes l).length = (bcells l).size := by simp [bcells]
    have h := putC_in (bytes l) (bcells l) 0 i (by omega) (by omega)
    rw [Nat.zero_add, Array.getElem?_eq_getElem h1] at h
    have h3 : (bytes l)[i]? = some ((bcells l)[i]) := by simp [bcells] 
    rw [h3] at h
    exact Option.some.inj h
set_option maxHeartbeats 2000000 in
set_option maxRecDepth 100000 in
theorem hsum_calls (G : Nat) (m : List Int) (gl : Option Nat) (w : World) (hH : HashIs w G m gl) (hlen : m.length ≤ 70368744177000) :
    Calls Try.prog 26 #[.pointer (some ⟨G, 0, none⟩)] w fun e w' => e = .returned (.agg (bcells (digest m))) ∧ Below w.heap.size w w' := by
  have hHH := Aside0.mk hH
  obtain ⟨⟨L, hG, hL⟩, _, _⟩ := hH
  obtain ⟨A, c, rfl, hc⟩ := hL.len
  have hll : (m.drop (64 * (m.length / 64))).length = m.length % 64 := by rw [List.length_drop]; omega
  rw [hll] at hG hc
  obtain ⟨ln, hln⟩ : ∃ ln, m.length % 64 = ln := ⟨_, rfl⟩
  rw [hln] at hG hc
  have hG' := Aside0.mk hG
  have hln' := Aside0.mk hln
  clear hG hL hll hln
  have hz24 := zero24
  have hx0 : (m.length : Int) ≤ 70368744177000 := by omega
  have hx1 : (0 : Int) ≤ (m.length : Int) := by omega
  go_enter Try.func26, Try.ntmps26
  go_wp2_with (first | ((with_reducible refine gate_dst (N := 2) rfl ?_); refine box_event ?hg (N := 2) ?hd (cs := bcells (List.replicate 20 0)) (t := 24) ?hr ?_; (case hd => rfl); (case hg => rfl); (case hr => first | (go_simp; done) | (go_simp; rfl)); intro O hO0 w3 hbox0 hb30; have hO := Aside0.mk hO0; have hbox := Aside0.mk hbox0; have hb3 := Aside0.mk hb30; clear hO0 hbox0 hb30) | (go_at_call 27; refine (clone_calls G m gl _ (hHH.out.below hb3.out)).mono ?_; rintro e w4 ⟨X, glx, rfl, hX0, hXH0, hglx0, hb40⟩; have hX := Aside0.mk hX0; have hXH := Aside0.mk hXH0; have hglx := Aside0.mk hglx0; have hb4 := Aside0.mk (below_step hb3.out hb40); have hbox4 := Aside0.mk (blk_below hbox.out hb40); have hG4 := Aside0.mk (blk_below hG'.out hb4.out); have k5 : w4.cell? ⟨G, 5, none⟩ = some (.slice A ln c) := (blk_cell hG4.out 5).trans rfl; have k6 : w4.cell? ⟨G, 6, none⟩ = some (.int .u64 m.length) := (blk_cell hG4.out 6).trans rfl; clear hX0 hXH0 hglx0 hb40))
  go_loopw [5] (RelP1 w4 m.length) (fun v _ => zc m.length + 1 - vlen v)
  case atStart => exact ⟨0, w4.heap.size, by omega, left_new (l := [128]) (blk_new w4 _), Nat.le_refl _, below_alloc (Below.refl _ _) _⟩
  case round =>
    obtain ⟨i, gp, hi, hP⟩ := hrel
    obtain ⟨A5, c5, rfl, hc5⟩ := hP.1.len
    obtain ⟨n5, hn5⟩ : ∃ n5, (128 :: List.replicate i (0 : Int)).length = n5 := ⟨_, rfl⟩
    have hn5i : n5 = i + 1 := by rw [← hn5]; simp
    have hlp5 : 128 :: (List.replicate i (0 : Int) ++ [0]) = (128 :: List.replicate i 0) ++ [0] := rfl
    have hlp6 : (128 :: List.replicate i (0 : Int)) ++ [0] = 128 :: List.replicate (i + 1) 0 := by rw [List.replicate_succ']; rfl
    rw [hn5] at hc5 hP
    rw [hn5]
    generalize hlp : (128 :: List.replicate i (0 : Int)) = lp at *
    have hlp' := Aside0.mk hlp
    have hlp6' := Aside0.mk hlp6
    clear hlp hlp5 hlp6
    have r5 : wr.cell? ⟨G, 5, none⟩ = some (.slice A ln c) := (hP.2.2.cell (p := ⟨G, 5, none⟩) (blk_lt hG4.out)).trans k5
    have hP' := Aside0.mk hP
    have hn5' := Aside0.mk hn5
    have hn5i' := Aside0.mk hn5i
    clear hP hn5 hn5i
    have y1 : (0 : Int) ≤ (ln : Int) := by omega
    have y2 : (ln : Int) ≤ 63 := by have := hln'.out; omega
    have y3 : (n5 : Int) ≤ 65 := by have := hn5i'.out; unfold zc at hi; omega
    have y4 : (0 : Int) ≤ (n5 : Int) := by omega
    by_cases h56 : ((ln : Int) + (n5 : Int)) % 64 = 56
    · have h56b : (((ln : Int) + (n5 : Int)) % 64 != 56) = false := by rw [h56]; rfl
      have hiz : Aside0 (i = zc m.length) := Aside0.mk (by have := hn5i'.out; have := hln'.out; unfold zc at *; omega)
      clear h56
      go_wp2
      go_loopw [29, 5] (RelP2 w4 m.length) (fun v _ _ => (8 - intOf v).toNat)
      case atStart => exact ⟨0, gp, by decide, rfl, by rw [← hiz.out, hlp'.out]; simpa using hP'.out⟩
      case round =>
        clear hP' hn5' hn5i' hlp' hlp6' hiz y1 y2 y3 y4 h56b r5 hc5 hi
        clear lp
        obtain ⟨i2, gp2, hi2, rfl, hP⟩ := hrel
        by_cases h8 : i2 < 8
        · have hi3 : i2 = 0 ∨ i2 = 1 ∨ i2 = 2 ∨ i2 = 3 ∨ i2 = 4 ∨ i2 = 5 ∨ i2 = 6 ∨ i2 = 7 := by omega
          clear hi2 h8
          rcases hi3 with rfl | rfl | rfl | rfl | rfl | rfl | rfl | rfl
          · have hlq : Aside0 (((128 :: List.replicate (zc m.length) 0) ++ (be8 (8 * m.length)).take (0 : Int).toNat) ++ [8 * (m.length : Int) / 72057594037927936] = (128 :: List.replicate (zc m.length) 0) ++ (be8 (8 * m.length)).take (1 : Int).toNat) := Aside0.mk (by rw [show 8 * (m.length : Int) / 72057594037927936 = 8 * (m.length : Int) / 72057594037927936 % 256 by omega, List.append_assoc]; rfl)
            obtain ⟨lq, hlq2⟩ : ∃ lq, (128 :: List.replicate (zc m.length) 0) ++ (be8 (8 * m.length)).take (0 : Int).toNat = lq := ⟨_, rfl⟩
            rw [hlq2] at hlq hP
            have hlqn : Aside0 (lq.length ≤ 100) := Aside0.mk (by rw [← hlq2]; simp [be8]; unfold zc; omega)
            obtain ⟨A7, c7, rfl, hc7⟩ := hP.1.len
            have hP' := Aside0.mk hP
            clear hlq2 hP
            go_wp2_with (first | (at_builtin; refine append_left _ rfl _ _ rfl rfl (.slice A7 lq.length c7) lq [8 * (m.length : Int) / 72057594037927936] (some gp2) _ _ rfl rfl ?hL ?hp ?hb ?h))
            case hL => exact hP'.out.1.move fun g hg => Below.heap_alloc wr _ g (hP'.out.1.lt g hg).1
            case hp => exact (left_new (l := [8 * (m.length : Int) / 72057594037927936]) (blk_new wr _)).reads
            case hb => have := hlqn.out; simp; omega
            case h =>
              intro v' w1 gl' hv hgr hat
              obtain ⟨A6, c6, rfl, hc6⟩ := hv.len
              obtain ⟨gp', hP6⟩ := padAt_next hP'.out hv hgr hat
              have hP6' := Aside0.mk hP6
              clear hv hgr hat hP6 hc6
              go_wp2
              exact ⟨⟨1, gp', by decide, rfl, by rw [← hlq.out]; exact hP6'.out⟩, by simp [intOf]⟩
          · have hlq : Aside0 (((128 :: List.replicate (zc m.length) 0) ++ (be8 (8 * m.length)).take (1 : Int).toNat) ++ [8 * (m.length : Int) / 281474976710656] = (128 :: List.replicate (zc m.length) 0) ++ (be8 (8 * m.length)).take (2 : Int).toNat) := Aside0.mk (by rw [show 8 * (m.length : Int) / 281474976710656 = 8 * (m.length : Int) / 281474976710656 % 256 by omega, List.append_assoc]; rfl)
            obtain ⟨lq, hlq2⟩ : ∃ lq, (128 :: List.replicate (zc m.length) 0) ++ (be8 (8 * m.length)).take (1 : Int).toNat = lq := ⟨_, rfl⟩
            rw [hlq2] at hlq hP
            have hlqn : Aside0 (lq.length ≤ 100) := Aside0.mk (by rw [← hlq2]; simp [be8]; unfold zc; omega)
            obtain ⟨A7, c7, rfl, hc7⟩ := hP.1.len
            have hP' := Aside0.mk hP
            clear hlq2 hP
            go_wp2_with (first | (at_builtin; refine append_left _ rfl _ _ rfl rfl (.slice A7 lq.length c7) lq [8 * (m.length : Int) / 281474976710656] (some gp2) _ _ rfl rfl ?hL ?hp ?hb ?h))
            case hL => exact hP'.out.1.move fun g hg => Below.heap_alloc wr _ g (hP'.out.1.lt g hg).1
            case hp => exact (left_new (l := [8 * (m.length : Int) / 281474976710656]) (blk_new wr _)).reads
            case hb => have := hlqn.out; simp; omega
            case h =>
              intro v' w1 gl' hv hgr hat
              obtain ⟨A6, c6, rfl, hc6⟩ := hv.len
              obtain ⟨gp', hP6⟩ := padAt_next hP'.out hv hgr hat
              have hP6' := Aside0.mk hP6
              clear hv hgr hat hP6 hc6
              go_wp2
              exact ⟨⟨2, gp', by decide, rfl, by rw [← hlq.out]; exact hP6'.out⟩, by simp [intOf]⟩
          · have hlq : Aside0 (((128 :: List.replicate (zc m.length) 0) ++ (be8 (8 * m.length)).take (2 : Int).toNat) ++ [8 * (m.length : Int) / 1099511627776 % 256] = (128 :: List.replicate (zc m.length) 0) ++ (be8 (8 * m.length)).take (3 : Int).toNat) := Aside0.mk (by rw [List.append_assoc]; rfl)
            obtain ⟨lq, hlq2⟩ : ∃ lq, (128 :: List.replicate (zc m.length) 0) ++ (be8 (8 * m.length)).take (2 : Int).toNat = lq := ⟨_, rfl⟩
            rw [hlq2] at hlq hP
            have hlqn : Aside0 (lq.length ≤ 100) := Aside0.mk (by rw [← hlq2]; simp [be8]; unfold zc; omega)
            obtain ⟨A7, c7, rfl, hc7⟩ := hP.1.len
            have hP' := Aside0.mk hP
            clear hlq2 hP
            go_wp2_with (first | (at_builtin; refine append_left _ rfl _ _ rfl rfl (.slice A7 lq.length c7) lq [8 * (m.length : Int) / 1099511627776 % 256] (some gp2) _ _ rfl rfl ?hL ?hp ?hb ?h))
            case hL => exact hP'.out.1.move fun g hg => Below.heap_alloc wr _ g (hP'.out.1.lt g hg).1
            case hp => exact (left_new (l := [8 * (m.length : Int) / 1099511627776 % 256]) (blk_new wr _)).reads
            case hb => have := hlqn.out; simp; omega
            case h =>
              intro v' w1 gl' hv hgr hat
              obtain ⟨A6, c6, rfl, hc6⟩ := hv.len
              obtain ⟨gp', hP6⟩ := padAt_next hP'.out hv hgr hat
              have hP6' := Aside0.mk hP6
              clear hv hgr hat hP6 hc6
              go_wp2
              exact ⟨⟨3, gp', by decide, rfl, by rw [← hlq.out]; exact hP6'.out⟩, by simp [intOf]⟩
          · have hlq : Aside0 (((128 :: List.replicate (zc m.length) 0) ++ (be8 (8 * m.length)).take (3 : Int).toNat) ++ [8 * (m.length : Int) / 4294967296 % 256] = (128 :: List.replicate (zc m.length) 0) ++ (be8 (8 * m.length)).take (4 : Int).toNat) := Aside0.mk (by rw [List.append_assoc]; rfl)
            obtain ⟨lq, hlq2⟩ : ∃ lq, (128 :: List.replicate (zc m.length) 0) ++ (be8 (8 * m.length)).take (3 : Int).toNat = lq := ⟨_, rfl⟩
            rw [hlq2] at hlq hP
            have hlqn : Aside0 (lq.length ≤ 100) := Aside0.mk (by rw [← hlq2]; simp [be8]; unfold zc; omega)
            obtain ⟨A7, c7, rfl, hc7⟩ := hP.1.len
            have hP' := Aside0.mk hP
            clear hlq2 hP
            go_wp2_with (first | (at_builtin; refine append_left _ rfl _ _ rfl rfl (.slice A7 lq.length c7) lq [8 * (m.length : Int) / 4294967296 % 256] (some gp2) _ _ rfl rfl ?hL ?hp ?hb ?h))
            case hL => exact hP'.out.1.move fun g hg => Below.heap_alloc wr _ g (hP'.out.1.lt g hg).1
            case hp => exact (left_new (l := [8 * (m.length : Int) / 4294967296 % 256]) (blk_new wr _)).reads
            case hb => have := hlqn.out; simp; omega
            case h =>
              intro v' w1 gl' hv hgr hat
              obtain ⟨A6, c6, rfl, hc6⟩ := hv.len
              obtain ⟨gp', hP6⟩ := padAt_next hP'.out hv hgr hat
              have hP6' := Aside0.mk hP6
              clear hv hgr hat hP6 hc6
              go_wp2
              exact ⟨⟨4, gp', by decide, rfl, by rw [← hlq.out]; exact hP6'.out⟩, by simp [intOf]⟩
          · have hlq : Aside0 (((128 :: List.replicate (zc m.length) 0) ++ (be8 (8 * m.length)).take (4 : Int).toNat) ++ [8 * (m.length : Int) / 16777216 % 256] = (128 :: List.replicate (zc m.length) 0) ++ (be8 (8 * m.length)).take (5 : Int).toNat) := Aside0.mk (by rw [List.append_assoc]; rfl)
            obtain ⟨lq, hlq2⟩ : ∃ lq, (128 :: List.replicate (zc m.length) 0) ++ (be8 (8 * m.length)).take (4 : Int).toNat = lq := ⟨_, rfl⟩
            rw [hlq2] at hlq hP
            have hlqn : Aside0 (lq.length ≤ 100) := Aside0.mk (by rw [← hlq2]; simp [be8]; unfold zc; omega)
            obtain ⟨A7, c7, rfl, hc7⟩ := hP.1.len
            have hP' := Aside0.mk hP
            clear hlq2 hP
            go_wp2_with (first | (at_builtin; refine append_left _ rfl _ _ rfl rfl (.slice A7 lq.length c7) lq [8 * (m.length : Int) / 16777216 % 256] (some gp2) _ _ rfl rfl ?hL ?hp ?hb ?h))
            case hL => exact hP'.out.1.move fun g hg => Below.heap_alloc wr _ g (hP'.out.1.lt g hg).1
            case hp => exact (left_new (l := [8 * (m.length : Int) / 16777216 % 256]) (blk_new wr _)).reads
            case hb => have := hlqn.out; simp; omega
            case h =>
              intro v' w1 gl' hv hgr hat
              obtain ⟨A6, c6, rfl, hc6⟩ := hv.len
              obtain ⟨gp', hP6⟩ := padAt_next hP'.out hv hgr hat
              have hP6' := Aside0.mk hP6
              clear hv hgr hat hP6 hc6
              go_wp2
              exact ⟨⟨5, gp', by decide, rfl, by rw [← hlq.out]; exact hP6'.out⟩, by simp [intOf]⟩
          · have hlq : Aside0 (((128 :: List.replicate (zc m.length) 0) ++ (be8 (8 * m.length)).take (5 : Int).toNat) ++ [8 * (m.length : Int) / 65536 % 256] = (128 :: List.replicate (zc m.length) 0) ++ (be8 (8 * m.length)).take (6 : Int).toNat) := Aside0.mk (by rw [List.append_assoc]; rfl)
            obtain ⟨lq, hlq2⟩ : ∃ lq, (128 :: List.replicate (zc m.length) 0) ++ (be8 (8 * m.length)).take (5 : Int).toNat = lq := ⟨_, rfl⟩
            rw [hlq2] at hlq hP
            have hlqn : Aside0 (lq.length ≤ 100) := Aside0.mk (by rw [← hlq2]; simp [be8]; unfold zc; omega)
            obtain ⟨A7, c7, rfl, hc7⟩ := hP.1.len
            have hP' := Aside0.mk hP
            clear hlq2 hP
            go_wp2_with (first | (at_builtin; refine append_left _ rfl _ _ rfl rfl (.slice A7 lq.length c7) lq [8 * (m.length : Int) / 65536 % 256] (some gp2) _ _ rfl rfl ?hL ?hp ?hb ?h))
            case hL => exact hP'.out.1.move fun g hg => Below.heap_alloc wr _ g (hP'.out.1.lt g hg).1
            case hp => exact (left_new (l := [8 * (m.length : Int) / 65536 % 256]) (blk_new wr _)).reads
            case hb => have := hlqn.out; simp; omega
            case h =>
              intro v' w1 gl' hv hgr hat
              obtain ⟨A6, c6, rfl, hc6⟩ := hv.len
              obtain ⟨gp', hP6⟩ := padAt_next hP'.out hv hgr hat
              have hP6' := Aside0.mk hP6
              clear hv hgr hat hP6 hc6
              go_wp2
              exact ⟨⟨6, gp', by decide, rfl, by rw [← hlq.out]; exact hP6'.out⟩, by simp [intOf]⟩
          · have hlq : Aside0 (((128 :: List.replicate (zc m.length) 0) ++ (be8 (8 * m.length)).take (6 : Int).toNat) ++ [8 * (m.length : Int) / 256 % 256] = (128 :: List.replicate (zc m.length) 0) ++ (be8 (8 * m.length)).take (7 : Int).toNat) := Aside0.mk (by rw [List.append_assoc]; rfl)
            obtain ⟨lq, hlq2⟩ : ∃ lq, (128 :: List.replicate (zc m.length) 0) ++ (be8 (8 * m.length)).take (6 : Int).toNat = lq := ⟨_, rfl⟩
            rw [hlq2] at hlq hP
            have hlqn : Aside0 (lq.length ≤ 100) := Aside0.mk (by rw [← hlq2]; simp [be8]; unfold zc; omega)
            obtain ⟨A7, c7, rfl, hc7⟩ := hP.1.len
            have hP' := Aside0.mk hP
            clear hlq2 hP
            go_wp2_with (first | (at_builtin; refine append_left _ rfl _ _ rfl rfl (.slice A7 lq.length c7) lq [8 * (m.length : Int) / 256 % 256] (some gp2) _ _ rfl rfl ?hL ?hp ?hb ?h))
            case hL => exact hP'.out.1.move fun g hg => Below.heap_alloc wr _ g (hP'.out.1.lt g hg).1
            case hp => exact (left_new (l := [8 * (m.length : Int) / 256 % 256]) (blk_new wr _)).reads
            case hb => have := hlqn.out; simp; omega
            case h =>
              intro v' w1 gl' hv hgr hat
              obtain ⟨A6, c6, rfl, hc6⟩ := hv.len
              obtain ⟨gp', hP6⟩ := padAt_next hP'.out hv hgr hat
              have hP6' := Aside0.mk hP6
              clear hv hgr hat hP6 hc6
              go_wp2
              exact ⟨⟨7, gp', by decide, rfl, by rw [← hlq.out]; exact hP6'.out⟩, by simp [intOf]⟩
          · have hlq : Aside0 (((128 :: List.replicate (zc m.length) 0) ++ (be8 (8 * m.length)).take (7 : Int).toNat) ++ [8 * (m.length : Int) % 256] = (128 :: List.replicate (zc m.length) 0) ++ (be8 (8 * m.length)).take (8 : Int).toNat) := Aside0.mk (by rw [List.append_assoc]; rfl)
            obtain ⟨lq, hlq2⟩ : ∃ lq, (128 :: List.replicate (zc m.length) 0) ++ (be8 (8 * m.length)).take (7 : Int).toNat = lq := ⟨_, rfl⟩
            rw [hlq2] at hlq hP
            have hlqn : Aside0 (lq.length ≤ 100) := Aside0.mk (by rw [← hlq2]; simp [be8]; unfold zc; omega)
            obtain ⟨A7, c7, rfl, hc7⟩ := hP.1.len
            have hP' := Aside0.mk hP
            clear hlq2 hP
            go_wp2_with (first | (at_builtin; refine append_left _ rfl _ _ rfl rfl (.slice A7 lq.length c7) lq [8 * (m.length : Int) % 256] (some gp2) _ _ rfl rfl ?hL ?hp ?hb ?h))
            case hL => exact hP'.out.1.move fun g hg => Below.heap_alloc wr _ g (hP'.out.1.lt g hg).1
            case hp => exact (left_new (l := [8 * (m.length : Int) % 256]) (blk_new wr _)).reads
            case hb => have := hlqn.out; simp; omega
            case h =>
              intro v' w1 gl' hv hgr hat
              obtain ⟨A6, c6, rfl, hc6⟩ := hv.len
              obtain ⟨gp', hP6⟩ := padAt_next hP'.out hv hgr hat
              have hP6' := Aside0.mk hP6
              clear hv hgr hat hP6 hc6
              go_wp2
              exact ⟨⟨8, gp', by decide, rfl, by rw [← hlq.out]; exact hP6'.out⟩, by simp [intOf]⟩
        · have h8b : decide (i2 < 8) = false := decide_eq_false h8
          obtain rfl : i2 = 8 := by omega
          clear h8 hi2
          have hpd0 : (128 :: List.replicate (zc m.length) 0) ++ (be8 (8 * m.length)).take (8 : Int).toNat = pad8 m.length := rfl
          rw [hpd0] at hP
          have hpb := pad8_byte m.length
          have hpl := pad8_len m.length
          obtain ⟨pd, hpd⟩ : ∃ pd, pad8 m.length = pd := ⟨_, rfl⟩
          rw [hpd] at hP hpb hpl
          obtain ⟨A7, c7, rfl, hc7⟩ := hP.1.len
          have hwr := Aside0.mk (write_calls X m pd glx A7 c7 wr (hXH.out.below hP.2.2) hP.1.reads hpb (by omega))
          have hb5 := Aside0.mk hP.2.2
          have hpd' := Aside0.mk hpd
          have hpl' := Aside0.mk hpl
          clear hP hpd hpd0 hpb hpl
          go_wp2_with (go_at_call 25; refine hwr.out.mono ?_; rintro e w6 ⟨rfl, gl6, hH60, hF60, hgl60⟩; have hH6 := Aside0.mk hH60; have hF6 := Aside0.mk hF60; clear hH60 hF60 hgl60)
          obtain ⟨⟨L6, hX60, hL60⟩, _, hl6⟩ := hH6.out
          obtain ⟨A8, c8, rfl, hc8⟩ := hL60.len
          obtain ⟨ln6, hln6⟩ : ∃ ln6, (List.drop (64 * ((m ++ pd).length / 64)) (m ++ pd)).length = ln6 := ⟨_, rfl⟩
          have hdig : digest m = outB (blocksF (m ++ pd) iv ((m ++ pd).length / 64)) := by rw [← hpd'.out]; rfl
          rw [hln6] at hX60
          generalize blocksF (m ++ pd) iv ((m ++ pd).length / 64) = s at *
          have hOlt : O < w4.heap.size := blk_lt hbox4.out
          have hOX : Aside0 (O ≠ X) := Aside0.mk (by have h1 := hX.out; have h2 := blk_lt hbox.out; omega)
          have hOg : some O ≠ glx := by
            intro e
            rcases hglx.out with h | ⟨k, h, hk⟩
            · rw [h] at e; cases e
            · rw [h] at e; injection e with e; have h2 := blk_lt hbox.out; omega
          have hO6 : w6.heap[O]? = some (.cells (bcells (List.replicate 20 0)) 24 (0, 0)) := (hF6.out.block O (Nat.lt_of_lt_of_le hOlt hb5.out.size) hOX.out hOg).trans (blk_below hbox4.out hb5.out)
          have hw0 : Aside0 (w.heap.size ≤ O) := Aside0.mk (by rw [hO.out]; exact Nat.le_refl _)
          have hb6 : Below w.heap.size w w6 := by
            have h1 := below_step hb4.out hb5.out
            have hXw : w.heap.size ≤ X := Nat.le_trans hb3.out.size hX.out
            refine h1.trans ⟨hF6.out.os, hF6.out.tape, hF6.out.output, hF6.out.size, fun k hk => hF6.out.block k (Nat.lt_of_lt_of_le hk h1.size) (by omega) (fun e => ?_)⟩
            rcases hglx.out with h | ⟨j, h, hj⟩
            · rw [h] at e; cases e
            · rw [h] at e; injection e with e; have h2 := hb3.out.size; omega
          have hO6' := Aside0.mk hO6
          have hX6' := Aside0.mk hX60
          have hb6' := Aside0.mk hb6
          have hdig' := Aside0.mk hdig
          clear hX60 hL60 hc8 hln6 hdig hOlt hOg hO6 hb6 hl6 hH6 hF6
          go_loopw [45] (RelO w O X s (.slice A8 ln6 c8) (m ++ pd).length) (fun v _ => (20 - intOf v).toNat)
          case atStart => exact ⟨0, by decide, rfl, hO6'.out, hX6'.out, hb6'.out⟩
          case round =>
            clear hO6' hX6' hb6'
            obtain ⟨i3, hi3, rfl, hO8, hX8, hb8⟩ := hrel
            have x0 : wr.cell? ⟨X, 0, none⟩ = some (.int .u32 s.a) := (blk_cell hX8 0).trans rfl
            have x1 : wr.cell? ⟨X, 1, none⟩ = some (.int .u32 s.b) := (blk_cell hX8 1).trans rfl
            have x2 : wr.cell? ⟨X, 2, none⟩ = some (.int .u32 s.c) := (blk_cell hX8 2).trans rfl
            have x3 : wr.cell? ⟨X, 3, none⟩ = some (.int .u32 s.d) := (blk_cell hX8 3).trans rfl
            have x4 : wr.cell? ⟨X, 4, none⟩ = some (.int .u32 s.e) := (blk_cell hX8 4).trans rfl
            have co : ∀ j, wr.cell? ⟨O, j, none⟩ = (bcells ((outB s).take i3.toNat ++ List.replicate (20 - i3.toNat) 0))[j]? := fun j => blk_cell hO8 j
            by_cases h20 : i3 < 20
            · have hi4 : i3 = 0 ∨ i3 = 1 ∨ i3 = 2 ∨ i3 = 3 ∨ i3 = 4 ∨ i3 = 5 ∨ i3 = 6 ∨ i3 = 7 ∨ i3 = 8 ∨ i3 = 9 ∨ i3 = 10 ∨ i3 = 11 ∨ i3 = 12 ∨ i3 = 13 ∨ i3 = 14 ∨ i3 = 15 ∨ i3 = 16 ∨ i3 = 17 ∨ i3 = 18 ∨ i3 = 19 := by omega
              clear hi3 h20
              have hX8' := Aside0.mk hX8
              have hb8' := Aside0.mk hb8
              have fo : Aside0 (∀ j, wr.frozen? ⟨O, j, none⟩ = false) := Aside0.mk fun j => blk_frozen hO8 j
              have hO8' := Aside0.mk hO8
              clear hX8 hb8 hO8
              rcases hi4 with rfl | rfl | rfl | rfl | rfl | rfl | rfl | rfl | rfl | rfl | rfl | rfl | rfl | rfl | rfl | rfl | rfl | rfl | rfl | rfl
              · have ox : wr.cell? ⟨O, 0, none⟩ = some (.int .u8 0) := (co 0).trans rfl
                have hx := Aside0.mk (relO_next 0 1 0 (by decide) (by decide) (s.a / 16777216 % 256) hO8'.out hX8'.out hb8'.out hOX.out hw0.out rfl)
                have fx : wr.frozen? ⟨O, 0, none⟩ = false := fo.out 0
                clear co
                go_wp2
                exact ⟨hx.out, by simp [intOf]⟩
              · have ox : wr.cell? ⟨O, 1, none⟩ = some (.int .u8 0) := (co 1).trans rfl
                have hx := Aside0.mk (relO_next 1 2 1 (by decide) (by decide) (s.a / 65536 % 256) hO8'.out hX8'.out hb8'.out hOX.out hw0.out rfl)
                have fx : wr.frozen? ⟨O, 1, none⟩ = false := fo.out 1
                clear co
                go_wp2
                exact ⟨hx.out, by simp [intOf]⟩
              · have ox : wr.cell? ⟨O, 2, none⟩ = some (.int .u8 0) := (co 2).trans rfl
                have hx := Aside0.mk (relO_next 2 3 2 (by decide) (by decide) (s.a / 256 % 256) hO8'.out hX8'.out hb8'.out hOX.out hw0.out rfl)
                have fx : wr.frozen? ⟨O, 2, none⟩ = false := fo.out 2
                clear co
                go_wp2
                exact ⟨hx.out, by simp [intOf]⟩
              · have ox : wr.cell? ⟨O, 3, none⟩ = some (.int .u8 0) := (co 3).trans rfl
                have hx := Aside0.mk (relO_next 3 4 3 (by decide) (by decide) (s.a % 256) hO8'.out hX8'.out hb8'.out hOX.out hw0.out rfl)
                have fx : wr.frozen? ⟨O, 3, none⟩ = false := fo.out 3
                clear co
                go_wp2
                exact ⟨hx.out, by simp [intOf]⟩
              · have ox : wr.cell? ⟨O, 4, none⟩ = some (.int .u8 0) := (co 4).trans rfl
                have hx := Aside0.mk (relO_next 4 5 4 (by decide) (by decide) (s.b / 16777216 % 256) hO8'.out hX8'.out hb8'.out hOX.out hw0.out rfl)
                have fx : wr.frozen? ⟨O, 4, none⟩ = false := fo.out 4
                clear co
                go_wp2
                exact ⟨hx.out, by simp [intOf]⟩
              · have ox : wr.cell? ⟨O, 5, none⟩ = some (.int .u8 0) := (co 5).trans rfl
                have hx := Aside0.mk (relO_next 5 6 5 (by decide) (by decide) (s.b / 65536 % 256) hO8'.out hX8'.out hb8'.out hOX.out hw0.out rfl)
                have fx : wr.frozen? ⟨O, 5, none⟩ = false := fo.out 5
                clear co
                go_wp2
                exact ⟨hx.out, by simp [intOf]⟩
              · have ox : wr.cell? ⟨O, 6, none⟩ = some (.int .u8 0) := (co 6).trans rfl
                have hx := Aside0.mk (relO_next 6 7 6 (by decide) (by decide) (s.b / 256 % 256) hO8'.out hX8'.out hb8'.out hOX.out hw0.out rfl)
                have fx : wr.frozen? ⟨O, 6, none⟩ = false := fo.out 6
                clear co
                go_wp2
                exact ⟨hx.out, by simp [intOf]⟩
              · have ox : wr.cell? ⟨O, 7, none⟩ = some (.int .u8 0) := (co 7).trans rfl
                have hx := Aside0.mk (relO_next 7 8 7 (by decide) (by decide) (s.b % 256) hO8'.out hX8'.out hb8'.out hOX.out hw0.out rfl)
                have fx : wr.frozen? ⟨O, 7, none⟩ = false := fo.out 7
                clear co
                go_wp2
                exact ⟨hx.out, by simp [intOf]⟩
              · have ox : wr.cell? ⟨O, 8, none⟩ = some (.int .u8 0) := (co 8).trans rfl
                have hx := Aside0.mk (relO_next 8 9 8 (by decide) (by decide) (s.c / 16777216 % 256) hO8'.out hX8'.out hb8'.out hOX.out hw0.out rfl)
                have fx : wr.frozen? ⟨O, 8, none⟩ = false := fo.out 8
                clear co
                go_wp2
                exact ⟨hx.out, by simp [intOf]⟩
              · have ox : wr.cell? ⟨O, 9, none⟩ = some (.int .u8 0) := (co 9).trans rfl
                have hx := Aside0.mk (relO_next 9 10 9 (by decide) (by decide) (s.c / 65536 % 256) hO8'.out hX8'.out hb8'.out hOX.out hw0.out rfl)
                have fx : wr.frozen? ⟨O, 9, none⟩ = false := fo.out 9
                clear co
                go_wp2
                exact ⟨hx.out, by simp [intOf]⟩
              · have ox : wr.cell? ⟨O, 10, none⟩ = some (.int .u8 0) := (co 10).trans rfl
                have hx := Aside0.mk (relO_next 10 11 10 (by decide) (by decide) (s.c / 256 % 256) hO8'.out hX8'.out hb8'.out hOX.out hw0.out rfl)
                have fx : wr.frozen? ⟨O, 10, none⟩ = false := fo.out 10
                clear co
                go_wp2
                exact ⟨hx.out, by simp [intOf]⟩
              · have ox : wr.cell? ⟨O, 11, none⟩ = some (.int .u8 0) := (co 11).trans rfl
                have hx := Aside0.mk (relO_next 11 12 11 (by decide) (by decide) (s.c % 256) hO8'.out hX8'.out hb8'.out hOX.out hw0.out rfl)
                have fx : wr.frozen? ⟨O, 11, none⟩ = false := fo.out 11
                clear co
                go_wp2
                exact ⟨hx.out, by simp [intOf]⟩
              · have ox : wr.cell? ⟨O, 12, none⟩ = some (.int .u8 0) := (co 12).trans rfl
                have hx := Aside0.mk (relO_next 12 13 12 (by decide) (by decide) (s.d / 16777216 % 256) hO8'.out hX8'.out hb8'.out hOX.out hw0.out rfl)
                have fx : wr.frozen? ⟨O, 12, none⟩ = false := fo.out 12
                clear co
                go_wp2
                exact ⟨hx.out, by simp [intOf]⟩
              · have ox : wr.cell? ⟨O, 13, none⟩ = some (.int .u8 0) := (co 13).trans rfl
                have hx := Aside0.mk (relO_next 13 14 13 (by decide) (by decide) (s.d / 65536 % 256) hO8'.out hX8'.out hb8'.out hOX.out hw0.out rfl)
                have fx : wr.frozen? ⟨O, 13, none⟩ = false := fo.out 13
                clear co
                go_wp2
                exact ⟨hx.out, by simp [intOf]⟩
              · have ox : wr.cell? ⟨O, 14, none⟩ = some (.int .u8 0) := (co 14).trans rfl
                have hx := Aside0.mk (relO_next 14 15 14 (by decide) (by decide) (s.d / 256 % 256) hO8'.out hX8'.out hb8'.out hOX.out hw0.out rfl)
                have fx : wr.frozen? ⟨O, 14, none⟩ = false := fo.out 14
                clear co
                go_wp2
                exact ⟨hx.out, by simp [intOf]⟩
              · have ox : wr.cell? ⟨O, 15, none⟩ = some (.int .u8 0) := (co 15).trans rfl
                have hx := Aside0.mk (relO_next 15 16 15 (by decide) (by decide) (s.d % 256) hO8'.out hX8'.out hb8'.out hOX.out hw0.out rfl)
                have fx : wr.frozen? ⟨O, 15, none⟩ = false := fo.out 15
                clear co
                go_wp2
                exact ⟨hx.out, by simp [intOf]⟩
              · have ox : wr.cell? ⟨O, 16, none⟩ = some (.int .u8 0) := (co 16).trans rfl
                have hx := Aside0.mk (relO_next 16 17 16 (by decide) (by decide) (s.e / 16777216 % 256) hO8'.out hX8'.out hb8'.out hOX.out hw0.out rfl)
                have fx : wr.frozen? ⟨O, 16, none⟩ = false := fo.out 16
                clear co
                go_wp2
                exact ⟨hx.out, by simp [intOf]⟩
              · have ox : wr.cell? ⟨O, 17, none⟩ = some (.int .u8 0) := (co 17).trans rfl
                have hx := Aside0.mk (relO_next 17 18 17 (by decide) (by decide) (s.e / 65536 % 256) hO8'.out hX8'.out hb8'.out hOX.out hw0.out rfl)
                have fx : wr.frozen? ⟨O, 17, none⟩ = false := fo.out 17
                clear co
                go_wp2
                exact ⟨hx.out, by simp [intOf]⟩
              · have ox : wr.cell? ⟨O, 18, none⟩ = some (.int .u8 0) := (co 18).trans rfl
                have hx := Aside0.mk (relO_next 18 19 18 (by decide) (by decide) (s.e / 256 % 256) hO8'.out hX8'.out hb8'.out hOX.out hw0.out rfl)
                have fx : wr.frozen? ⟨O, 18, none⟩ = false := fo.out 18
                clear co
                go_wp2
                exact ⟨hx.out, by simp [intOf]⟩
              · have ox : wr.cell? ⟨O, 19, none⟩ = some (.int .u8 0) := (co 19).trans rfl
                have hx := Aside0.mk (relO_next 19 20 19 (by decide) (by decide) (s.e % 256) hO8'.out hX8'.out hb8'.out hOX.out hw0.out rfl)
                have fx : wr.frozen? ⟨O, 19, none⟩ = false := fo.out 19
                clear co
                go_wp2
                exact ⟨hx.out, by simp [intOf]⟩
            · have h20b : decide (i3 < 20) = false := decide_eq_false h20
              obtain rfl : i3 = 20 := by omega
              have hO8' := Aside0.mk hO8
              have hb8' := Aside0.mk hb8
              clear hi3 h20 hX8 hb8 hO8
              have hd20 : (outB s).take (20 : Int).toNat ++ List.replicate (20 - (20 : Int).toNat) 0 = digest m := by rw [hdig'.out]; rfl
              have hdl : (bytes (digest m)).length = 20 := by rw [hdig'.out]; rfl
              have hOd := hO8'.out
              rw [hd20] at hOd
              have hsz : (Try.prog.info? 24).map (·.size) = some (bytes (digest m)).length := by rw [hdl]; exact size24
              have hra := Aside0.mk (rangeAt_of hOd)
              have hth : Aside0 (wr.there O 0 (bytes (digest m)).toArray.size) := Aside0.mk (there_of hOd)
              have hone : Aside0 ((bytes (digest m)).toArray.all (·.oneCell') = true) := Aside0.mk (all_oneCell_toArray (by
                intro v hv
                simp only [bytes, List.mem_map] at hv
                obtain ⟨q, _, rfl⟩ := hv
                rfl))
              have hO9 := Aside0.mk (heap_setCells (bytes (digest m)) 0 wr _ hOd)
              have hb9 := Aside0.mk (below_setCells (bytes (digest m)) 0 wr hb8'.out hw0.out)
              have hsz' := Aside0.mk hsz
              clear co x0 x1 x2 x3 x4 hd20 hdl hOd hsz
              have hpc0 : putC (bcells (digest m)) 0 (bytes (digest m)) = bcells (digest m) := putC_self _
              obtain ⟨cs, hcs0⟩ : ∃ cs, bytes (digest m) = cs := ⟨_, rfl⟩
              rw [hcs0] at hra hth hone hO9 hb9 hsz' hpc0
              have hcs := Aside0.mk hcs0
              have hpc := Aside0.mk hpc0
              clear hcs0 hpc0
              go_wp2_with (first | (refine wpList_load_mid rfl 24 (.tmp 2) rfl O 0 rfl cs _ hra.out Try.underlying24 rfl hsz'.out ?_) | (refine wpList_store_mid rfl 24 (.tmp 2) (.tmp 64) rfl O 0 cs.toArray rfl rfl hth.out (by rw [List.size_toArray]; exact hsz'.out) hone.out ?_))
              have hO7 : (wr.setCells O 0 cs).heap[O]? = some (.cells (bcells (digest m)) 24 (0, 0)) := by
                rw [hO9.out, hpc.out]
              have hra7 := rangeAt_of hO7
              rw [hcs.out] at hra7
              have hld := run_loadVar_mid (P := Try.prog) (wr.setCells O 0 cs) O 0 24 cs _ hra7 Try.underlying24 rfl hsz'.out
              have hret : Ending.returned (.agg cs.toArray) = Ending.returned (.agg (bcells (digest m))) := by rw [← hcs.out]; rfl
              have hRR : Ending.returned (.agg cs.toArray) = Ending.returned (.agg (bcells (digest m))) ∧ Below w.heap.size w (wr.setCells O 0 cs) := ⟨hret, hb9.out⟩
              clear hret
              refine bodyPost_ret (v := .agg cs.toArray) ?_ ?_ ?_
              · exact ret_cell (by simp [Act.put]) hld
              · simp [Act.put]
              · exact hRR
    · have h56b : (((ln : Int) + (n5 : Int)) % 64 != 56) = true := by simpa using h56
      have hiz : Aside0 (i < zc m.length) := Aside0.mk (by have := hn5i'.out; have := hln'.out; unfold zc at *; omega)
      clear h56
      go_wp2_with (first | (at_builtin; refine append_left _ rfl _ _ rfl rfl (.slice A5 n5 c5) lp [0] (some gp) _ _ rfl rfl ?hL ?hp ?hb ?h))
      case hL => exact hP'.out.1.move fun g hg => Below.heap_alloc wr _ g (hP'.out.1.lt g hg).1
      case hp => exact (left_new (l := [0]) (blk_new wr _)).reads
      case hb => rw [hn5'.out]; simp; omega
      case h =>
        intro v' w1 gl' hv hgr hat
        obtain ⟨A6, c6, rfl, hc6⟩ := hv.len
        obtain ⟨gp', hP6⟩ := padAt_next hP'.out hv hgr hat
        have hP6' := Aside0.mk hP6
        have hl6 : Aside0 ((lp ++ [0]).length = n5 + 1) := Aside0.mk (by rw [List.length_append, hn5'.out]; rfl)
        clear hv hgr hat hP6 hc6
        go_wp2
        refine ⟨⟨i + 1, gp', by have := hiz.out; omega, by rw [← hlp6'.out]; exact hP6'.out⟩, ?_⟩
        show zc m.length + 1 - (lp ++ [0]).length < zc m.length + 1 - n5
        rw [hl6.out]
        have h1 := hiz.out
        have h2 := hn5i'.out
        omega
end Go.Proofs.Ytijnmoceafcamaa.Sha
