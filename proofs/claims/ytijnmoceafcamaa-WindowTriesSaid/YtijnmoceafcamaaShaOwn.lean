/- What a caller of package sha owns: Hashes, boxes of twenty bytes, rows of bytes, each apart from the others and from all that was there; what each call leaves of it. -/
import Derived.Test.YtijnmoceafcamaaShaSum
namespace Go.Proofs.Ytijnmoceafcamaa.Sha
set_option linter.unusedVariables false
set_option linter.unusedSimpArgs false
open Go.RowKit
open Go.Proofs.YtijnmoceafcamaaW.PrintWords

structure Keeps (w w' : World) (X : List Nat) : Prop where
  os : w'.os = w.os
  tape : w'.tape = w.tape
  output : w'.output = w.output
  size : w.heap.size ≤ w'.heap.size
  block : ∀ k, k < w.heap.size → k ∉ X → w'.heap[k]? = w.heap[k]?
theorem Keeps.refl (w : World) (X : List Nat) : Keeps w w X := ⟨rfl, rfl, rfl, Nat.le_refl _, fun _ _ _ => rfl⟩
theorem Keeps.of_below {w w' : World} (h : Below w.heap.size w w') (X : List Nat) : Keeps w w' X := ⟨h.os, h.tape, h.output, h.size, fun k hk _ => h.block k hk⟩
theorem Keeps.of_fr {w w' : World} {G : Nat} {gl : Option Nat} (h : Fr w w' G gl) : Keeps w w' (G :: gl.toList) :=
  ⟨h.os, h.tape, h.output, h.size, fun k hk hX => h.block k hk (fun e => hX (by simp [e])) (fun e => hX (by simp [← e]))⟩
theorem Keeps.of_grown {w w' : World} {gl : Option Nat} (h : w.grownBy w' gl) : Keeps w w' gl.toList :=
  ⟨h.os, h.tape, h.output, h.size, fun k hk hX => h.block k hk (fun e => hX (by simp [← e]))⟩
theorem Keeps.below {w w' : World} (h : Keeps w w' []) : Below w.heap.size w w' := ⟨h.os, h.tape, h.output, h.size, fun k hk => h.block k hk (by simp)⟩

/-- Something that is owned: its blocks, and what holds of them. -/
structure Res where
  fp : List Nat
  ok : World → Prop
  loc : ∀ w w', (∀ k ∈ fp, w'.heap[k]? = w.heap[k]?) → ok w → ok w'
  lt : ∀ w, ok w → ∀ k ∈ fp, k < w.heap.size

structure Owns (b w : World) (rs : List Res) : Prop where
  below : Below b.heap.size b w
  ok : ∀ (i : Nat) (r : Res), rs[i]? = some r → r.ok w
  ge : ∀ (i : Nat) (r : Res), rs[i]? = some r → ∀ k ∈ r.fp, b.heap.size ≤ k
  apart : ∀ (i j : Nat) (r s : Res), i ≠ j → rs[i]? = some r → rs[j]? = some s → ∀ k ∈ r.fp, k ∉ s.fp
theorem Owns.start (w : World) : Owns w w [] := ⟨Below.refl _ _, by simp, by simp, by simp⟩
theorem Owns.put {b w w' : World} {rs : List Res} {i : Nat} {r r' : Res} (h : Owns b w rs) (hi : rs[i]? = some r) (hk : Keeps w w' r.fp) (hok : r'.ok w') (hfp : ∀ k ∈ r'.fp, k ∈ r.fp ∨ w.heap.size ≤ k) : Owns b w' (rs.set i r') := by
  have hil : i < rs.length := by
    rcases Nat.lt_or_ge i rs.length with hl | hl
    · exact hl
    · rw [List.getElem?_eq_none hl] at hi; cases hi
  have get : ∀ j s, (rs.set i r')[j]? = some s → (j = i ∧ s = r') ∨ (j ≠ i ∧ rs[j]? = some s) := by
    intro j s hj
    rw [List.getElem?_set] at hj
    by_cases e : i = j
    · rw [if_pos e, if_pos (by omega)] at hj
      exact .inl ⟨e.symm, (Option.some.inj hj).symm⟩
    · rw [if_neg e] at hj
      exact .inr ⟨fun e2 => e e2.symm, hj⟩
  refine ⟨⟨hk.os.trans h.below.os, hk.tape.trans h.below.tape, hk.output.trans h.below.output, Nat.le_trans h.below.size hk.size, fun k hkb => (hk.block k (Nat.lt_of_lt_of_le hkb h.below.size) (fun hm => absurd (h.ge i r hi k hm) (by omega))).trans (h.below.block k hkb)⟩, ?_, ?_, ?_⟩
  · intro j s hj
    rcases get j s hj with ⟨_, rfl⟩ | ⟨hne, hj⟩
    · exact hok
    · exact s.loc w w' (fun k hks => hk.block k (s.lt w (h.ok j s hj) k hks) (h.apart j i s r hne hj hi k hks)) (h.ok j s hj)
  · intro j s hj k hks
    rcases get j s hj with ⟨_, rfl⟩ | ⟨_, hj⟩
    · rcases hfp k hks with h1 | h1
      · exact h.ge i r hi k h1
      · exact Nat.le_trans h.below.size h1
    · exact h.ge j s hj k hks
  · intro j1 j2 s t hne h1 h2 k hks
    rcases get j1 s h1 with ⟨e1, rfl⟩ | ⟨hn1, g1⟩
    · rcases get j2 t h2 with ⟨e2, rfl⟩ | ⟨hn2, g2⟩
      · omega
      · rcases hfp k hks with h3 | h3
        · exact h.apart i j2 r t (fun e => hn2 e.symm) hi g2 k h3
        · intro h4
          have := t.lt w (h.ok j2 t g2) k h4
          omega
    · rcases get j2 t h2 with ⟨e2, rfl⟩ | ⟨hn2, g2⟩
      · intro h4
        rcases hfp k h4 with h3 | h3
        · exact h.apart j1 i s r hn1 g1 hi k hks h3
        · have := s.lt w (h.ok j1 s g1) k hks
          omega
      · exact h.apart j1 j2 s t hne g1 g2 k hks
theorem Owns.add {b w w' : World} {rs : List Res} {r' : Res} (h : Owns b w rs) (hk : Keeps w w' []) (hok : r'.ok w') (hfp : ∀ k ∈ r'.fp, w.heap.size ≤ k) : Owns b w' (rs ++ [r']) := by
  have get : ∀ j s, (rs ++ [r'])[j]? = some s → (j = rs.length ∧ s = r') ∨ (j ≠ rs.length ∧ rs[j]? = some s) := by
    intro j s hj
    rcases Nat.lt_or_ge j rs.length with hl | hl
    · rw [List.getElem?_append_left hl] at hj
      exact .inr ⟨by omega, hj⟩
    · rw [List.getElem?_append_right hl] at hj
      by_cases e : j = rs.length
      · subst e
        simp at hj
        exact .inl ⟨rfl, hj.symm⟩
      · rw [List.getElem?_eq_none (by simp; omega)] at hj; cases hj
  refine ⟨⟨hk.os.trans h.below.os, hk.tape.trans h.below.tape, hk.output.trans h.below.output, Nat.le_trans h.below.size hk.size, fun k hkb => (hk.block k (Nat.lt_of_lt_of_le hkb h.below.size) (by simp)).trans (h.below.block k hkb)⟩, ?_, ?_, ?_⟩
  · intro j s hj
    rcases get j s hj with ⟨_, rfl⟩ | ⟨hne, hj⟩
    · exact hok
    · exact s.loc w w' (fun k hks => hk.block k (s.lt w (h.ok j s hj) k hks) (by simp)) (h.ok j s hj)
  · intro j s hj k hks
    rcases get j s hj with ⟨_, rfl⟩ | ⟨_, hj⟩
    · exact Nat.le_trans h.below.size (hfp k hks)
    · exact h.ge j s hj k hks
  · intro j1 j2 s t hne h1 h2 k hks
    rcases get j1 s h1 with ⟨e1, rfl⟩ | ⟨hn1, g1⟩
    · rcases get j2 t h2 with ⟨e2, rfl⟩ | ⟨hn2, g2⟩
      · omega
      · intro h4
        have h5 := t.lt w (h.ok j2 t g2) k h4
        have h6 := hfp k hks
        omega
    · rcases get j2 t h2 with ⟨e2, rfl⟩ | ⟨hn2, g2⟩
      · intro h4
        have h5 := s.lt w (h.ok j1 s g1) k hks
        have h6 := hfp k h4
        omega
      · exact h.apart j1 j2 s t hne g1 g2 k hks
theorem Owns.stay {b w w' : World} {rs : List Res} (h : Owns b w rs) (hk : Keeps w w' []) : Owns b w' rs :=
  ⟨⟨hk.os.trans h.below.os, hk.tape.trans h.below.tape, hk.output.trans h.below.output, Nat.le_trans h.below.size hk.size, fun k hkb => (hk.block k (Nat.lt_of_lt_of_le hkb h.below.size) (by simp)).trans (h.below.block k hkb)⟩,
   fun j s hj => s.loc w w' (fun k hks => hk.block k (s.lt w (h.ok j s hj) k hks) (by simp)) (h.ok j s hj), h.ge, h.apart⟩
theorem Owns.drew {b w : World} {rs : List Res} (h : Owns b w rs) : Owns b w.drew rs := h.stay ⟨rfl, rfl, rfl, Nat.le_refl _, fun _ _ _ => rfl⟩
theorem Owns.alter {b w : World} {rs : List Res} (h : Owns b w rs) (n : Nat) : Owns b { w with drawn := n } rs := h.stay ⟨rfl, rfl, rfl, Nat.le_refl _, fun _ _ _ => rfl⟩

def hashR (G : Nat) (m : List Int) (gl : Option Nat) : Res where
  fp := G :: gl.toList
  ok w := HashIs w G m gl
  loc w w' hk h := by
    obtain ⟨⟨L, h1, h2⟩, h3, h4⟩ := h
    exact ⟨⟨L, (hk G (by simp)).trans h1, h2.move fun g hg => hk g (by simp [hg])⟩, h3, h4⟩
  lt w h k hk := by
    obtain ⟨⟨L, h1, h2⟩, h3, h4⟩ := h
    rcases List.mem_cons.1 hk with rfl | hk
    · exact blk_lt h1
    · exact (h2.lt k (by simpa using hk)).1
def boxR (O : Nat) (l : List Int) : Res where
  fp := [O]
  ok w := w.heap[O]? = some (.cells (bcells l) 24 (0, 0))
  loc w w' hk h := (hk O (by simp)).trans h
  lt w h k hk := by
    rw [List.mem_singleton.1 hk]; exact blk_lt h
def rowR (v : Value) (l : List Int) (gl : Option Nat) : Res where
  fp := gl.toList
  ok w := LeftAt w v l gl
  loc w w' hk h := h.move fun g hg => hk g (by simp [hg])
  lt w h k hk := (h.lt k (by simpa using hk)).1
/-- A box with one value. -/
def cellR (O : Nat) (v : Value) (t : TypeId) : Res where
  fp := [O]
  ok w := w.heap[O]? = some (.cells #[v] t (0, 0))
  loc w w' hk h := (hk O (by simp)).trans h
  lt w h k hk := by
    rw [List.mem_singleton.1 hk]; exact blk_lt h

theorem ReadsB.below {b w : World} {A : Option Addr} {p : List Int} (h : ReadsB b A p) (hb : Below b.heap.size b w) : ReadsB w A p := by
  intro h0
  obtain ⟨ad, e, hr⟩ := h h0
  refine ⟨ad, e, fun j hj => ?_⟩
  have h1 := hr j hj
  rw [← h1]
  have h2 := World.block_lt_of_cell? b _ h1
  exact hb.cell h2
theorem own_reads {b w : World} {rs : List Res} (h : Owns b w rs) {A : Option Addr} {n c : Nat} {l : List Int} {gl : Option Nat} (i : Nat) (hi : rs[i]? = some (rowR (.slice A n c) l gl)) : ReadsB w A l := LeftAt.reads (h.ok i _ hi)

theorem own_new {b w : World} {rs : List Res} (h : Owns b w rs) : Calls Try.prog 24 #[] w fun e w' => ∃ G gl, e = .returned (.pointer (some ⟨G, 0, none⟩)) ∧ Owns b w' (rs ++ [hashR G [] gl]) := by
  refine (new_calls w).mono ?_
  rintro e w' ⟨G, gl, rfl, hG, hH, hgl, hb⟩
  refine ⟨G, gl, rfl, h.add (Keeps.of_below hb _) hH ?_⟩
  intro k hk
  rcases List.mem_cons.1 hk with rfl | hk
  · exact hG
  · rcases hgl with rfl | ⟨j, rfl, hj⟩
    · simp at hk
    · simp at hk; omega
theorem own_clone {b w : World} {rs : List Res} (h : Owns b w rs) (i : Nat) {G : Nat} {m : List Int} {gl : Option Nat} (hi : rs[i]? = some (hashR G m gl)) : Calls Try.prog 27 #[.pointer (some ⟨G, 0, none⟩)] w fun e w' => ∃ G' gl', e = .returned (.pointer (some ⟨G', 0, none⟩)) ∧ Owns b w' (rs ++ [hashR G' m gl']) := by
  refine (clone_calls G m gl w (h.ok i _ hi)).mono ?_
  rintro e w' ⟨G', gl', rfl, hG, hH, hgl, hb⟩
  refine ⟨G', gl', rfl, h.add (Keeps.of_below hb _) hH ?_⟩
  intro k hk
  rcases List.mem_cons.1 hk with rfl | hk
  · exact hG
  · rcases hgl with rfl | ⟨j, rfl, hj⟩
    · simp at hk
    · simp at hk; omega
theorem own_write {b w : World} {rs : List Res} (h : Owns b w rs) (i : Nat) {G : Nat} {m : List Int} {gl : Option Nat} (hi : rs[i]? = some (hashR G m gl)) (p : List Int) (A : Option Addr) (c : Nat) (hp : ReadsB w A p) (hpb : ∀ x ∈ p, 0 ≤ x ∧ x ≤ 255) (hlen : m.length + p.length ≤ 70368744177664) :
    Calls Try.prog 25 #[.pointer (some ⟨G, 0, none⟩), .slice A p.length c] w fun e w' => e = .returned (.tuple #[]) ∧ ∃ gl', Owns b w' (rs.set i (hashR G (m ++ p) gl')) := by
  refine (write_calls G m p gl A c w (h.ok i _ hi) hp hpb hlen).mono ?_
  rintro e w' ⟨rfl, gl', hH, hF, hgl⟩
  refine ⟨rfl, gl', h.put hi (Keeps.of_fr hF) hH ?_⟩
  intro k hk
  rcases List.mem_cons.1 hk with rfl | hk
  · exact .inl (by simp [hashR])
  · rcases hgl with rfl | ⟨j, rfl, hj⟩
    · exact .inl (List.mem_cons_of_mem _ hk)
    · simp at hk; exact .inr (by omega)
theorem own_hsum {b w : World} {rs : List Res} (h : Owns b w rs) (i : Nat) {G : Nat} {m : List Int} {gl : Option Nat} (hi : rs[i]? = some (hashR G m gl)) (hlen : m.length ≤ 70368744177000) :
    Calls Try.prog 26 #[.pointer (some ⟨G, 0, none⟩)] w fun e w' => e = .returned (.agg (bcells (digest m))) ∧ Owns b w' rs := by
  refine (hsum_calls G m gl w (h.ok i _ hi) hlen).mono ?_
  rintro e w' ⟨rfl, hb⟩
  exact ⟨rfl, h.stay (Keeps.of_below hb _)⟩

section
variable {ops : Array Oper} {rest : List Oper} {o : Oper} {a : Act} {Q : Exit → Act → World → Prop} {b w : World} {rs : List Res}
theorem alloc24 (h : Owns b w rs) (hgd : o.guard = none) (ho : o.op = .alloc 24)
    (k : ∀ O w', Owns b w' (rs ++ [boxR O (List.replicate 20 0)]) → wpList Try.prog ops Q rest (a.put o.dst (.pointer (some ⟨O, 0, none⟩))) w') : wpList Try.prog ops Q (o :: rest) a w := by
  have hz := zero24
  refine Kd.event_run (w1 := w.alloc (.cells (bcells (List.replicate 20 0)) 24 (0, 0))) hgd (v := .pointer (some ⟨w.heap.size, 0, none⟩)) ?_ ?_
  · unfold execOp
    simp only [ho]
    go_simp
  · refine k _ _ (h.add (Keeps.of_below (below_alloc (Below.refl _ _) _) _) (blk_new w _) ?_)
    intro j hj
    simp [boxR] at hj
    omega
theorem store24 (h : Owns b w rs) (i : Nat) {O : Nat} {l0 : List Int} (hi : rs[i]? = some (boxR O l0)) (hgd : o.guard = none) (x y : Operand) (ho : o.op = .store 24 x y) (l : List Int) (hx : a.eval x = .pointer (some ⟨O, 0, none⟩)) (hy : a.eval y = .agg (bcells l)) (hl0 : l0.length = 20) (hl : l.length = 20)
    (k : ∀ w', Owns b w' (rs.set i (boxR O l)) → wpList Try.prog ops Q rest (a.put o.dst undef) w') : wpList Try.prog ops Q (o :: rest) a w := by
  have hO : w.heap[O]? = some (.cells (bcells l0) 24 (0, 0)) := h.ok i _ hi
  have hbl : (bytes l).length = 20 := by simp [bytes, hl]
  have hbl0 : (bytes l0).length = 20 := by simp [bytes, hl0]
  refine wpList_store_mid hgd 24 x y ho O 0 (bcells l) hx hy ?_ ?_ ?_ (k _ (h.put hi ?_ ?_ ?_))
  · have := there_of hO
    have e : (bcells l).size = (bytes l0).toArray.size := by simp [bcells, hbl, hbl0]
    rw [e]; exact this
  · rw [size24]; simp [bcells, hbl]
  · refine all_oneCell_toArray (fun v hv => ?_)
    simp only [bytes, List.mem_map] at hv
    obtain ⟨q, _, rfl⟩ := hv
    rfl
  · exact Keeps.of_grown (gl := some O) (grown_setCells _ _ _ (World.grownBy.refl _ _))
  · have := heap_setCells (bytes l) 0 w _ hO
    show (w.setCells O 0 (bcells l).toList).heap[O]? = some (.cells (bcells l) 24 (0, 0))
    rw [show (bcells l).toList = bytes l by simp [bcells], this]
    congr 2
    apply Array.ext
    · rw [putC_size]; simp [bcells, hbl, hbl0]
    · intro j h1 h2
      have h := putC_in (bytes l) (bcells l0) 0 j (by simp [bcells, hbl] at h2; omega) (by rw [putC_size] at h1; omega)
      rw [Nat.zero_add, Array.getElem?_eq_getElem h1] at h
      have h3 : (bytes l)[j]? = some ((bcells l)[j]) := by simp [bcells]
      rw [h3] at h
      exact Option.some.inj h
  · exact fun j hj => .inl hj
theorem load24 (h : Owns b w rs) (i : Nat) {O : Nat} {l : List Int} (hi : rs[i]? = some (boxR O l)) (hgd : o.guard = none) (x : Operand) (ho : o.op = .load 24 x) (hx : a.eval x = .pointer (some ⟨O, 0, none⟩)) (hl : l.length = 20)
    (k : wpList Try.prog ops Q rest (a.put o.dst (.agg (bcells l))) w) : wpList Try.prog ops Q (o :: rest) a w := by
  have hO : w.heap[O]? = some (.cells (bcells l) 24 (0, 0)) := h.ok i _ hi
  refine wpList_load_mid hgd 24 x ho O 0 hx (bytes l) _ (rangeAt_of hO) Try.underlying24 rfl ?_ k
  rw [size24]; simp [bytes, hl]
end
theorem own_loadVar {b w : World} {rs : List Res} (h : Owns b w rs) (i : Nat) {O : Nat} {l : List Int} (hi : rs[i]? = some (boxR O l)) (hl : l.length = 20) : (loadVar 24 ⟨O, 0, none⟩).run Try.prog w = .ok (.agg (bcells l)) w := by
  have hO : w.heap[O]? = some (.cells (bcells l) 24 (0, 0)) := h.ok i _ hi
  exact run_loadVar_mid (P := Try.prog) w O 0 24 (bytes l) _ (rangeAt_of hO) Try.underlying24 rfl (by rw [size24]; simp [bytes, hl])
theorem digest_len (m : List Int) : (digest m).length = 20 := rfl

set_option maxHeartbeats 1000000 in
set_option maxRecDepth 100000 in
theorem sum_calls (p : List Int) (A : Option Addr) (c : Nat) (w : World) (hp : ReadsB w A p) (hpb : ∀ x ∈ p, 0 ≤ x ∧ x ≤ 255) (hlen : p.length ≤ 70368744177000) :
    Calls Try.prog 21 #[.slice A p.length c] w fun e w' => e = .returned (.agg (bcells (digest p))) ∧ Below w.heap.size w w' := by
  have hS := Aside0.mk (Owns.start w)
  have hp' := Aside0.mk hp
  have hpb' := Aside0.mk hpb
  obtain ⟨n, hn⟩ : ∃ n, p.length = n := ⟨_, rfl⟩
  rw [hn]
  have hn' := Aside0.mk hn
  clear hp hpb hn
  go_enter Try.func21, Try.ntmps21
  go_wp2_with (first
    | (refine alloc24 hS.out rfl rfl ?_; intro O w1 h1; have hO1 := Aside0.mk h1; clear h1)
    | (go_at_call 24; refine (own_new hO1.out).mono ?_; rintro e w2 ⟨G, gl, rfl, h2⟩; have hO2 := Aside0.mk h2; clear h2)
    | (go_at_call 25; rw [← hn'.out]; refine (own_write hO2.out 1 rfl p A c (hp'.out.below hO2.out.below) hpb'.out (by simp; omega)).mono ?_; rintro e w3 ⟨rfl, gl3, h3⟩; have hO3 := Aside0.mk h3; clear h3)
    | (go_at_call 26; refine (own_hsum hO3.out 1 rfl (by simp; omega)).mono ?_; rintro e w4 ⟨rfl, h4⟩; have hO4 := Aside0.mk h4; clear h4)
    | (refine store24 hO4.out 0 rfl rfl _ _ rfl _ rfl rfl rfl (digest_len _) ?_; intro w5 h5; have hO5 := Aside0.mk h5; clear h5))
  refine bodyPost_ret (v := .agg (bcells (digest p))) ?_ ?_ ⟨rfl, hO5.out.below⟩
  · have hld := own_loadVar hO5.out 0 rfl (digest_len p)
    simp [results, Try.results21, Act.put, asAddr, hld]
  · simp [Act.put]
theorem own_sum {b w : World} {rs : List Res} (h : Owns b w rs) (p : List Int) (A : Option Addr) (n c : Nat) (hn : p.length = n) (hp : ReadsB w A p) (hpb : ∀ x ∈ p, 0 ≤ x ∧ x ≤ 255) (hlen : n ≤ 70368744177000) :
    Calls Try.prog 21 #[.slice A n c] w fun e w' => e = .returned (.agg (bcells (digest p))) ∧ Owns b w' rs := by
  subst hn
  refine (sum_calls p A c w hp hpb hlen).mono ?_
  rintro e w' ⟨rfl, hb⟩
  exact ⟨rfl, h.stay (Keeps.of_below hb _)⟩
theorem own_put {b w : World} {rs : List Res} (h : Owns b w rs) (i : Nat) {G : Nat} {m : List Int} {gl : Option Nat} (hi : rs[i]? = some (hashR G m gl)) (p : List Int) (A : Option Addr) (n c : Nat) (hn : p.length = n) (hp : ReadsB w A p) (hpb : ∀ x ∈ p, 0 ≤ x ∧ x ≤ 255) (hlen : m.length + n ≤ 70368744177664) :
    Calls Try.prog 25 #[.pointer (some ⟨G, 0, none⟩), .slice A n c] w fun e w' => e = .returned (.tuple #[]) ∧ ∃ gl', Owns b w' (rs.set i (hashR G (m ++ p) gl')) := by
  subst hn
  exact own_write h i hi p A c hp hpb hlen
/-- An empty row that is laid. -/
theorem Owns.empty {b w : World} {rs : List Res} (h : Owns b w rs) : Owns b (w.alloc (.cells #[] 5 (0, 0))) (rs ++ [rowR (.slice (some ⟨w.heap.size, 0, none⟩) 0 0) [] (some w.heap.size)]) := by
  refine h.add (Keeps.of_below (below_alloc (Below.refl _ _) _) _) (left_new (l := []) (blk_new w _)) ?_
  intro k hk
  simp [rowR] at hk
  omega
theorem Owns.none {b w : World} {rs : List Res} (h : Owns b w rs) : Owns b w (rs ++ [rowR (.slice none 0 0) [] none]) :=
  h.add (Keeps.refl _ _) (.inl ⟨rfl, rfl, rfl⟩) (by simp [rowR])
/-- A row that is laid whole. -/
theorem Owns.lit {b w : World} {rs : List Res} (h : Owns b w rs) (l : List Int) : Owns b (w.alloc (.cells (bcells l) 5 (0, 0))) (rs ++ [rowR (.slice (some ⟨w.heap.size, 0, .none⟩) l.length l.length) l (some w.heap.size)]) := by
  refine h.add (Keeps.of_below (below_alloc (Below.refl _ _) _) _) (left_new (blk_new w _)) ?_
  intro k hk
  simp [rowR] at hk
  omega
section
variable {ops : Array Oper} {rest : List Oper} {o : Oper} {a : Act} {Q : Exit → Act → World → Prop} {b w : World} {rs : List Res}
theorem own_append_run (h : Owns b w rs) (i : Nat) {v : Value} {l : List Int} {gl : Option Nat} (hi : rs[i]? = some (rowR v l gl)) {A : Option Addr} {n c : Nat} (p : List Int) (hn : p.length = n) (hp : ReadsB w A p) (hb : l.length + n ≤ 140737488355328) :
    ∃ A' c' N w' gl', (Builtin.append_ #[22, 22] 22 #[v, .slice A n c]).run Try.prog w = .ok (.slice A' N c') w' ∧ (l ++ p).length = N ∧ N ≤ c' ∧ Owns b w' (rs.set i (rowR (.slice A' N c') (l ++ p) gl')) := by
  subst hn
  obtain ⟨v', w', gl', hrun, h1, h2, h3⟩ := run_append_left (h.ok i _ hi) A c hp hb
  obtain ⟨A', c', rfl, hc'⟩ := h1.len
  refine ⟨A', c', _, w', gl', hrun, rfl, hc', h.put hi (Keeps.of_grown h2) h1 ?_⟩
  intro k hk
  rcases h3 with rfl | ⟨j, rfl, hj⟩
  · exact .inl hk
  · simp [rowR] at hk
    exact .inr (by omega)
theorem own_append (h : Owns b w rs) (i : Nat) {v : Value} {l : List Int} {gl : Option Nat} (hi : rs[i]? = some (rowR v l gl)) (hgd : o.guard = none) (s x : Operand) (ho : o.op = .call { callee := .builtin .append, args := #[s, x], argTypes := #[22, 22] }) (hty : o.type = 22)
    (hs : a.eval s = v) {A : Option Addr} {n c : Nat} (hx : a.eval x = .slice A n c) (p : List Int) (hn : p.length = n) (hp : ReadsB w A p) (hb : l.length + n ≤ 140737488355328)
    (k : ∀ A' c' N w' gl', (l ++ p).length = N → N ≤ c' → Owns b w' (rs.set i (rowR (.slice A' N c') (l ++ p) gl')) → wpList Try.prog ops Q rest (a.put o.dst (.slice A' N c')) w') :
    wpList Try.prog ops Q (o :: rest) a w := by
  obtain ⟨A', c', N, w', gl', hrun, h1, h2, h3⟩ := own_append_run h i hi (c := c) p hn hp hb
  refine wpList_plain hgd fun K hK' => ?_
  unfold Oper.wp
  simp [execOp, ho, hty, resolve, invoke, builtin, hs, hx, hrun, Result.andThen]
  exact hK' _ _ (k A' c' N w' gl' h1 h2 h3)
end
end Go.Proofs.Ytijnmoceafcamaa.Sha
