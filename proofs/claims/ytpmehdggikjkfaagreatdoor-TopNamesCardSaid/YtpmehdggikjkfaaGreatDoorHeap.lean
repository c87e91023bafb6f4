/- Model heap and world: the tie, steps, and what loads, stores and new blocks do to them. -/
import Derived.Test.YtpmehdggikjkfaaGreatDoorRel
import Derived.Tactics
namespace Go.Proofs.YtpmehdggikjkfaaGreatDoor.Rf
open Go
def upd (β : Bt) (i : Nat) (x : Nat × Nat) : Bt := fun j => if j = i then some x else β j
theorem upd_self (β : Bt) (i : Nat) (x : Nat × Nat) : upd β i x i = some x := if_pos rfl
theorem upd_ne (β : Bt) {i j : Nat} (x : Nat × Nat) (h : j ≠ i) : upd β i x j = β j := if_neg h
theorem sub_upd {β : Bt} {i : Nat} (x : Nat × Nat) (h : β i = none) : Sub β (upd β i x) := fun j y e => by
  by_cases hj : j = i
  · subst hj; rw [h] at e; cases e
  · rw [upd_ne _ _ hj]; exact e
def objRel (β : Bt) (ng i R : Nat) : MO → Option Obj → Prop
  | .row c g, o => ∃ cs ty fr, o = some (.cells cs ty fr) ∧ (∀ (k : Nat) v, c.find k = some v → ∃ w, cs[k]? = some w ∧ VR β v w) ∧
      (∀ e, g = some e → cs.size = R * e) ∧ (ng ≤ i → fr = (0, 0) ∨ cs.size ≤ fr.1)
  | .map ks, o => ∃ es ck, o = some (.map es ck) ∧ ks.map (·.1) = es.toList.map (·.key) ∧ VRs β (ks.map (·.2)) (es.toList.map (·.val)) ∧ (∀ x ∈ es.toList, x.born < ck) ∧ (es.toList.map (·.born)).Nodup
theorem objRel.mono {β β' : Bt} (hs : Sub β β') {ng i R : Nat} {m : MO} {o : Option Obj} (h : objRel β ng i R m o) : objRel β' ng i R m o := by
  cases m with
  | row c g =>
    obtain ⟨cs, ty, fr, h1, h2, h3, h4⟩ := h
    exact ⟨cs, ty, fr, h1, fun k v hk => let ⟨w, a, b⟩ := h2 k v hk; ⟨w, a, b.mono hs⟩, h3, h4⟩
  | map ks =>
    obtain ⟨es, ck, h1, h2, h3, h4⟩ := h
    exact ⟨es, ck, h1, h2, h3.mono hs, h4⟩
structure WR (ng : Nat) (β : Bt) (s : S) (W : World) : Prop where
  dom : ∀ i x, β i = some x → i < s.n
  live : ∀ i m, s.h.find i = some m → i < s.n
  blk : ∀ i b R, β i = some (b, R) → b < W.heap.size
  rel : ∀ i m b R, s.h.find i = some m → β i = some (b, R) → objRel β ng i R m W.heap[b]?
  inj : ∀ i j m m' b R R', s.h.find i = some m → s.h.find j = some m' → ng ≤ i → i ≠ j → β i = some (b, R) → β j = some (b, R') → False
  glob : ∀ g, g < ng → ∃ R, β g = some (g, R)
  ngn : ng ≤ s.n
def SameIO (W W' : World) : Prop := W'.os = W.os ∧ W'.output = W.output
theorem SameIO.refl (W : World) : SameIO W W := ⟨rfl, rfl⟩
theorem SameIO.trans {W W' W'' : World} (h : SameIO W W') (h' : SameIO W' W'') : SameIO W W'' := ⟨h'.1.trans h.1, h'.2.trans h.2⟩
structure Step (ng : Nat) (β : Bt) (s : S) (W : World) (β' : Bt) (s' : S) (W' : World) : Prop where
  wr : WR ng β' s' W'
  sub : Sub β β'
  old : ∀ i x, i < s.n → β' i = some x → β i = some x
  n_le : s.n ≤ s'.n
  mfr : ∀ i, i < s.n → β i = none → s'.h.find i = s.h.find i
  rfr : ∀ b, b < W.heap.size → (∀ i m R, s.h.find i = some m → ng ≤ i → β i ≠ some (b, R)) → W'.heap[b]? = W.heap[b]?
  fresh : ∀ i m b R, s'.h.find i = some m → ng ≤ i → β' i = some (b, R) → W.heap.size ≤ b ∨ ∃ j m' R', s.h.find j = some m' ∧ ng ≤ j ∧ β j = some (b, R')
  size_le : W.heap.size ≤ W'.heap.size
  io : SameIO W W'
section
variable {ng : Nat} {β β' β'' : Bt} {s s' s'' : S} {W W' W'' : World}
theorem Step.refl (h : WR ng β s W) : Step ng β s W β s W :=
  ⟨h, Sub.refl β, fun _ _ _ h => h, Nat.le_refl _, fun _ _ _ => rfl, fun _ _ _ => rfl, fun i m b R h1 h2 h3 => .inr ⟨i, m, R, h1, h2, h3⟩, Nat.le_refl _, SameIO.refl W⟩
theorem Step.trans (h : Step ng β s W β' s' W') (h' : Step ng β' s' W' β'' s'' W'') : Step ng β s W β'' s'' W'' where
  wr := h'.wr
  sub := h.sub.trans h'.sub
  old i x hi e := h.old i x hi (h'.old i x (Nat.lt_of_lt_of_le hi h.n_le) e)
  n_le := Nat.le_trans h.n_le h'.n_le
  mfr i hi e := by
    have e' : β' i = none := by
      cases hb : β' i with
      | none => rfl
      | some x => rw [h.old i x hi hb] at e; cases e
    rw [h'.mfr i (Nat.lt_of_lt_of_le hi h.n_le) e', h.mfr i hi e]
  rfr b hb hno := by
    rw [h'.rfr b (Nat.lt_of_lt_of_le hb h.size_le) ?_, h.rfr b hb hno]
    intro i m R h1 h2 h3
    rcases h.fresh i m b R h1 h2 h3 with hh | ⟨j, m', R', a1, a2, a3⟩
    · omega
    · exact hno j m' R' a1 a2 a3
  fresh i m b R h1 h2 h3 := by
    rcases h'.fresh i m b R h1 h2 h3 with hh | ⟨j, m', R', a1, a2, a3⟩
    · exact .inl (Nat.le_trans h.size_le hh)
    · exact h.fresh j m' b R' a1 a2 a3
  size_le := Nat.le_trans h.size_le h'.size_le
  io := h.io.trans h'.io
/- the heap alone matters -/
theorem WR.of_heap (h : WR ng β s W) (e : W'.heap = W.heap) : WR ng β s W' :=
  ⟨h.dom, h.live, fun i b R hb => by rw [e]; exact h.blk i b R hb, fun i m b R h1 h2 => by rw [e]; exact h.rel i m b R h1 h2, h.inj, h.glob, h.ngn⟩
theorem Step.of_heap (h : Step ng β s W β' s' W') (e : W''.heap = W'.heap) (eio : SameIO W' W'') : Step ng β s W β' s' W'' :=
  ⟨h.wr.of_heap e, h.sub, h.old, h.n_le, h.mfr, fun b hb hno => by rw [e]; exact h.rfr b hb hno, h.fresh, by rw [e]; exact h.size_le, h.io.trans eio⟩
/- a model block that no block of the world stands for yet -/
theorem newB_find (m : MO) (i : Nat) : (newB s m).h.find i = if i = s.n then some m else s.h.find i := T.find_ins _ _ _ _
theorem WR.none_n (h : WR ng β s W) : β s.n = none := by
  cases hb : β s.n with
  | none => rfl
  | some x => exact absurd (h.dom _ _ hb) (Nat.lt_irrefl _)
theorem Step.malloc (h : WR ng β s W) (m : MO) : Step ng β s W β (newB s m) W where
  wr := {
    dom := fun i x e => Nat.lt_succ_of_lt (h.dom i x e)
    live := fun i m' e => by
      rw [newB_find] at e
      by_cases hi : i = s.n
      · rw [hi]; exact Nat.lt_succ_self _
      · rw [if_neg hi] at e; exact Nat.lt_succ_of_lt (h.live i m' e)
    blk := h.blk
    rel := fun i m' b R e hb => by
      rw [newB_find] at e
      by_cases hi : i = s.n
      · rw [hi, h.none_n] at hb; cases hb
      · rw [if_neg hi] at e; exact h.rel i m' b R e hb
    inj := fun i j m1 m2 b R R' e1 e2 hn hij hb hb' => by
      rw [newB_find] at e1 e2
      by_cases hi : i = s.n
      · rw [hi, h.none_n] at hb; cases hb
      · by_cases hj : j = s.n
        · rw [hj, h.none_n] at hb'; cases hb'
        · rw [if_neg hi] at e1; rw [if_neg hj] at e2; exact h.inj i j m1 m2 b R R' e1 e2 hn hij hb hb'
    glob := h.glob
    ngn := Nat.le_succ_of_le h.ngn }
  sub := Sub.refl β
  old _ _ _ e := e
  n_le := Nat.le_succ _
  mfr i hi _ := by rw [newB_find, if_neg (by omega)]
  rfr _ _ _ := rfl
  fresh i m' b R e hn hb := by
    rw [newB_find] at e
    by_cases hi : i = s.n
    · rw [hi, h.none_n] at hb; cases hb
    · rw [if_neg hi] at e; exact .inr ⟨i, m', R, e, hn, hb⟩
  size_le := Nat.le_refl _
  io := SameIO.refl W
/- .. and now does -/
theorem Step.ralloc (h : Step ng β s W β' s' W') {id R : Nat} {m : MO} {o : Obj} (hid : s.n ≤ id) (hl : s'.h.find id = some m) (hn : β' id = none)
    (hr : objRel (upd β' id (W'.heap.size, R)) ng id R m (some o)) (hw : W''.heap = W'.heap.push o) (hio : SameIO W' W'') : Step ng β s W (upd β' id (W'.heap.size, R)) s' W'' := by
  have hsub := sub_upd (W'.heap.size, R) hn
  have w := h.wr
  have hng : ng ≤ id := by
    rcases Nat.lt_or_ge id ng with hlt | hge
    · obtain ⟨R', e⟩ := w.glob id hlt; rw [hn] at e; cases e
    · exact hge
  refine ⟨⟨?_, w.live, ?_, ?_, ?_, ?_, w.ngn⟩, h.sub.trans hsub, ?_, h.n_le, h.mfr, ?_, ?_, ?_, h.io.trans hio⟩
  · intro i x e
    by_cases hi : i = id
    · rw [hi]; exact w.live _ _ hl
    · rw [upd_ne _ _ hi] at e; exact w.dom i x e
  · intro i b R' e
    rw [hw, Array.size_push]
    by_cases hi : i = id
    · rw [hi, upd_self] at e; cases e; omega
    · rw [upd_ne _ _ hi] at e; exact Nat.lt_succ_of_lt (w.blk i b R' e)
  · intro i m' b R' e hb
    by_cases hi : i = id
    · subst hi
      rw [upd_self] at hb; cases hb
      rw [hl] at e; cases e
      rw [hw, Array.getElem?_push_size]; exact hr
    · rw [upd_ne _ _ hi] at hb
      have hlt := w.blk i b R' hb
      rw [hw, Array.getElem?_push_lt hlt, ← Array.getElem?_eq_getElem hlt]
      exact (w.rel i m' b R' e hb).mono hsub
  · intro i j m1 m2 b R1 R2 e1 e2 hni hij hb1 hb2
    by_cases hi : i = id
    · rw [hi, upd_self] at hb1; cases hb1
      rw [upd_ne _ _ (by omega)] at hb2
      exact absurd (w.blk j _ R2 hb2) (Nat.lt_irrefl _)
    · rw [upd_ne _ _ hi] at hb1
      by_cases hj : j = id
      · rw [hj, upd_self] at hb2; cases hb2
        exact absurd (w.blk i _ R1 hb1) (Nat.lt_irrefl _)
      · rw [upd_ne _ _ hj] at hb2
        exact w.inj i j m1 m2 b R1 R2 e1 e2 hni hij hb1 hb2
  · intro g hg
    rw [upd_ne _ _ (by omega)]; exact w.glob g hg
  · intro i x hi e
    rw [upd_ne _ _ (by omega)] at e; exact h.old i x hi e
  · intro b hb hno
    rw [hw, Array.getElem?_push_lt (Nat.lt_of_lt_of_le hb h.size_le), ← Array.getElem?_eq_getElem (Nat.lt_of_lt_of_le hb h.size_le)]
    exact h.rfr b hb hno
  · intro i m' b R' e hni hb
    by_cases hi : i = id
    · rw [hi, upd_self] at hb; cases hb; exact .inl h.size_le
    · rw [upd_ne _ _ hi] at hb; exact h.fresh i m' b R' e hni hb
  · rw [hw, Array.size_push]; exact Nat.le_succ_of_le h.size_le
theorem Step.alloc (h : WR ng β s W) {R : Nat} {m : MO} {o : Obj} (hr : objRel (upd β s.n (W.heap.size, R)) ng s.n R m (some o)) (hw : W'.heap = W.heap.push o) (hio : SameIO W W') :
    Step ng β s W (upd β s.n (W.heap.size, R)) (newB s m) W' :=
  (Step.malloc h m).ralloc (id := s.n) (Nat.le_refl _) (by rw [newB_find, if_pos rfl]) h.none_n hr hw hio
end
/-! ### loads and stores -/
theorem add_mk (b o k : Nat) : (⟨b, o, none⟩ : Addr).add k = ⟨b, o + k, none⟩ := by
  unfold Addr.add
  split
  · rename_i h; subst h; rfl
  · rfl
section
variable {P : Program} {W : World} {b : Nat} {cs : Array Value} {ty : TypeId} {fr : Nat × Nat}
theorem cell_at (h : W.heap[b]? = some (.cells cs ty fr)) (k : Nat) : W.cell? ⟨b, k, none⟩ = cs[k]? := by
  simp [World.cell?, h]
theorem frozen_at (h : W.heap[b]? = some (.cells cs ty fr)) (hf : fr = (0, 0) ∨ cs.size ≤ fr.1) {k : Nat} (hk : k < cs.size) : W.frozen? ⟨b, k, none⟩ = false := by
  obtain ⟨lo, hi⟩ := fr
  simp only [World.frozen?, h]
  rcases hf with hf | hf
  · cases hf; simp
  · simp only at hf
    simp only [Bool.and_eq_false_iff, decide_eq_false_iff_not]
    exact .inl (by omega)
theorem run_loadFrom (h : W.heap[b]? = some (.cells cs ty fr)) (o : Nat) : ∀ (n i : Nat) (acc : Array Value) (ws : List Value), ws.length = n → (∀ j, j < n → cs[o + i + j]? = ws[j]?) →
    (loadCellsFrom ⟨b, o, none⟩ i n acc).run P W = .ok (acc ++ ws.toArray) W := by
  intro n
  induction n with
  | zero =>
    intro i acc ws hl _
    rw [List.length_eq_zero_iff] at hl
    subst hl
    simp [loadCellsFrom]
  | succ n ih =>
    intro i acc ws hl hw
    cases ws with
    | nil => simp at hl
    | cons w ws =>
      have h0 := hw 0 (by omega)
      simp only [Nat.add_zero, List.getElem?_cons_zero] at h0
      simp only [loadCellsFrom, Sem.run_bind, run_load, add_mk, cell_at h, h0, Result.andThen_ok]
      rw [ih (i + 1) (acc.push w) ws (by simpa using hl) ?_]
      · simp
      · intro j hj
        have := hw (j + 1) (by omega)
        rw [List.getElem?_cons_succ] at this
        rw [← this]
        congr 1; omega
theorem run_loadN (h : W.heap[b]? = some (.cells cs ty fr)) (o n : Nat) (ws : List Value) (hl : ws.length = n) (hw : ∀ j, j < n → cs[o + j]? = ws[j]?) :
    (loadCells ⟨b, o, none⟩ n).run P W = .ok ws.toArray W := by
  rw [loadCells, run_loadFrom h o n 0 #[] ws hl (fun j hj => by rw [Nat.add_zero]; exact hw j hj)]
  simp
theorem one_oneCell {v : Value} (h : one v = true) : v.oneCell' = true := by cases v <;> first | rfl | cases h
theorem setCell_at (h : W.heap[b]? = some (.cells cs ty fr)) (k : Nat) (v : Value) : (W.setCell ⟨b, k, none⟩ v).heap[b]? = some (.cells (cs.setIfInBounds k v) ty fr) := by
  simp [World.setCell, Array.getElem?_modify, h]
theorem setCell_ne {b' : Nat} (hb : b' ≠ b) (k : Nat) (v : Value) : (W.setCell ⟨b, k, none⟩ v).heap[b']? = W.heap[b']? := by
  simp [World.setCell, Array.getElem?_modify, Ne.symm hb]
theorem setCell_size (k : Nat) (v : Value) : (W.setCell ⟨b, k, none⟩ v).heap.size = W.heap.size := by
  simp [World.setCell]
end
theorem run_storeN {P : Program} {b : Nat} {ty : TypeId} {fr : Nat × Nat} (o : Nat) : ∀ (l : List Value) (i : Nat) (W : World) (cs : Array Value), W.heap[b]? = some (.cells cs ty fr) →
    (fr = (0, 0) ∨ cs.size ≤ fr.1) → (∀ v ∈ l, one v = true) → (∀ j, j < l.length → o + i + j < cs.size) →
    ∃ W' cs', (storeCells ⟨b, o, none⟩ l i).run P W = .ok () W' ∧ W'.heap[b]? = some (.cells cs' ty fr) ∧ cs'.size = cs.size ∧
      (∀ k, cs'[k]? = if o + i ≤ k ∧ k < o + i + l.length then l[k - (o + i)]? else cs[k]?) ∧ (∀ b', b' ≠ b → W'.heap[b']? = W.heap[b']?) ∧ W'.heap.size = W.heap.size ∧ SameIO W W' := by
  intro l
  induction l with
  | nil =>
    intro i W cs h _ _ _
    exact ⟨W, cs, by simp [storeCells], h, rfl, fun k => by rw [if_neg (by simp only [List.length_nil]; omega)], fun _ _ => rfl, rfl, SameIO.refl W⟩
  | cons v l ih =>
    intro i W cs h hf ho hin
    have h0 : o + i < cs.size := by simpa using hin 0 (by simp)
    have hv := ho v (by simp)
    have hc : W.cell? ⟨b, o + i, none⟩ = some cs[o + i] := by rw [cell_at h]; exact Array.getElem?_eq_getElem h0
    obtain ⟨W', cs', h1, h2, h3, h4, h5, h6, h7⟩ := ih (i + 1) (W.setCell ⟨b, o + i, none⟩ v) (cs.setIfInBounds (o + i) v) (setCell_at h _ _) (by simpa using hf) (fun u hu => ho u (by simp [hu]))
      (fun j hj => by have := hin (j + 1) (by simpa using hj); simp only [Array.size_setIfInBounds]; omega)
    refine ⟨W', cs', ?_, h2, by simpa using h3, ?_, fun b' hb => by rw [h5 b' hb, setCell_ne hb], by rw [h6, setCell_size], SameIO.trans ⟨rfl, rfl⟩ h7⟩
    · simp only [storeCells, Sem.run_bind, add_mk]
      rw [run_store P W _ v .plain (one_oneCell hv), hc]
      simp only [frozen_at h hf h0, Bool.false_eq_true, if_false, Result.andThen_ok]
      exact h1
    · intro k
      rw [h4 k]
      simp only [List.length_cons]
      by_cases hk : o + (i + 1) ≤ k ∧ k < o + (i + 1) + l.length
      · rw [if_pos hk, if_pos (by omega)]
        have : k - (o + i) = (k - (o + (i + 1))) + 1 := by omega
        rw [this, List.getElem?_cons_succ]
      · rw [if_neg hk]
        by_cases hk0 : k = o + i
        · subst hk0
          rw [if_pos (by omega)]
          simp [h0]
        · rw [if_neg (by omega), Array.getElem?_setIfInBounds_ne (by omega)]
theorem getN_spec : ∀ (n i : Nat) (t : T Value) (l : List Value), getN t i n = some l → l.length = n ∧ ∀ j, j < n → t.find (i + j) = l[j]? ∧ (l[j]?).isSome := by
  intro n
  induction n with
  | zero =>
    intro i t l h
    cases h
    exact ⟨rfl, fun j hj => by omega⟩
  | succ n ih =>
    intro i t l h
    simp only [getN] at h
    split at h
    · rename_i v hv
      split at h
      · rename_i r hr
        cases h
        obtain ⟨h1, h2⟩ := ih (i + 1) t r hr
        refine ⟨by simp [h1], fun j hj => ?_⟩
        cases j with
        | zero => simp [hv]
        | succ j =>
          have := h2 j (by omega)
          rw [List.getElem?_cons_succ, show i + (j + 1) = i + 1 + j by omega]
          exact this
      · cases h
    · cases h
theorem find_setN : ∀ (l : List Value) (t : T Value) (i m : Nat), (setN t i l).find m = if i ≤ m ∧ m < i + l.length then l[m - i]? else t.find m := by
  intro l
  induction l with
  | nil => intro t i m; rw [if_neg (by simp only [List.length_nil]; omega)]; rfl
  | cons x r ih =>
    intro t i m
    show (setN (t.ins i (some x)) (i + 1) r).find m = _
    rw [ih]
    simp only [List.length_cons]
    by_cases h : i + 1 ≤ m ∧ m < i + 1 + r.length
    · rw [if_pos h, if_pos (by omega), show m - i = (m - (i + 1)) + 1 by omega, List.getElem?_cons_succ]
    · rw [if_neg h]
      by_cases e : m = i
      · subst e
        rw [T.find_ins_self, if_pos (by omega)]
        simp
      · rw [T.find_ins_ne _ _ e, if_neg (by omega)]
theorem has_spec : ∀ (l : List Value) (t : T Value) (i : Nat), has t i l = true → ∀ j, j < l.length → ∃ v, t.find (i + j) = some v := by
  intro l
  induction l with
  | nil => intro t i _ j hj; simp at hj
  | cons x r ih =>
    intro t i h j hj
    simp only [has] at h
    split at h
    · rename_i v hv
      cases j with
      | zero => exact ⟨v, hv⟩
      | succ j =>
        obtain ⟨w, hw⟩ := ih t (i + 1) h j (by simpa using hj)
        exact ⟨w, by rw [← hw]; congr 1; omega⟩
    · cases h
theorem ones_spec : ∀ (l : List Value), ones l = true → ∀ v ∈ l, one v = true := by
  intro l
  induction l with
  | nil => intro _ v hv; simp at hv
  | cons x r ih =>
    intro h v hv
    simp only [ones] at h
    split at h
    · rename_i hx
      rcases List.mem_cons.1 hv with rfl | hv
      · exact hx
      · exact ih h v hv
    · cases h
theorem VR.one {β : Bt} {v w : Value} (h : VR β v w) (ho : one v = true) : one w = true := by
  cases h <;> first | rfl | cases ho
theorem VRs.ones {β : Bt} : ∀ {a b : List Value}, VRs β a b → (∀ v ∈ a, one v = true) → ∀ w ∈ b, one w = true
  | _, _, .nil, _, w, hw => by simp at hw
  | _, _, .cons h r, ho, w, hw => by
    rcases List.mem_cons.1 hw with rfl | hw
    · exact h.one (ho _ (by simp))
    · exact r.ones (fun v hv => ho v (by simp [hv])) w hw
section
variable {ng : Nat} {β : Bt} {s s' : S} {W : World} {P : Program}
/- a list of cells that the model knows stands in the world -/
theorem cells_of_get {cs : Array Value} {c : T Value} (hc : ∀ (k : Nat) v, c.find k = some v → ∃ w, cs[k]? = some w ∧ VR β v w) :
    ∀ (n o : Nat) (l : List Value), getN c o n = some l → ∃ ws, VRs β l ws ∧ ws.length = n ∧ ∀ j, j < n → cs[o + j]? = ws[j]? := by
  intro n
  induction n with
  | zero => intro o l h; cases h; exact ⟨[], .nil, rfl, fun j hj => by omega⟩
  | succ n ih =>
    intro o l h
    simp only [getN] at h
    split at h
    · rename_i v hv
      split at h
      · rename_i r hr
        cases h
        obtain ⟨w, hw1, hw2⟩ := hc o v hv
        obtain ⟨ws, h1, h2, h3⟩ := ih (o + 1) r hr
        refine ⟨w :: ws, .cons hw2 h1, by simp [h2], fun j hj => ?_⟩
        cases j with
        | zero => simpa using hw1
        | succ j => rw [List.getElem?_cons_succ, ← h3 j (by omega)]; congr 1; omega
      · cases h
    · cases h
theorem load_run (h : WR ng β s W) {i b R o n : Nat} {l : List Value} (hb : β i = some (b, R)) {sp : Option Nat} (hl : loadN s ⟨i, o, sp⟩ n = some l) :
    ∃ ws, VRs β l ws ∧ ws.length = n ∧ ∀ W1 : World, W1.heap = W.heap → (loadCells ⟨b, o, none⟩ n).run P W1 = .ok ws.toArray W1 := by
  simp only [loadN] at hl
  split at hl
  · rename_i c g hf
    obtain ⟨cs, ty, fr, h1, h2, _, _⟩ := h.rel i _ b R hf hb
    obtain ⟨ws, a1, a2, a3⟩ := cells_of_get h2 n o l hl
    exact ⟨ws, a1, a2, fun W1 he => run_loadN (by rw [he]; exact h1) o n ws a2 a3⟩
  · cases hl
theorem load_one (h : WR ng β s W) {i b R o : Nat} {v : Value} (hb : β i = some (b, R)) {sp : Option Nat} (hl : loadN s ⟨i, o, sp⟩ 1 = some [v]) :
    ∃ w, VR β v w ∧ (load ⟨b, o, none⟩).run P W = .ok w W := by
  simp only [loadN] at hl
  split at hl
  · rename_i c g hf
    obtain ⟨cs, ty, fr, h1, h2, _, _⟩ := h.rel i _ b R hf hb
    obtain ⟨ws, a1, a2, a3⟩ := cells_of_get h2 1 o [v] hl
    cases a1 with
    | cons hv hr =>
      cases hr
      refine ⟨_, hv, ?_⟩
      have := a3 0 (by omega)
      simp only [Nat.add_zero, List.getElem?_cons_zero] at this
      simp [run_load, cell_at h1, this]
  · cases hl
theorem store_run {E : Env} (hE : E.ng = ng) (h : WR ng β s W) {i b R o : Nat} {l ws : List Value} (hb : β i = some (b, R)) (hw : VRs β l ws) (hs : storeN E s i o l = some s') :
    ∃ W', (storeCells ⟨b, o, none⟩ ws).run P W = .ok () W' ∧ Step ng β s W β s' W' ∧ ∃ m m', s.h.find i = some m ∧ s' = { s with h := s.h.ins i (some m') } := by
  simp only [storeN] at hs
  split at hs
  case h_2 => cases hs
  rename_i hng
  split at hs
  case h_2 => cases hs
  rename_i c g hf
  split at hs
  case h_2 => cases hs
  rename_i hhas
  split at hs
  case h_2 => cases hs
  rename_i hones
  cases hs
  have hng' : ng ≤ i := by rw [hE] at hng; exact Nat.le_of_ble_eq_true hng
  obtain ⟨cs, ty, fr, h1, h2, h3, h4⟩ := h.rel i _ b R hf hb
  have hlen := hw.length
  have hin : ∀ j, j < ws.length → o + 0 + j < cs.size := fun j hj => by
    obtain ⟨v, hv⟩ := has_spec l c o hhas j (by omega)
    obtain ⟨w, hw', _⟩ := h2 _ v hv
    have := (Array.getElem?_eq_some_iff.1 hw').1
    omega
  obtain ⟨W', cs', r1, r2, r3, r4, r5, r6, r7⟩ := run_storeN (P := P) o ws 0 W cs h1 (h4 hng') (hw.ones (ones_spec l hones)) hin
  have hblk := h.blk i b R hb
  refine ⟨W', r1, ?_, _, _, hf, rfl⟩
  have hfind : ∀ k, ({ s with h := s.h.ins i (some (.row (setN c o l) g)) } : S).h.find k = if k = i then some (.row (setN c o l) g) else s.h.find k := fun k => T.find_ins _ _ _ _
  refine ⟨⟨h.dom, ?_, ?_, ?_, ?_, h.glob, h.ngn⟩, Sub.refl β, fun _ _ _ e => e, Nat.le_refl _, ?_, ?_, ?_, by rw [r6]; exact Nat.le_refl _, r7⟩
  · intro k m e
    rw [hfind] at e
    by_cases hk : k = i
    · rw [hk]; exact h.live i _ hf
    · rw [if_neg hk] at e; exact h.live k m e
  · intro k b' R' e; rw [r6]; exact h.blk k b' R' e
  · intro k m b' R' e hb'
    rw [hfind] at e
    by_cases hk : k = i
    · subst hk
      rw [if_pos rfl] at e; cases e
      rw [hb] at hb'; cases hb'
      refine ⟨cs', ty, fr, r2, ?_, fun e he => by rw [r3]; exact h3 e he, fun hn => by rw [r3]; exact h4 hn⟩
      intro q v hq
      rw [find_setN] at hq
      rw [r4 q]
      by_cases hqq : o ≤ q ∧ q < o + l.length
      · rw [if_pos hqq] at hq
        rw [if_pos (by omega)]
        simpa using hw.get (q - o) v hq
      · rw [if_neg hqq] at hq
        rw [if_neg (by omega)]
        exact h2 q v hq
    · rw [if_neg hk] at e
      by_cases hbb : b' = b
      · subst hbb
        exact (h.inj i k _ m b' R R' hf e hng' (Ne.symm hk) hb hb').elim
      · rw [r5 b' hbb]; exact h.rel k m b' R' e hb'
  · intro k j m1 m2 b' R1 R2 e1 e2 hn hkj hb1 hb2
    rw [hfind] at e1 e2
    have e1' : ∃ m, s.h.find k = some m := by
      by_cases hk : k = i
      · subst hk; exact ⟨_, hf⟩
      · rw [if_neg hk] at e1; exact ⟨_, e1⟩
    have e2' : ∃ m, s.h.find j = some m := by
      by_cases hk : j = i
      · subst hk; exact ⟨_, hf⟩
      · rw [if_neg hk] at e2; exact ⟨_, e2⟩
    obtain ⟨x, hx⟩ := e1'
    obtain ⟨y, hy⟩ := e2'
    exact h.inj k j x y b' R1 R2 hx hy hn hkj hb1 hb2
  · intro k hk hn
    rw [hfind, if_neg]
    rintro rfl
    rw [hb] at hn; cases hn
  · intro b' hb' hno
    have hbb : b' ≠ b := fun e => hno i _ R hf hng' (e ▸ hb)
    exact r5 b' hbb
  · intro k m b' R' e hn hb'
    rw [hfind] at e
    by_cases hk : k = i
    · subst hk; exact .inr ⟨k, _, R', hf, hn, hb'⟩
    · rw [if_neg hk] at e; exact .inr ⟨k, m, R', e, hn, hb'⟩
end
end Go.Proofs.YtpmehdggikjkfaaGreatDoor.Rf
