/- Operations that change what stands. -/
import Derived.Test.YtpmehdggikjkfaaGreatDoorOpK
namespace Go.Proofs.YtpmehdggikjkfaaGreatDoor.Rf
open Go
section
variable {P : Program} {E : Env} {W W' : World} {β : Bt} {s s' : S} {tm : TM} {ρ : Operand → Value}
def EffOut (ng : Nat) (β : Bt) (s : S) (W : World) (r : Result Next) (v : Value) (s' : S) : Prop :=
  ∃ nx v' β' W', r = .ok nx W' ∧ (nx = .value v' ∨ (nx = .skip ∧ v' = undef)) ∧ VR β' v v' ∧ Step ng β s W β' s' W'
theorem lenOf_run {x x' : Value} {n : Nat} (hx : VR β x x') (h : lenV x = some n) : (Builtin.lenOf x').run P W = .ok n W := by
  unfold lenV at h
  split at h
  · cases hx <;> cases h <;> rfl
  · cases hx; cases h; simp only [Builtin.lenOf, Sem.run_pure]; rw [size_data]
  · cases h
theorem firstX_run (hw : WR E.ng β s W) {sz n : Nat} {x x' : Value} {l : List Value} (hx : VR β x x') (hn : ∀ a k c, x = .slice a k c → n ≤ k) (h : firstX s sz n x = some l) :
    ∃ ws, VRs β l ws ∧ ∀ W1 : World, W1.heap = W.heap → (Builtin.firstCells sz n x').run P W1 = .ok ws.toArray W1 := by
  unfold firstX at h
  split at h
  · rename_i a k c
    cases hx with
    | @sl i0 b R o o' _ _ c' hb hs =>
    have hnk := hn _ _ _ rfl
    rcases hs.eta with h0 | h0
    · have : n = 0 := by omega
      subst this
      simp only [loadN, Nat.zero_mul] at h
      split at h
      · cases h
        exact ⟨[], .nil, fun W1 _ => by simp [Builtin.firstCells, loadCells, loadCellsFrom]⟩
      · cases h
    · subst h0
      obtain ⟨ws, h1, _, h3⟩ := load_run (P := P) hw hb h
      exact ⟨ws, h1, fun W1 he => by simpa [Builtin.firstCells] using h3 W1 he⟩
  · cases hx; cases h
    exact ⟨[], .nil, fun W1 _ => by simp [Builtin.firstCells]⟩
  · cases hx; cases h
    rename_i b
    refine ⟨(b.data.toList.take n).map byteV, ?_, fun W1 _ => ?_⟩
    · rw [bytesL_eq]; exact VRs.plain (by rw [List.all_eq_true]; intro v hv; obtain ⟨c, _, rfl⟩ := List.mem_map.1 hv; rfl)
    · simp only [Builtin.firstCells, Sem.run_pure]
      congr 1
      apply Array.ext'
      simp [ByteArray.data_extract, List.map_take]
      rfl
  · cases h
/- a model block dies -/
theorem kill_step (h : WR E.ng β s W) (i : Nat) {b R : Nat} (hb : β i = some (b, R)) : Step E.ng β s W β { s with h := s.h.ins i none } W := by
  have hfind : ∀ k, ({ s with h := s.h.ins i none } : S).h.find k = if k = i then none else s.h.find k := fun k => T.find_ins _ _ _ _
  have hf : ∀ {k m}, ({ s with h := s.h.ins i none } : S).h.find k = some m → s.h.find k = some m := fun {k m} e => by
    rw [hfind] at e
    by_cases hk : k = i
    · rw [if_pos hk] at e; cases e
    · rwa [if_neg hk] at e
  refine ⟨⟨h.dom, fun k m e => h.live k m (hf e), h.blk, fun k m b' R' e hb' => h.rel k m b' R' (hf e) hb', fun k j m1 m2 b' R1 R2 e1 e2 => h.inj k j m1 m2 b' R1 R2 (hf e1) (hf e2), h.glob, h.ngn⟩, Sub.refl β, fun _ _ _ e => e, Nat.le_refl _, ?_, fun _ _ _ => rfl, fun k m b' R' e hn hb' => .inr ⟨k, m, R', hf e, hn, hb'⟩, Nat.le_refl _, SameIO.refl W⟩
  intro k hk hn
  rw [hfind, if_neg]
  rintro rfl
  rw [hb] at hn; cases hn
/- a block of the world changes hands: the model block that stood for it dies, a new one stands for it -/
theorem swap_step (h : WR E.ng β s W) {i b R : Nat} {m0 m : MO} {W' : World} (hi : s.h.find i = some m0) (hng : E.ng ≤ i) (hb : β i = some (b, R))
    (hr : objRel (upd β s.n (b, R)) E.ng s.n R m W'.heap[b]?) (ho : ∀ b', b' ≠ b → W'.heap[b']? = W.heap[b']?) (hs : W'.heap.size = W.heap.size) (hio : SameIO W W') :
    Step E.ng β s W (upd β s.n (b, R)) { h := (s.h.ins i none).ins s.n (some m), n := s.n + 1 } W' := by
  have hne : i ≠ s.n := fun e => absurd (h.live i _ hi) (by omega)
  have hsub := sub_upd (b, R) h.none_n
  have hfind : ∀ k, ({ h := (s.h.ins i none).ins s.n (some m), n := s.n + 1 } : S).h.find k = if k = s.n then some m else if k = i then none else s.h.find k := fun k => by
    show ((s.h.ins i none).ins s.n (some m)).find k = _
    rw [T.find_ins, T.find_ins]
  have hf : ∀ {k mm}, ({ h := (s.h.ins i none).ins s.n (some m), n := s.n + 1 } : S).h.find k = some mm → k ≠ s.n → k ≠ i ∧ s.h.find k = some mm := fun {k mm} e hk => by
    rw [hfind, if_neg hk] at e
    by_cases hki : k = i
    · rw [if_pos hki] at e; cases e
    · rw [if_neg hki] at e; exact ⟨hki, e⟩
  have hblk := h.blk i b R hb
  refine ⟨⟨?_, ?_, ?_, ?_, ?_, ?_, Nat.le_succ_of_le h.ngn⟩, hsub, ?_, Nat.le_succ _, ?_, ?_, ?_, by rw [hs]; exact Nat.le_refl _, hio⟩
  · intro k x e
    by_cases hk : k = s.n
    · rw [hk]; exact Nat.lt_succ_self _
    · rw [upd_ne _ _ hk] at e; exact Nat.lt_succ_of_lt (h.dom k x e)
  · intro k mm e
    by_cases hk : k = s.n
    · rw [hk]; exact Nat.lt_succ_self _
    · exact Nat.lt_succ_of_lt (h.live k mm (hf e hk).2)
  · intro k b' R' e
    rw [hs]
    by_cases hk : k = s.n
    · rw [hk, upd_self] at e; cases e; exact hblk
    · rw [upd_ne _ _ hk] at e; exact h.blk k b' R' e
  · intro k mm b' R' e hb'
    by_cases hk : k = s.n
    · subst hk
      rw [upd_self] at hb'; cases hb'
      rw [hfind, if_pos rfl] at e; cases e
      exact hr
    · obtain ⟨h1, h2⟩ := hf e hk
      rw [upd_ne _ _ hk] at hb'
      have hbb : b' ≠ b := fun e' => by subst e'; exact h.inj i k _ _ b' R R' hi h2 hng (Ne.symm h1) hb hb'
      rw [ho b' hbb]
      exact (h.rel k mm b' R' h2 hb').mono hsub
  · intro k j m1 m2 b' R1 R2 e1 e2 hn hkj hb1 hb2
    by_cases hk : k = s.n
    · subst hk
      rw [upd_self] at hb1; cases hb1
      obtain ⟨h1, h2⟩ := hf e2 (Ne.symm hkj)
      rw [upd_ne _ _ (Ne.symm hkj)] at hb2
      exact h.inj i j _ _ b R R2 hi h2 hng (Ne.symm h1) hb hb2
    · obtain ⟨h1, h2⟩ := hf e1 hk
      rw [upd_ne _ _ hk] at hb1
      by_cases hj : j = s.n
      · subst hj
        rw [upd_self] at hb2; cases hb2
        exact h.inj i k _ _ b R R1 hi h2 hng (Ne.symm h1) hb hb1
      · obtain ⟨h3, h4⟩ := hf e2 hj
        rw [upd_ne _ _ hj] at hb2
        exact h.inj k j _ _ b' R1 R2 h2 h4 hn hkj hb1 hb2
  · intro g hg
    rw [upd_ne _ _ (by have := h.ngn; omega)]; exact h.glob g hg
  · intro k x hk e
    rw [upd_ne _ _ (by omega)] at e; exact e
  · intro k hk hn
    rw [hfind, if_neg (by omega), if_neg]
    rintro rfl
    rw [hb] at hn; cases hn
  · intro b' _ hno
    exact ho b' (fun e => hno i _ R hi hng (e ▸ hb))
  · intro k mm b' R' e hn hb'
    by_cases hk : k = s.n
    · subst hk
      rw [upd_self] at hb'; cases hb'
      exact .inr ⟨i, _, R, hi, hng, hb⟩
    · obtain ⟨_, h2⟩ := hf e hk
      rw [upd_ne _ _ hk] at hb'
      exact .inr ⟨k, _, R', h2, hn, hb'⟩
end
end Go.Proofs.YtpmehdggikjkfaaGreatDoor.Rf
