/- Answers that are known: what a call gives in a small heap it gives in a greater one. -/
import Derived.Test.YtpmehdggikjkfaaGreatDoorFns
namespace Go.Proofs.YtpmehdggikjkfaaGreatDoor.Rf
open Go
section
variable {ng : Nat} {β β' : Bt} {s s' s0 s0' : S} {W W' : World}
theorem lift_wr (h : WR ng β s W) (hn : s0.n = s.n) (hsub : ∀ i m, s0.h.find i = some m → s.h.find i = some m) : WR ng β s0 W where
  dom i x e := by rw [hn]; exact h.dom i x e
  live i m e := by rw [hn]; exact h.live i m (hsub i m e)
  blk := h.blk
  rel i m b R e := h.rel i m b R (hsub i m e)
  inj i j m m' b R R' e e' := h.inj i j m m' b R R' (hsub i m e) (hsub j m' e')
  glob := h.glob
  ngn := by rw [hn]; exact h.ngn
theorem lift_step (h : WR ng β s W) (hn : s0.n = s.n) (hsub : ∀ i m, s0.h.find i = some m → s.h.find i = some m) (hst : Step ng β s0 W β' s0' W') (hn' : s'.n = s0'.n)
    (hin : ∀ i m, s0.h.find i = some m → s'.h.find i = s0'.h.find i) (hnew : ∀ i, s.n ≤ i → s'.h.find i = s0'.h.find i ∨ s'.h.find i = none) (hout : ∀ i, i < s.n → s0.h.find i = none → s'.h.find i = s.h.find i) : Step ng β s W β' s' W' := by
  -- one that stood outside stands there still
  have out : ∀ i m, s'.h.find i = some m → (s0'.h.find i = some m ∧ ((∃ m0, s0.h.find i = some m0) ∨ s.n ≤ i)) ∨ (i < s.n ∧ s0.h.find i = none ∧ s.h.find i = some m) := fun i m e => by
    rcases Nat.lt_or_ge i s.n with hi | hi
    · cases hq : s0.h.find i with
      | none => exact .inr ⟨hi, rfl, by rw [← hout i hi hq]; exact e⟩
      | some m0 => exact .inl ⟨by rw [← hin i m0 hq]; exact e, .inl ⟨m0, rfl⟩⟩
    · rcases hnew i hi with h1 | h1
      · exact .inl ⟨by rw [← h1]; exact e, .inr hi⟩
      · rw [h1] at e; cases e
  have oldb : ∀ i m x, s.h.find i = some m → β' i = some x → β i = some x := fun i m x e hb => hst.old i x (by rw [hn]; exact h.live i m e) hb
  have apart : ∀ i m j m1 b R R', i < s.n → s0.h.find i = none → s.h.find i = some m → s0'.h.find j = some m1 → ((∃ m0, s0.h.find j = some m0) ∨ s.n ≤ j) → (ng ≤ i ∨ ng ≤ j) → β' i = some (b, R) → β' j = some (b, R') → False := by
    intro i m j m1 b R R' hin' hi0 hi hj1 hj0 hng hbi hbj
    have hbi' := oldb i m _ hi hbi
    have hij : i ≠ j := fun e => by
      rcases hj0 with ⟨m0, hj0⟩ | hj0
      · rw [e, hj0] at hi0; cases hi0
      · omega
    rcases Nat.lt_or_ge j ng with hjn | hjn
    · -- a global one
      rcases hj0 with ⟨m0, hj0⟩ | hj0
      · have hj := hsub j m0 hj0
        have hbj' := oldb j m0 _ hj hbj
        exact h.inj i j m m0 b R R' hi hj (hng.elim id fun h => absurd h (by omega)) hij hbi' hbj'
      · have := h.ngn; omega
    · rcases hst.fresh j m1 b R' hj1 hjn hbj with hf | ⟨k, mk, Rk, k1, k2, k3⟩
      · exact absurd (h.blk i b R hbi') (by omega)
      · have hki : k ≠ i := fun e => by rw [e, hi0] at k1; cases k1
        exact h.inj k i mk m b Rk R (hsub k mk k1) hi k2 hki k3 hbi'
  refine ⟨⟨?_, ?_, hst.wr.blk, ?_, ?_, hst.wr.glob, by rw [hn']; exact hst.wr.ngn⟩, hst.sub, ?_, by rw [hn', ← hn]; exact hst.n_le, ?_, ?_, ?_, hst.size_le, hst.io⟩
  · intro i x e; rw [hn']; exact hst.wr.dom i x e
  · intro i m e
    rw [hn']
    rcases out i m e with ⟨h1, _⟩ | ⟨_, _, h1⟩
    · exact hst.wr.live i m h1
    · have := h.live i m h1
      have := hst.n_le
      omega
  · intro i m b R e hb
    rcases out i m e with ⟨h1, _⟩ | ⟨_, h0, h1⟩
    · exact hst.wr.rel i m b R h1 hb
    · have hb' := oldb i m _ h1 hb
      rw [hst.rfr b (h.blk i b R hb') fun k mk Rk k1 k2 k3 => ?_]
      · exact (h.rel i m b R h1 hb').mono hst.sub
      · have hki : k ≠ i := fun e => by rw [e, h0] at k1; cases k1
        exact h.inj k i mk m b Rk R (hsub k mk k1) h1 k2 hki k3 hb'
  · intro i j m m' b R R' e e' hng hij hb hb'
    rcases out i m e with ⟨h1, h0⟩ | ⟨hi, h0, h1⟩
    · rcases out j m' e' with ⟨h1', h0'⟩ | ⟨hj, h0', h1'⟩
      · exact hst.wr.inj i j m m' b R R' h1 h1' hng hij hb hb'
      · exact apart j m' i m b R' R hj h0' h1' h1 h0 (.inr hng) hb' hb
    · rcases out j m' e' with ⟨h1', h0'⟩ | ⟨hj, h0', h1'⟩
      · exact apart i m j m' b R R' hi h0 h1 h1' h0' (.inl hng) hb hb'
      · exact h.inj i j m m' b R R' h1 h1' hng hij (oldb i m _ h1 hb) (oldb j m' _ h1' hb')
  · intro i x hi e; exact hst.old i x (by rw [hn]; exact hi) e
  · intro i hi e
    cases hq : s0.h.find i with
    | none => exact hout i hi hq
    | some m0 => rw [hin i m0 hq, hst.mfr i (by rw [hn]; exact hi) e, hq, hsub i m0 hq]
  · intro b hb hno
    exact hst.rfr b hb fun i m R e hng => hno i m R (hsub i m e) hng
  · intro i m b R e hng hb
    rcases out i m e with ⟨h1, _⟩ | ⟨_, h0, h1⟩
    · rcases hst.fresh i m b R h1 hng hb with hf | ⟨k, mk, Rk, k1, k2, k3⟩
      · exact .inl hf
      · exact .inr ⟨k, mk, Rk, hsub k mk k1, k2, k3⟩
    · exact .inr ⟨i, m, R, h1, hng, oldb i m _ h1 hb⟩
end
noncomputable def insAll : List (Nat × MO) → T MO → T MO
  | [], h => h
  | (i, m) :: r, h => insAll r (h.ins i (some m))
def sameO : Option Value → Option Value → Bool
  | none, none => true
  | some a, some b => same a b
  | _, _ => false
def sameT : T Value → T Value → Bool
  | .nil, .nil => true
  | .node l v r, .node l' v' r' => sameO v v' && (sameT l l' && sameT r r')
  | _, _ => false
def sameG : Option Nat → Option Nat → Bool
  | none, none => true
  | some a, some b => Nat.beq a b
  | _, _ => false
def sameP : List (Value × Value) → List (Value × Value) → Bool
  | [], [] => true
  | (a, b) :: r, (c, d) :: q => same a c && (same b d && sameP r q)
  | _, _ => false
def sameMO : MO → MO → Bool
  | .row c g, .row c' g' => sameG g g' && sameT c c'
  | .map ks, .map ks' => sameP ks ks'
  | _, _ => false
noncomputable def hasAll (h : T MO) : List (Nat × MO) → Bool
  | [] => true
  | (i, m) :: r => (match h.find i with | some m' => sameMO m' m | none => false) && hasAll h r
noncomputable def insAllO : List (Nat × Option MO) → T MO → T MO
  | [], h => h
  | (i, m) :: r, h => insAllO r (h.ins i m)
noncomputable def hasAllO (h : T MO) : List (Nat × Option MO) → Bool
  | [] => true
  | (i, some m) :: r => (match h.find i with | some m' => sameMO m' m | none => false) && hasAllO h r
  | (i, none) :: r => (match h.find i with | some _ => false | none => true) && hasAllO h r
def freeK {α : Type} (i : Nat) : List (Nat × α) → Bool
  | [] => true
  | (j, _) :: r => !Nat.beq i j && freeK i r
def nodupK {α : Type} : List (Nat × α) → Bool
  | [] => true
  | (i, _) :: r => freeK i r && nodupK r
/- the one's keys, and behind them keys from 'n' on -/
def coverK (n : Nat) : List (Nat × MO) → List (Nat × Option MO) → Bool
  | [], [] => true
  | [], (j, _) :: q => Nat.ble n j && coverK n [] q
  | (i, _) :: r, (j, _) :: q => Nat.beq i j && coverK n r q
  | _ :: _, [] => false
structure Entry where
  f : FuncId
  args : List Value
  n : Nat
  l0 : List (Nat × MO)
  v : Value
  n' : Nat
  l1 : List (Nat × Option MO)
noncomputable def entryOk (F : FF) (e : Entry) : Bool :=
  (nodupK e.l0 && (nodupK e.l1 && coverK e.n e.l0 e.l1)) && (match F e.f e.args ⟨insAll e.l0 .nil, e.n⟩ with
    | some (v, s) => Nat.beq s.n e.n' && (same v e.v && hasAllO s.h e.l1)
    | none => false)
abbrev GG := FuncId → List Value → S → Option (Option (Value × S))
def ansOf (G : GG) : FF := fun f args s => match G f args s with | some r => r | none => none
noncomputable def memoG (G : GG) : List Entry → GG
  | [] => G
  | e :: r => fun f args s => match Nat.beq f e.f && (Nat.beq s.n e.n && (sameL args e.args && hasAll s.h e.l0)) with
    | true => some (some (e.v, ⟨insAllO e.l1 s.h, e.n'⟩))
    | false => memoG G r f args s
theorem sameT_eq : ∀ a b : T Value, sameT a b = true → a = b
  | .nil, b, h => by cases b <;> simp [sameT] at h; rfl
  | .node l v r, b, h => by
    cases b with
    | nil => simp [sameT] at h
    | node l' v' r' =>
      simp only [sameT, Bool.and_eq_true] at h
      have hv : v = v' := by
        have := h.1
        cases v <;> cases v' <;> simp only [sameO, Bool.false_eq_true] at this
        · rfl
        · rw [same_eq _ _ this]
      rw [hv, sameT_eq l l' h.2.1, sameT_eq r r' h.2.2]
theorem sameP_eq : ∀ a b : List (Value × Value), sameP a b = true → a = b
  | [], b, h => by cases b <;> simp [sameP] at h; rfl
  | (a, b) :: r, q, h => by
    cases q with
    | nil => simp [sameP] at h
    | cons x q =>
      obtain ⟨c, d⟩ := x
      simp only [sameP, Bool.and_eq_true] at h
      rw [same_eq _ _ h.1, same_eq _ _ h.2.1, sameP_eq r q h.2.2]
theorem sameMO_eq {a b : MO} (h : sameMO a b = true) : a = b := by
  cases a with
  | row c g =>
    cases b with
    | row c' g' =>
      simp only [sameMO, Bool.and_eq_true] at h
      have hg : g = g' := by
        have := h.1
        cases g <;> cases g' <;> simp only [sameG, Bool.false_eq_true, beq_iff] at this
        · rfl
        · rw [this]
      rw [hg, sameT_eq c c' h.2]
    | map ks => simp [sameMO] at h
  | map ks =>
    cases b with
    | row c g => simp [sameMO] at h
    | map ks' => simp only [sameMO] at h; rw [sameP_eq _ _ h]
theorem hasAll_spec {h : T MO} : ∀ {l : List (Nat × MO)}, hasAll h l = true → ∀ i m, (i, m) ∈ l → h.find i = some m
  | [], _, i, m, hm => by cases hm
  | (j, q) :: r, hh, i, m, hm => by
    simp only [hasAll, Bool.and_eq_true] at hh
    rcases List.mem_cons.1 hm with e | e
    · cases e
      have := hh.1
      split at this
      · rename_i m' hf; rw [hf, sameMO_eq this]
      · cases this
    · exact hasAll_spec hh.2 i m e
theorem hasAllO_spec {h : T MO} : ∀ {l : List (Nat × Option MO)}, hasAllO h l = true → ∀ i o, (i, o) ∈ l → h.find i = o
  | [], _, i, o, hm => by cases hm
  | (j, some q) :: r, hh, i, o, hm => by
    simp only [hasAllO, Bool.and_eq_true] at hh
    rcases List.mem_cons.1 hm with e | e
    · cases e
      have := hh.1
      split at this
      · rename_i m' hf; rw [hf, sameMO_eq this]
      · cases this
    · exact hasAllO_spec hh.2 i o e
  | (j, none) :: r, hh, i, o, hm => by
    simp only [hasAllO, Bool.and_eq_true] at hh
    rcases List.mem_cons.1 hm with e | e
    · cases e
      have := hh.1
      split at this
      · cases this
      · rename_i hf; exact hf
    · exact hasAllO_spec hh.2 i o e
theorem freeK_spec {α : Type} {i : Nat} : ∀ {l : List (Nat × α)}, freeK i l = true → ∀ x ∈ l, x.1 ≠ i
  | [], _, x, hx => by cases hx
  | (j, q) :: r, h, x, hx => by
    simp only [freeK, Bool.and_eq_true, Bool.not_eq_true'] at h
    rcases List.mem_cons.1 hx with e | e
    · subst e; intro e; rw [beq_of e.symm] at h; cases h.1
    · exact freeK_spec h.2 x e
theorem find_insAllO_not {i : Nat} : ∀ (l : List (Nat × Option MO)) (h : T MO), (∀ x ∈ l, x.1 ≠ i) → (insAllO l h).find i = h.find i
  | [], _, _ => rfl
  | (j, q) :: r, h, hx => by
    show (insAllO r (h.ins j q)).find i = _
    rw [find_insAllO_not r _ fun x hm => hx x (by simp [hm]), T.find_ins_ne _ _ (Ne.symm (hx (j, q) (by simp)))]
theorem find_insAllO_mem {i : Nat} {o : Option MO} : ∀ (l : List (Nat × Option MO)) (h : T MO), nodupK l = true → (i, o) ∈ l → (insAllO l h).find i = o
  | [], _, _, hm => by cases hm
  | (j, q) :: r, h, hn, hm => by
    simp only [nodupK, Bool.and_eq_true] at hn
    show (insAllO r (h.ins j q)).find i = _
    rcases List.mem_cons.1 hm with e | e
    · cases e; rw [find_insAllO_not r _ (freeK_spec hn.1), T.find_ins_self]
    · exact find_insAllO_mem r _ hn.2 e
theorem coverK_mem {n i : Nat} : ∀ {l : List (Nat × MO)} {l' : List (Nat × Option MO)}, coverK n l l' = true → ∀ m, (i, m) ∈ l → ∃ o, (i, o) ∈ l'
  | [], _, _, m, h => by cases h
  | _ :: _, [], h, _, _ => by simp [coverK] at h
  | (j, q) :: r, (j', q') :: r', h, m, hm => by
    simp only [coverK, Bool.and_eq_true, beq_iff] at h
    rcases List.mem_cons.1 hm with e | e
    · cases e; exact ⟨q', by rw [h.1]; simp⟩
    · obtain ⟨m', hm'⟩ := coverK_mem h.2 m e; exact ⟨m', by simp [hm']⟩
theorem coverK_key {n : Nat} : ∀ {l : List (Nat × MO)} {l' : List (Nat × Option MO)}, coverK n l l' = true → ∀ x ∈ l', (∃ m, (x.1, m) ∈ l) ∨ n ≤ x.1
  | [], [], _, x, hx => by cases hx
  | [], (j, o) :: q, h, x, hx => by
    simp only [coverK, Bool.and_eq_true, ble_iff] at h
    rcases List.mem_cons.1 hx with e | e
    · subst e; exact .inr h.1
    · exact coverK_key h.2 x e
  | _ :: _, [], h, _, _ => by simp [coverK] at h
  | (j, q) :: r, (j', q') :: r', h, x, hx => by
    simp only [coverK, Bool.and_eq_true, beq_iff] at h
    rcases List.mem_cons.1 hx with e | e
    · subst e; exact .inl ⟨q, by rw [h.1]; simp⟩
    · rcases coverK_key h.2 x e with ⟨m, hm⟩ | hm
      · exact .inl ⟨m, by simp [hm]⟩
      · exact .inr hm
theorem find_insAll_not {i : Nat} : ∀ (l : List (Nat × MO)) (h : T MO), (∀ x ∈ l, x.1 ≠ i) → (insAll l h).find i = h.find i
  | [], _, _ => rfl
  | (j, q) :: r, h, hx => by
    show (insAll r (h.ins j (some q))).find i = _
    rw [find_insAll_not r _ fun x hm => hx x (by simp [hm]), T.find_ins_ne _ _ (Ne.symm (hx (j, q) (by simp)))]
theorem find_insAll_mem {i : Nat} {m : MO} : ∀ (l : List (Nat × MO)) (h : T MO), nodupK l = true → (i, m) ∈ l → (insAll l h).find i = some m
  | [], _, _, hm => by cases hm
  | (j, q) :: r, h, hn, hm => by
    simp only [nodupK, Bool.and_eq_true] at hn
    show (insAll r (h.ins j (some q))).find i = _
    rcases List.mem_cons.1 hm with e | e
    · cases e; rw [find_insAll_not r _ (freeK_spec hn.1), T.find_ins_self]
    · exact find_insAll_mem r _ hn.2 e
theorem memo_sim {P : Program} {E : Env} {F0 : FF} (hF0 : SimF P E F0) {G : GG} (hG : SimF P E (ansOf G)) : ∀ (l : List Entry), (∀ e ∈ l, entryOk F0 e = true) → SimF P E (ansOf (memoG G l))
  | [], _ => hG
  | e :: r, hl => by
    intro f args s v s' h
    have hr := memo_sim hF0 hG r (fun x hx => hl x (by simp [hx]))
    simp only [ansOf, memoG] at h
    split at h
    · rename_i x hx
      split at hx
      · rename_i hc
        cases hx
        cases h
        simp only [Bool.and_eq_true, beq_iff] at hc
        obtain ⟨rfl, hn, ha, hall⟩ := hc
        have ha := sameL_eq _ _ ha
        subst ha
        have hok := hl e (by simp)
        simp only [entryOk, Bool.and_eq_true] at hok
        obtain ⟨⟨k1, k1', k2⟩, k3⟩ := hok
        split at k3
        case h_2 => cases k3
        rename_i v0 s0' hF
        simp only [Bool.and_eq_true, beq_iff] at k3
        obtain ⟨k3, k4, k5⟩ := k3
        have k4 := same_eq _ _ k4
        subst k4
        obtain ⟨hfn, hcall⟩ := hF0 _ _ _ _ _ hF
        refine ⟨hfn, fun β W args' hargs hw => ?_⟩
        have hmem : ∀ i m, (insAll e.l0 .nil).find i = some m → (i, m) ∈ e.l0 := fun i m hf => by
          by_cases hi : ∀ x ∈ e.l0, x.1 ≠ i
          · rw [find_insAll_not _ _ hi] at hf; cases hf
          · have : ∃ x ∈ e.l0, x.1 = i := Classical.byContradiction fun hno => hi fun x hx hxi => hno ⟨x, hx, hxi⟩
            obtain ⟨⟨j, q⟩, hx, rfl⟩ := this
            rw [find_insAll_mem _ _ k1 hx] at hf
            cases hf; exact hx
        have hsub : ∀ i m, (⟨insAll e.l0 .nil, e.n⟩ : S).h.find i = some m → s.h.find i = some m := fun i m hf => hasAll_spec hall i m (hmem i m hf)
        have hkey : ∀ x ∈ e.l1, (∃ m, (⟨insAll e.l0 .nil, e.n⟩ : S).h.find x.1 = some m) ∨ s.n ≤ x.1 := fun x hx => by
          rcases coverK_key k2 x hx with ⟨m, hm⟩ | hm
          · exact .inl ⟨m, find_insAll_mem _ _ k1 hm⟩
          · exact .inr (by omega)
        refine (hcall β W args' hargs (lift_wr hw hn.symm hsub)).mono fun e' W' ⟨v', β', he, hv, hst⟩ => ⟨v', β', he, hv, lift_step hw hn.symm hsub hst k3.symm (fun i m hf => ?_) (fun i hi => ?_) fun i hi hf => ?_⟩
        · obtain ⟨o, ho⟩ := coverK_mem k2 m (hmem i m hf)
          show (insAllO e.l1 s.h).find i = _
          rw [find_insAllO_mem _ _ k1' ho, hasAllO_spec k5 i o ho]
        · show (insAllO e.l1 s.h).find i = _ ∨ (insAllO e.l1 s.h).find i = _
          by_cases hx : ∀ x ∈ e.l1, x.1 ≠ i
          · right
            rw [find_insAllO_not _ _ hx]
            cases hq : s.h.find i with
            | none => rfl
            | some m => have := hw.live i m hq; omega
          · left
            have : ∃ x ∈ e.l1, x.1 = i := Classical.byContradiction fun hno => hx fun x hx hxi => hno ⟨x, hx, hxi⟩
            obtain ⟨⟨j, o⟩, hjo, rfl⟩ := this
            rw [find_insAllO_mem _ _ k1' hjo, hasAllO_spec k5 j o hjo]
        · show (insAllO e.l1 s.h).find i = _
          refine find_insAllO_not _ _ fun x hx hxi => ?_
          rcases hkey x hx with ⟨m, hm⟩ | hm
          · rw [hxi, hf] at hm; cases hm
          · omega
      · exact hr f args s v s' (by simp only [ansOf, hx]; exact h)
    · cases h
end Go.Proofs.YtpmehdggikjkfaaGreatDoor.Rf
