/- Regions that ask the tape for their order: the model goes ahead as far as it may. -/
import Derived.Test.YtpmehdggikjkfaaGreatDoorRegG
namespace Go.Proofs.YtpmehdggikjkfaaGreatDoor.Rf
open Go
section
variable {P : Program} {E : Env} {nt sz : Nat} {ds : List Deferred} {β0 β β' : Bt} {s0 s1 : S} {W0 W W' : World} {L : Nat → Prop} {a : Act}
theorem isPure_not {o : Oper} (h : kind E o.op = .look) : isPure E o = false := by unfold isPure; rw [h]
def Adv (E : Env) (F : FF) (ops : List Oper) (nt : Nat) (ds : List Deferred) (sz : Nat) (β0 : Bt) (s0 : S) (W0 : World) (L : Nat → Prop) (β : Bt) (a : Act) (W : World) (tmF : TM) (sF : S) (all : List It) : Prop :=
  ∃ D' pre' val' tmk' idk' tm' s' pd', Inv E ops nt ds sz β0 s0 W0 pre' L val' tmk' idk' tm' s' pd' β a W ∧ LaterP E ops pre' D' ∧ evD E F ops D' tm' s' pd' = some (tmF, sF) ∧ pre'.reverse ++ D' = all ∧
      (D' = [] ∨ ∃ j r, D' = j :: r ∧ wanted j.o ops tm' = true ∧ (kind E j.o.op = .eff ∨ kind E j.o.op = .call))
theorem Inv.advance {F : FF} {ops : List Oper} {tmF : TM} {sF : S} : ∀ (D : List It) {pre : List It} {val : Nat → Value} {tmk : Nat → TM} {idk : Nat → Nat} {tm : TM} {s : S} {pd : List Pn},
    Inv E ops nt ds sz β0 s0 W0 pre L val tmk idk tm s pd β a W → (∀ x ∈ D, ops[x.i]? = some x.o ∧ Msk ops x.o x.b) → LaterP E ops pre D → evD E F ops D tm s pd = some (tmF, sF) →
    Adv E F ops nt ds sz β0 s0 W0 L β a W tmF sF (pre.reverse ++ D)
  | [], pre, val, tmk, idk, tm, s, pd, h, _, hl, he => ⟨[], pre, val, tmk, idk, tm, s, pd, h, hl, he, rfl, .inl rfl⟩
  | j :: r, pre, val, tmk, idk, tm, s, pd, h, hm, hl, he => by
    obtain ⟨l1, l2, l3, l4⟩ := hl
    have hl : LaterP E ops pre (j :: r) := ⟨l1, l2, l3, l4⟩
    have hj := hm j (by simp)
    have hm' : ∀ x ∈ r, ops[x.i]? = some x.o ∧ Msk ops x.o x.b := fun x hx => hm x (by simp [hx])
    have stay : wanted j.o ops tm = true → (kind E j.o.op = .eff ∨ kind E j.o.op = .call) → Adv E F ops nt ds sz β0 s0 W0 L β a W tmF sF (pre.reverse ++ j :: r) := fun hw hk => ⟨j :: r, pre, val, tmk, idk, tm, s, pd, h, hl, he, rfl, .inr ⟨j, r, rfl, hw, hk⟩⟩
    have fin : ∀ {v : Value} {id : Nat} {s1 : S} {pd1 : List Pn}, Inv E ops nt ds sz β0 s0 W0 (j :: pre) L (upd1 val j.i v) (upd1 tmk j.i tm) (upd1 idk j.i id) (put tm j.o.dst v) s1 pd1 β a W → evD E F ops r (put tm j.o.dst v) s1 pd1 = some (tmF, sF) → Adv E F ops nt ds sz β0 s0 W0 L β a W tmF sF (pre.reverse ++ j :: r) := fun hi he1 => by
      obtain ⟨D', pre', val', tmk', idk', tm', s', pd', q1, q2, q3, q4, q5⟩ := Inv.advance r hi hm' l4 he1
      exact ⟨D', pre', val', tmk', idk', tm', s', pd', q1, q2, q3, by rw [q4]; simp, q5⟩
    have he0 := he
    simp only [evD] at he
    cases hw : wanted j.o ops tm with
    | false =>
      rw [hw] at he
      exact fin (h.add hj l1 l2 (id := s.n) h.step (fun _ _ e => e) (fun _ hp => hp) (fun _ hp => .inl hp) (.inl ⟨hw, rfl⟩) (fun _ i m e => by have := h.step.wr.live i m e; omega)) he
    | true =>
      rw [hw] at he
      cases hk : kind E j.o.op with
      | pure =>
        rw [hk] at he
        simp only at he
        split at he
        case h_2 => cases he
        rename_i v hv
        exact fin (h.add hj l1 l2 (id := s.n) h.step (fun _ _ e => e) (fun _ hp => hp) (fun _ hp => .inl hp) (.inr ⟨hw, .inl ⟨hk, hv⟩⟩) (fun _ i m e => by have := h.step.wr.live i m e; omega)) he
      | look =>
        rw [hk] at he
        simp only at he
        split at he
        case h_2 => cases he
        rename_i v hv
        exact fin (h.add hj l1 l2 (id := s.n) h.step (fun _ _ e => e) (fun _ hp => by simp [hp]) (fun p hp => by
          rcases List.mem_cons.1 hp with rfl | hp
          · exact .inr ⟨rfl, isPure_not hk⟩
          · exact .inl hp) (.inr ⟨hw, .inr (.inl ⟨hk, hv, ⟨j, tm, v⟩, by simp, rfl, rfl, rfl⟩)⟩) (fun _ i m e => by have := h.step.wr.live i m e; omega)) he
      | alloc =>
        rw [hk] at he
        simp only at he
        split at he
        case h_2 => cases he
        rename_i m av hv
        have hn : s.h.find s.n = none := by
          cases hq : s.h.find s.n with
          | none => rfl
          | some m' => exact absurd (h.step.wr.live _ _ hq) (Nat.lt_irrefl _)
        exact fin (h.add hj l1 l2 (id := s.n) (h.step.trans (Step.malloc h.step.wr m)) (sle_newB hn m) (fun _ hp => hp) (fun _ hp => .inl hp)
          (.inr ⟨hw, .inr (.inr ⟨hk, m, av, hv, rfl, by rw [newB_find, if_pos rfl], h.step.wr.none_n, h.step.n_le⟩)⟩) (fun _ i m e => by have := h.step.wr.live i m e; omega)) he
      | eff => exact stay hw (.inl hk)
      | call => exact stay hw (.inr hk)
      | bad => rw [hk] at he; cases he
end
/- Regions that ask the tape for their order: lists and marks. -/
theorem later_split {E : Env} {ops : List Oper} : ∀ (l1 : List It) {pre : List It} {x : It} {l2 : List It}, laterOk E ops pre (l1 ++ x :: l2) = true → (∀ e ∈ x.o.after.toList, Region.binds .any e = true → ∃ k ∈ l1.reverse ++ pre, k.i = e.on)
  | [], pre, x, l2, h => fun e he hb => by obtain ⟨k, h1, h2⟩ := (later_cons h).2.1 e he hb; exact ⟨k, by simpa using h1, h2⟩
  | y :: l1, pre, x, l2, h => fun e he hb => by
    obtain ⟨k, h1, h2⟩ := later_split l1 (later_cons h).2.2.2 e he hb
    exact ⟨k, by simpa [or_comm, or_left_comm, or_assoc] using h1, h2⟩
theorem getD_set_self {listed : Array Bool} {i : Nat} (h : i < listed.size) : (listed.setIfInBounds i true).getD i false = true := by simp [h]
theorem set_iff {listed : Array Bool} {i : Nat} (h : i < listed.size) (j : Nat) : (listed.setIfInBounds i true).getD j false = true ↔ listed.getD j false = true ∨ j = i := by
  by_cases e : j = i
  · subst e; simp [h]
  · rw [getD_set_ne false (Ne.symm e)]; simp [e]
end Go.Proofs.YtpmehdggikjkfaaGreatDoor.Rf
