/- Regions that ask the tape for their order: model and run together. -/
import Derived.Test.YtpmehdggikjkfaaGreatDoorRegF
namespace Go.Proofs.YtpmehdggikjkfaaGreatDoor.Rf
open Go
section
variable {E : Env} {ops : List Oper} {nt sz : Nat} {ds : List Deferred} {β0 β β' : Bt} {s0 s s1 : S} {W0 W W' : World} {pre : List It} {L : Nat → Prop} {val : Nat → Value} {tmk : Nat → TM} {idk : Nat → Nat} {tm : TM} {pd : List Pn} {a : Act}
theorem Inv.sync (h : Inv E ops nt ds sz β0 s0 W0 pre L val tmk idk tm s pd β a W) {j : It} (hj : ops[j.i]? = some j.o ∧ Msk ops j.o j.b) (hp : ∀ k ∈ pre, Pair ops k j)
    (haf : ∀ e ∈ j.o.after.toList, Region.binds .any e = true → L e.on) {v v' : Value} (hv : VR β' v v') (hst1 : Step E.ng β s W β' s1 W')
    (hlook : ∀ k ∈ pre, ¬ L k.i → kind E k.o.op = .look → evLook E k.o (tmk k.i) s = some (val k.i) → (∃ p ∈ pd, p.j = k ∧ p.tm = tmk k.i ∧ p.v = val k.i) → evLook E k.o (tmk k.i) s1 = some (val k.i))
    (hdst : ∀ d, j.o.dst = some d → d < a.tmps.size) :
    Inv E ops nt ds sz β0 s0 W0 (j :: pre) (fun q => L q ∨ q = j.i) val tmk idk (put tm j.o.dst v) s1 pd β' (a.put j.o.dst v') W' := by
  have hne : ∀ k ∈ pre, k.i ≠ j.i := fun k hk => (hp k hk).ne
  have hbj : ∀ q, Nat.testBit j.b q = true → L q := fun q hq => hj.2 L h.cl haf q hq
  have old : ∀ k, k ∈ j :: pre → ¬ (L k.i ∨ k.i = j.i) → k ∈ pre ∧ ¬ L k.i := fun k hk hL => by
    rcases List.mem_cons.1 hk with e | hq
    · exact absurd (.inr (by rw [e])) hL
    · exact ⟨hq, fun q => hL (.inl q)⟩
  constructor
  case sub => exact fun q hq => hq.elim (fun hq => by obtain ⟨k, h1, h2⟩ := h.sub q hq; exact ⟨k, by simp [h1], h2⟩) (fun e => ⟨j, by simp, e.symm⟩)
  case cl =>
    intro q o ho hq e he hb
    rcases hq with hq | rfl
    · exact .inl (h.cl q o ho hq e he hb)
    · rw [hj.1] at ho; cases ho; exact .inl (haf e he hb)
  case pw => exact List.Pairwise.cons (fun k hk => hp k hk) h.pw
  case pcl =>
    intro k hk e he' hb
    rcases List.mem_cons.1 hk with e1 | hk
    · rw [e1] at he'
      obtain ⟨k', h1, h2⟩ := h.sub _ (haf e he' hb); exact ⟨k', by simp [h1], h2⟩
    · obtain ⟨k', h1, h2⟩ := h.pcl k hk e he' hb; exact ⟨k', by simp [h1], h2⟩
  case mem =>
    intro k hk
    rcases List.mem_cons.1 hk with e | hk
    · rw [e]; exact hj
    · exact h.mem k hk
  case step => exact h.step.trans hst1
  case size => rw [put_size]; exact h.size
  case szz => rw [put_size]; exact h.szz
  case dfs => rw [put_defers']; exact h.dfs
  case tr =>
    intro t ht
    by_cases hd : j.o.dst = some t
    · rw [hd, evalO_put, if_pos rfl, eval_put_tmp a t t v' (hdst t hd), if_pos rfl]; exact hv
    · rw [evalO_put_ne v hd, eval_put_ne v' hd]
      exact (h.tr t fun k hk hL => ht k (by simp [hk]) (fun hq => hq.elim hL (hne k hk))).mono hst1.sub
  case vd =>
    intro k hk hL d hd
    obtain ⟨hk1, hL1⟩ := old k hk hL
    rw [evalO_put_ne v ((hp k hk1).dst d hd)]
    exact h.vd k hk1 hL1 d hd
  case V =>
    intro k hk k' hk' hL hL' t ht hd hbit
    obtain ⟨hk1, hL1⟩ := old k hk hL
    obtain ⟨hk2, hL2⟩ := old k' hk' hL'
    exact h.V k hk1 k' hk2 hL1 hL2 t ht hd hbit
  case O =>
    intro k hk hL t ht hno
    obtain ⟨hk1, hL1⟩ := old k hk hL
    have hd : j.o.dst ≠ some t := fun hd => hL1 (hbj _ ((hp k hk1).wr t hd ht))
    rw [eval_put_ne v' hd]
    exact (h.O k hk1 hL1 t ht fun k' hk' hL' hd' => hno k' (by simp [hk']) (fun hq => hq.elim hL' (hne k' hk')) hd').mono hst1.sub
  case rc =>
    intro k hk hL
    obtain ⟨hk1, hL1⟩ := old k hk hL
    rcases h.rc k hk1 hL1 with h1 | ⟨h1, h2 | ⟨h2, h3, h4⟩ | ⟨h2, m, av, h3, h4, h5, h6, h7⟩⟩
    · exact .inl h1
    · exact .inr ⟨h1, .inl ⟨h2.1, by rw [← h2.2]; exact pure_indep h2.1 _ _ _⟩⟩
    · exact .inr ⟨h1, .inr (.inl ⟨h2, hlook k hk1 hL1 h2 h3 h4, h4⟩)⟩
    · have hlt : idk k.i < s.n := h.step.wr.live _ _ h5
      refine .inr ⟨h1, .inr (.inr ⟨h2, m, av, h3, h4, by rw [hst1.mfr _ hlt h6]; exact h5, ?_, h7⟩)⟩
      cases hb : β' (idk k.i) with
      | none => rfl
      | some x => rw [hst1.old _ x hlt hb] at h6; cases h6
  case ids =>
    intro k hk k' hk' hL hL'
    obtain ⟨hk1, hL1⟩ := old k hk hL
    obtain ⟨hk2, hL2⟩ := old k' hk' hL'
    exact h.ids k hk1 k' hk2 hL1 hL2
  case pdm => exact fun p hp1 => by obtain ⟨q1, q2⟩ := h.pdm p hp1; exact ⟨by simp [q1], q2⟩
end
end Go.Proofs.YtpmehdggikjkfaaGreatDoor.Rf
