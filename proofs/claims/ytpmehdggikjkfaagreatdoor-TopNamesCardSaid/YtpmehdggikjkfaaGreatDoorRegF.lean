/- Regions that ask the tape for their order: the run catches up. -/
import Derived.Test.YtpmehdggikjkfaaGreatDoorRegE
namespace Go.Proofs.YtpmehdggikjkfaaGreatDoor.Rf
open Go
theorem pair_two {ops : List Oper} : ∀ {pre : List It}, pre.Pairwise (fun j k => Pair ops k j) → ∀ k ∈ pre, ∀ k' ∈ pre, k.i ≠ k'.i → Pair ops k k' ∨ Pair ops k' k
  | [], _, k, hk, _, _, _ => by cases hk
  | x :: r, h, k, hk, k', hk', hne => by
    cases h with
    | cons h1 h2 =>
    rcases List.mem_cons.1 hk with e | hk1
    · rcases List.mem_cons.1 hk' with e' | hk1'
      · rw [e, e'] at hne; exact absurd rfl hne
      · rw [e]; exact .inr (h1 k' hk1')
    · rcases List.mem_cons.1 hk' with e' | hk1'
      · rw [e']; exact .inl (h1 k hk1)
      · exact pair_two h2 k hk1 k' hk1' hne
section
variable {E : Env} {ops : List Oper} {nt sz : Nat} {ds : List Deferred} {β0 β β' : Bt} {s0 s : S} {W0 W W' : World} {pre : List It} {L : Nat → Prop} {val : Nat → Value} {tmk : Nat → TM} {idk : Nat → Nat} {tm : TM} {pd : List Pn} {a : Act}
theorem eval_put_ne {a : Act} {dst : Option Tmp} {t : Tmp} (v : Value) (h : dst ≠ some t) : (a.put dst v).eval (.tmp t) = a.eval (.tmp t) := by
  cases dst with
  | none => rfl
  | some d =>
    have hne : d ≠ t := fun e => h (by rw [e])
    simp [Act.eval, Act.put, Array.getElem?_setIfInBounds_ne hne]
theorem Inv.late (h : Inv E ops nt ds sz β0 s0 W0 pre L val tmk idk tm s pd β a W) {k0 : It} (hk0 : k0 ∈ pre) (haf : ∀ e ∈ k0.o.after.toList, Region.binds .any e = true → L e.on) {v' : Value}
    (hL0 : ¬ L k0.i) (hv : VR β' (val k0.i) v') (hst : Step E.ng β0 s0 W0 β' s W') (hsub : Sub β β') (hnone : ∀ k ∈ pre, ¬ L k.i → k.i ≠ k0.i → kind E k.o.op = .alloc → wanted k.o ops (tmk k.i) = true → β (idk k.i) = none → β' (idk k.i) = none)
    (hdst : ∀ d, k0.o.dst = some d → d < a.tmps.size) :
    Inv E ops nt ds sz β0 s0 W0 pre (fun q => L q ∨ q = k0.i) val tmk idk tm s pd β' (a.put k0.o.dst v') W' := by
  have hb0 : ∀ q, Nat.testBit k0.b q = true → L q := fun q hq => (h.mem k0 hk0).2 L h.cl haf q hq
  have hnd : ∀ k ∈ pre, k.i ≠ k0.i → ∀ d, k0.o.dst = some d → k.o.dst ≠ some d := fun k hk hne d hd => by
    rcases pair_two h.pw k0 hk0 k hk (Ne.symm hne) with hp | hp
    · exact hp.dst d hd
    · intro e; exact hp.dst d e hd
  constructor
  case sub => exact fun q hq => hq.elim (fun hq => h.sub q hq) (fun e => ⟨k0, hk0, e.symm⟩)
  case cl =>
    rintro j o ho (hj | rfl) e he hb
    · exact .inl (h.cl j o ho hj e he hb)
    · rw [(h.mem k0 hk0).1] at ho; cases ho; exact .inl (haf e he hb)
  case pw => exact h.pw
  case pcl => exact h.pcl
  case mem => exact h.mem
  case step => exact hst
  case size => rw [put_size]; exact h.size
  case szz => rw [put_size]; exact h.szz
  case dfs => rw [put_defers']; exact h.dfs
  case tr =>
    intro t ht
    by_cases hd : k0.o.dst = some t
    · have e1 := h.vd k0 hk0 hL0 t hd
      rw [e1, hd, eval_put_tmp a t t v' (hdst t hd), if_pos rfl]
      exact hv
    · rw [eval_put_ne v' hd]
      refine (h.tr t fun k hk hL hdk => ?_).mono hsub
      by_cases hkk : k.i = k0.i
      · have : k.o = k0.o := by
          have h1 := (h.mem k hk).1
          rw [hkk, (h.mem k0 hk0).1] at h1
          exact (Option.some.inj h1).symm
        rw [this] at hdk; exact hd hdk
      · exact ht k hk (fun hq => hq.elim hL hkk) hdk
  case vd => exact fun k hk hL d hd => h.vd k hk (fun q => hL (.inl q)) d hd
  case V => exact fun k hk k' hk' hL hL' t ht hd hbit => h.V k hk k' hk' (fun q => hL (.inl q)) (fun q => hL' (.inl q)) t ht hd hbit
  case O =>
    intro k hk hL t ht hno
    have hLk : ¬ L k.i := fun q => hL (.inl q)
    have hkk : k.i ≠ k0.i := fun q => hL (.inr q)
    by_cases hd : k0.o.dst = some t
    · have hbit : Nat.testBit k.b k0.i = true := by
        rcases pair_two h.pw k0 hk0 k hk (Ne.symm hkk) with hp | hp
        · exact hp.rd t hd ht
        · exact absurd (hb0 _ (hp.wr t hd ht)) hLk
      rw [h.V k hk k0 hk0 hLk hL0 t ht hd hbit, hd, eval_put_tmp a t t v' (hdst t hd), if_pos rfl]
      exact hv
    · rw [eval_put_ne v' hd]
      refine (h.O k hk hLk t ht fun k' hk' hL' hd' => ?_).mono hsub
      by_cases hkk' : k'.i = k0.i
      · have : k'.o = k0.o := by
          have h1 := (h.mem k' hk').1
          rw [hkk', (h.mem k0 hk0).1] at h1
          exact (Option.some.inj h1).symm
        rw [this] at hd'; exact absurd hd' hd
      · exact hno k' hk' (fun hq => hq.elim hL' hkk') hd'
  case rc =>
    intro k hk hL
    have hLk : ¬ L k.i := fun q => hL (.inl q)
    have hkk : k.i ≠ k0.i := fun q => hL (.inr q)
    rcases h.rc k hk hLk with h1 | ⟨h1, h2 | h2 | ⟨h2, m, av, h3, h4, h5, h6, h7⟩⟩
    · exact .inl h1
    · exact .inr ⟨h1, .inl h2⟩
    · exact .inr ⟨h1, .inr (.inl h2)⟩
    · exact .inr ⟨h1, .inr (.inr ⟨h2, m, av, h3, h4, h5, hnone k hk hLk hkk h2 h1 h6, h7⟩)⟩
  case ids => exact fun k hk k' hk' hL hL' => h.ids k hk k' hk' (fun q => hL (.inl q)) (fun q => hL' (.inl q))
  case pdm => exact h.pdm
end
end Go.Proofs.YtpmehdggikjkfaaGreatDoor.Rf
