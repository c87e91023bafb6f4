/- Regions that ask the tape for their order: the model goes ahead. -/
import Derived.Test.YtpmehdggikjkfaaGreatDoorRegC
namespace Go.Proofs.YtpmehdggikjkfaaGreatDoor.Rf
open Go
def upd1 {α : Type} (f : Nat → α) (i : Nat) (v : α) : Nat → α := fun k => if k = i then v else f k
theorem upd1_self {α : Type} (f : Nat → α) (i : Nat) (v : α) : upd1 f i v i = v := if_pos rfl
theorem upd1_ne {α : Type} (f : Nat → α) {i k : Nat} (v : α) (h : k ≠ i) : upd1 f i v k = f k := if_neg h
theorem evalO_put_ne {tm : TM} {dst : Option Tmp} {t : Tmp} (v : Value) (h : dst ≠ some t) : evalO (put tm dst v) (.tmp t) = evalO tm (.tmp t) := by
  cases dst with
  | none => rfl
  | some d => rw [evalO_put, if_neg]; rintro rfl; exact h rfl
def RecOk (E : Env) (ops : List Oper) (s0 s : S) (pd : List Pn) (β : Bt) (k : It) (tk : TM) (v : Value) (id : Nat) : Prop :=
  (wanted k.o ops tk = false ∧ v = undef) ∨ (wanted k.o ops tk = true ∧
    ((kind E k.o.op = .pure ∧ evLook E k.o tk s = some v) ∨ (kind E k.o.op = .look ∧ evLook E k.o tk s = some v ∧ ∃ p ∈ pd, p.j = k ∧ p.tm = tk ∧ p.v = v) ∨
      (kind E k.o.op = .alloc ∧ ∃ m av, evAlloc E k.o tk = some (m, av) ∧ v = av.at id ∧ s.h.find id = some m ∧ β id = none ∧ s0.n ≤ id)))
section
variable {E : Env} {ops : List Oper} {nt sz : Nat} {ds : List Deferred} {β0 β : Bt} {s0 s : S} {W0 W : World} {pre : List It} {L : Nat → Prop} {val : Nat → Value} {tmk : Nat → TM} {idk : Nat → Nat} {tm : TM} {pd : List Pn} {a : Act}
theorem Inv.pcl' (h : Inv E ops nt ds sz β0 s0 W0 pre L val tmk idk tm s pd β a W) : Cl ops (fun q => ∃ k ∈ pre, k.i = q) := by
  intro j o ho hk e he hb
  obtain ⟨k, hk1, rfl⟩ := hk
  have := (h.mem k hk1).1
  rw [this] at ho
  cases ho
  exact h.pcl k hk1 e he hb
theorem Inv.add (h : Inv E ops nt ds sz β0 s0 W0 pre L val tmk idk tm s pd β a W) {j : It} (hj : ops[j.i]? = some j.o ∧ Msk ops j.o j.b) (hp : ∀ k ∈ pre, Pair ops k j)
    (he : ∀ e ∈ j.o.after.toList, Region.binds .any e = true → ∃ k ∈ pre, k.i = e.on) {v : Value} {id : Nat} {s1 : S} {pd1 : List Pn} (hst : Step E.ng β0 s0 W0 β s1 W) (hsle : Sle s s1)
    (hpd : ∀ p ∈ pd, p ∈ pd1) (hpd1 : ∀ p ∈ pd1, p ∈ pd ∨ (p.j = j ∧ isPure E j.o = false)) (hrec : RecOk E ops s0 s1 pd1 β j tm v id)
    (hid : kind E j.o.op = .alloc → ∀ i m, s.h.find i = some m → i ≠ id) :
    Inv E ops nt ds sz β0 s0 W0 (j :: pre) L (upd1 val j.i v) (upd1 tmk j.i tm) (upd1 idk j.i id) (put tm j.o.dst v) s1 pd1 β a W := by
  have hne : ∀ k ∈ pre, k.i ≠ j.i := fun k hk => (hp k hk).ne
  have hbj : ∀ q, Nat.testBit j.b q = true → ∃ k ∈ pre, k.i = q := fun q hq => hj.2 _ h.pcl' he q hq
  have hbk : ∀ k ∈ pre, ∀ q, Nat.testBit k.b q = true → ∃ k' ∈ pre, k'.i = q := fun k hk q hq => (h.mem k hk).2 _ h.pcl' (h.pcl k hk) q hq
  have hnojj : ¬ Nat.testBit j.b j.i = true := fun hq => by obtain ⟨k, hk, e⟩ := hbj _ hq; exact hne k hk e
  have hnokj : ∀ k ∈ pre, ¬ Nat.testBit k.b j.i = true := fun k hk hq => by obtain ⟨k', hk', e⟩ := hbk k hk _ hq; exact hne k' hk' e
  constructor
  case sub => exact fun q hq => by obtain ⟨k, hk, e⟩ := h.sub q hq; exact ⟨k, by simp [hk], e⟩
  case cl => exact h.cl
  case pw => exact List.Pairwise.cons (fun k hk => hp k hk) h.pw
  case pcl =>
    intro k hk e he' hb
    rcases List.mem_cons.1 hk with rfl | hk
    · obtain ⟨k', h1, h2⟩ := he e he' hb; exact ⟨k', by simp [h1], h2⟩
    · obtain ⟨k', h1, h2⟩ := h.pcl k hk e he' hb; exact ⟨k', by simp [h1], h2⟩
  case mem =>
    intro k hk
    rcases List.mem_cons.1 hk with rfl | hk
    · exact hj
    · exact h.mem k hk
  case step => exact hst
  case size => exact h.size
  case szz => exact h.szz
  case dfs => exact h.dfs
  case tr =>
    intro t ht
    have hLj : ¬ L j.i := fun hq => by obtain ⟨k, hk, e⟩ := h.sub _ hq; exact hne k hk e
    rw [evalO_put_ne v (ht j (by simp) hLj)]
    exact h.tr t fun k hk hL => ht k (by simp [hk]) hL
  case vd =>
    intro k hk hL d hd
    rcases List.mem_cons.1 hk with rfl | hk
    · rw [hd, evalO_put, if_pos rfl, upd1_self]
    · rw [evalO_put_ne v ((hp k hk).dst d hd), upd1_ne _ _ (hne k hk)]
      exact h.vd k hk hL d hd
  case V =>
    intro k hk k' hk' hL hL' t ht hd hbit
    rcases List.mem_cons.1 hk with rfl | hq
    · rcases List.mem_cons.1 hk' with rfl | hq'
      · exact absurd hbit hnojj
      · rw [upd1_self, upd1_ne _ _ (hne k' hq')]
        exact h.vd k' hq' hL' t hd
    · rcases List.mem_cons.1 hk' with rfl | hq'
      · exact absurd hbit (hnokj k hq)
      · rw [upd1_ne _ _ (hne k hq), upd1_ne _ _ (hne k' hq')]
        exact h.V k hq k' hq' hL hL' t ht hd hbit
  case O =>
    intro k hk hL t ht hno
    rcases List.mem_cons.1 hk with rfl | hk
    · rw [upd1_self]
      refine h.tr t fun k' hk' hL' hd => ?_
      have := hno k' (by simp [hk']) hL' hd
      rw [(hp k' hk').rd t hd ht] at this
      cases this
    · rw [upd1_ne _ _ (hne k hk)]
      exact h.O k hk hL t ht fun k' hk' hL' hd => hno k' (by simp [hk']) hL' hd
  case rc =>
    intro k hk hL
    rcases List.mem_cons.1 hk with rfl | hk
    · rw [upd1_self, upd1_self, upd1_self]; exact hrec
    · rw [upd1_ne _ _ (hne k hk), upd1_ne _ _ (hne k hk), upd1_ne _ _ (hne k hk)]
      rcases h.rc k hk hL with h1 | ⟨h1, h2 | ⟨h2, h3, p, hp1, hp2⟩ | ⟨h2, m, av, h3, h4, h5, h6, h7⟩⟩
      · exact .inl h1
      · exact .inr ⟨h1, .inl ⟨h2.1, by rw [← h2.2]; exact pure_indep h2.1 _ _ _⟩⟩
      · exact .inr ⟨h1, .inr (.inl ⟨h2, look_mono hsle h3, p, hpd p hp1, hp2⟩)⟩
      · exact .inr ⟨h1, .inr (.inr ⟨h2, m, av, h3, h4, hsle _ _ h5, h6, h7⟩)⟩
  case ids =>
    intro k hk k' hk' hL hL' hkk hka hka' hw hw'
    have live : ∀ k ∈ pre, ¬ L k.i → kind E k.o.op = .alloc → wanted k.o ops (tmk k.i) = true → ∃ m, s.h.find (idk k.i) = some m := fun k hk hL hka hw => by
      rcases h.rc k hk hL with h1 | ⟨_, h2 | ⟨h2, _⟩ | ⟨_, m, av, _, _, h5, _⟩⟩
      · rw [h1.1] at hw; cases hw
      · rw [h2.1] at hka; cases hka
      · rw [h2] at hka; cases hka
      · exact ⟨m, h5⟩
    rcases List.mem_cons.1 hk with rfl | hq
    · rcases List.mem_cons.1 hk' with rfl | hq'
      · exact absurd rfl hkk
      · rw [upd1_ne _ _ (hne k' hq')] at hw'
        rw [upd1_self, upd1_ne _ _ (hne k' hq')]
        obtain ⟨m, hm⟩ := live k' hq' hL' hka' hw'
        exact Ne.symm (hid hka _ m hm)
    · rw [upd1_ne _ _ (hne k hq)] at hw
      rcases List.mem_cons.1 hk' with rfl | hq'
      · rw [upd1_self, upd1_ne _ _ (hne k hq)]
        obtain ⟨m, hm⟩ := live k hq hL hka hw
        exact hid hka' _ m hm
      · rw [upd1_ne _ _ (hne k' hq')] at hw'
        rw [upd1_ne _ _ (hne k hq), upd1_ne _ _ (hne k' hq')]
        exact h.ids k hq k' hq' hL hL' hkk hka hka' hw hw'
  case pdm =>
    intro p hp1
    rcases hpd1 p hp1 with h1 | ⟨h1, h2⟩
    · obtain ⟨q1, q2⟩ := h.pdm p h1; exact ⟨by simp [q1], q2⟩
    · rw [h1]; exact ⟨by simp, h2⟩
end
/- Regions that ask the tape for their order: the run catches up. -/
theorem pair_two {ops : List Oper} : ∀ {pre : List It}, pre.Pairwise (fun j k => Pair ops k j) → ∀ k ∈ pre, ∀ k' ∈ pre, k.i ≠ k'.i → Pair ops k k' ∨ Pair ops k' k
  | [], _, k, hk, _, _, _ => by cases hk
  | x :: r, h, k, hk, k', hk', hne => by
    cases h with
    | cons h1 h2 =>
    rcases List.mem_cons.1 hk with e | hk1
    · rcases List.mem_cons.1 hk' with e' | hk1'
      · rw [e, e'] at hne; exact absurd rfl hne
      · rw [e]; exact .inr (h1 k' hk1')
    · rcases List.mem_cons.1 hk' with e' | hk1'
      · rw [e']; exact .inl (h1 k hk1)
      · exact pair_two h2 k hk1 k' hk1' hne
section
variable {E : Env} {ops : List Oper} {nt sz : Nat} {ds : List Deferred} {β0 β β' : Bt} {s0 s : S} {W0 W W' : World} {pre : List It} {L : Nat → Prop} {val : Nat → Value} {tmk : Nat → TM} {idk : Nat → Nat} {tm : TM} {pd : List Pn} {a : Act}
theorem eval_put_ne {a : Act} {dst : Option Tmp} {t : Tmp} (v : Value) (h : dst ≠ some t) : (a.put dst v).eval (.tmp t) = a.eval (.tmp t) := by
  cases dst with
  | none => rfl
  | some d =>
    have hne : d ≠ t := fun e => h (by rw [e])
    simp [Act.eval, Act.put, Array.getElem?_setIfInBounds_ne hne]
theorem Inv.late (h : Inv E ops nt ds sz β0 s0 W0 pre L val tmk idk tm s pd β a W) {k0 : It} (hk0 : k0 ∈ pre) (haf : ∀ e ∈ k0.o.after.toList, Region.binds .any e = true → L e.on) {v' : Value}
    (hL0 : ¬ L k0.i) (hv : VR β' (val k0.i) v') (hst : Step E.ng β0 s0 W0 β' s W') (hsub : Sub β β') (hnone : ∀ k ∈ pre, ¬ L k.i → k.i ≠ k0.i → kind E k.o.op = .alloc → wanted k.o ops (tmk k.i) = true → β (idk k.i) = none → β' (idk k.i) = none)
    (hdst : ∀ d, k0.o.dst = some d → d < a.tmps.size) :
    Inv E ops nt ds sz β0 s0 W0 pre (fun q => L q ∨ q = k0.i) val tmk idk tm s pd β' (a.put k0.o.dst v') W' := by
  have hb0 : ∀ q, Nat.testBit k0.b q = true → L q := fun q hq => (h.mem k0 hk0).2 L h.cl haf q hq
  have hnd : ∀ k ∈ pre, k.i ≠ k0.i → ∀ d, k0.o.dst = some d → k.o.dst ≠ some d := fun k hk hne d hd => by
    rcases pair_two h.pw k0 hk0 k hk (Ne.symm hne) with hp | hp
    · exact hp.dst d hd
    · intro e; exact hp.dst d e hd
  constructor
  case sub => exact fun q hq => hq.elim (fun hq => h.sub q hq) (fun e => ⟨k0, hk0, e.symm⟩)
  case cl =>
    rintro j o ho (hj | rfl) e he hb
    · exact .inl (h.cl j o ho hj e he hb)
    · rw [(h.mem k0 hk0).1] at ho; cases ho; exact .inl (haf e he hb)
  case pw => exact h.pw
  case pcl => exact h.pcl
  case mem => exact h.mem
  case step => exact hst
  case size => rw [put_size]; exact h.size
  case szz => rw [put_size]; exact h.szz
  case dfs => rw [put_defers']; exact h.dfs
  case tr =>
    intro t ht
    by_cases hd : k0.o.dst = some t
    · have e1 := h.vd k0 hk0 hL0 t hd
      rw [e1, hd, eval_put_tmp a t t v' (hdst t hd), if_pos rfl]
      exact hv
    · rw [eval_put_ne v' hd]
      refine (h.tr t fun k hk hL hdk => ?_).mono hsub
      by_cases hkk : k.i = k0.i
      · have : k.o = k0.o := by
          have h1 := (h.mem k hk).1
          rw [hkk, (h.mem k0 hk0).1] at h1
          exact (Option.some.inj h1).symm
        rw [this] at hdk; exact hd hdk
      · exact ht k hk (fun hq => hq.elim hL hkk) hdk
  case vd => exact fun k hk hL d hd => h.vd k hk (fun q => hL (.inl q)) d hd
  case V => exact fun k hk k' hk' hL hL' t ht hd hbit => h.V k hk k' hk' (fun q => hL (.inl q)) (fun q => hL' (.inl q)) t ht hd hbit
  case O =>
    intro k hk hL t ht hno
    have hLk : ¬ L k.i := fun q => hL (.inl q)
    have hkk : k.i ≠ k0.i := fun q => hL (.inr q)
    by_cases hd : k0.o.dst = some t
    · have hbit : Nat.testBit k.b k0.i = true := by
        rcases pair_two h.pw k0 hk0 k hk (Ne.symm hkk) with hp | hp
        · exact hp.rd t hd ht
        · exact absurd (hb0 _ (hp.wr t hd ht)) hLk
      rw [h.V k hk k0 hk0 hLk hL0 t ht hd hbit, hd, eval_put_tmp a t t v' (hdst t hd), if_pos rfl]
      exact hv
    · rw [eval_put_ne v' hd]
      refine (h.O k hk hLk t ht fun k' hk' hL' hd' => ?_).mono hsub
      by_cases hkk' : k'.i = k0.i
      · have : k'.o = k0.o := by
          have h1 := (h.mem k' hk').1
          rw [hkk', (h.mem k0 hk0).1] at h1
          exact (Option.some.inj h1).symm
        rw [this] at hd'; exact absurd hd' hd
      · exact hno k' hk' (fun hq => hq.elim hL' hkk') hd'
  case rc =>
    intro k hk hL
    have hLk : ¬ L k.i := fun q => hL (.inl q)
    have hkk : k.i ≠ k0.i := fun q => hL (.inr q)
    rcases h.rc k hk hLk with h1 | ⟨h1, h2 | h2 | ⟨h2, m, av, h3, h4, h5, h6, h7⟩⟩
    · exact .inl h1
    · exact .inr ⟨h1, .inl h2⟩
    · exact .inr ⟨h1, .inr (.inl h2)⟩
    · exact .inr ⟨h1, .inr (.inr ⟨h2, m, av, h3, h4, h5, hnone k hk hLk hkk h2 h1 h6, h7⟩)⟩
  case ids => exact fun k hk k' hk' hL hL' => h.ids k hk k' hk' (fun q => hL (.inl q)) (fun q => hL' (.inl q))
  case pdm => exact h.pdm
end
end Go.Proofs.YtpmehdggikjkfaaGreatDoor.Rf
