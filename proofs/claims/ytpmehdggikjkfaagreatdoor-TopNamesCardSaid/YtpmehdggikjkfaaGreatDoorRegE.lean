/- Regions that ask the tape for their order: the model goes ahead. -/
import Derived.Test.YtpmehdggikjkfaaGreatDoorRegD
namespace Go.Proofs.YtpmehdggikjkfaaGreatDoor.Rf
open Go
def upd1 {α : Type} (f : Nat → α) (i : Nat) (v : α) : Nat → α := fun k => if k = i then v else f k
theorem upd1_self {α : Type} (f : Nat → α) (i : Nat) (v : α) : upd1 f i v i = v := if_pos rfl
theorem upd1_ne {α : Type} (f : Nat → α) {i k : Nat} (v : α) (h : k ≠ i) : upd1 f i v k = f k := if_neg h
theorem evalO_put_ne {tm : TM} {dst : Option Tmp} {t : Tmp} (v : Value) (h : dst ≠ some t) : evalO (put tm dst v) (.tmp t) = evalO tm (.tmp t) := by
  cases dst with
  | none => rfl
  | some d => rw [evalO_put, if_neg]; rintro rfl; exact h rfl
def RecOk (E : Env) (ops : List Oper) (s0 s : S) (pd : List Pn) (β : Bt) (k : It) (tk : TM) (v : Value) (id : Nat) : Prop :=
  (wanted k.o ops tk = false ∧ v = undef) ∨ (wanted k.o ops tk = true ∧
    ((kind E k.o.op = .pure ∧ evLook E k.o tk s = some v) ∨ (kind E k.o.op = .look ∧ evLook E k.o tk s = some v ∧ ∃ p ∈ pd, p.j = k ∧ p.tm = tk ∧ p.v = v) ∨
      (kind E k.o.op = .alloc ∧ ∃ m av, evAlloc E k.o tk = some (m, av) ∧ v = av.at id ∧ s.h.find id = some m ∧ β id = none ∧ s0.n ≤ id)))
section
variable {E : Env} {ops : List Oper} {nt sz : Nat} {ds : List Deferred} {β0 β : Bt} {s0 s : S} {W0 W : World} {pre : List It} {L : Nat → Prop} {val : Nat → Value} {tmk : Nat → TM} {idk : Nat → Nat} {tm : TM} {pd : List Pn} {a : Act}
theorem Inv.pcl' (h : Inv E ops nt ds sz β0 s0 W0 pre L val tmk idk tm s pd β a W) : Cl ops (fun q => ∃ k ∈ pre, k.i = q) := by
  intro j o ho hk e he hb
  obtain ⟨k, hk1, rfl⟩ := hk
  have := (h.mem k hk1).1
  rw [this] at ho
  cases ho
  exact h.pcl k hk1 e he hb
theorem Inv.add (h : Inv E ops nt ds sz β0 s0 W0 pre L val tmk idk tm s pd β a W) {j : It} (hj : ops[j.i]? = some j.o ∧ Msk ops j.o j.b) (hp : ∀ k ∈ pre, Pair ops k j)
    (he : ∀ e ∈ j.o.after.toList, Region.binds .any e = true → ∃ k ∈ pre, k.i = e.on) {v : Value} {id : Nat} {s1 : S} {pd1 : List Pn} (hst : Step E.ng β0 s0 W0 β s1 W) (hsle : Sle s s1)
    (hpd : ∀ p ∈ pd, p ∈ pd1) (hpd1 : ∀ p ∈ pd1, p ∈ pd ∨ (p.j = j ∧ isPure E j.o = false)) (hrec : RecOk E ops s0 s1 pd1 β j tm v id)
    (hid : kind E j.o.op = .alloc → ∀ i m, s.h.find i = some m → i ≠ id) :
    Inv E ops nt ds sz β0 s0 W0 (j :: pre) L (upd1 val j.i v) (upd1 tmk j.i tm) (upd1 idk j.i id) (put tm j.o.dst v) s1 pd1 β a W := by
  have hne : ∀ k ∈ pre, k.i ≠ j.i := fun k hk => (hp k hk).ne
  have hbj : ∀ q, Nat.testBit j.b q = true → ∃ k ∈ pre, k.i = q := fun q hq => hj.2 _ h.pcl' he q hq
  have hbk : ∀ k ∈ pre, ∀ q, Nat.testBit k.b q = true → ∃ k' ∈ pre, k'.i = q := fun k hk q hq => (h.mem k hk).2 _ h.pcl' (h.pcl k hk) q hq
  have hnojj : ¬ Nat.testBit j.b j.i = true := fun hq => by obtain ⟨k, hk, e⟩ := hbj _ hq; exact hne k hk e
  have hnokj : ∀ k ∈ pre, ¬ Nat.testBit k.b j.i = true := fun k hk hq => by obtain ⟨k', hk', e⟩ := hbk k hk _ hq; exact hne k' hk' e
  constructor
  case sub => exact fun q hq => by obtain ⟨k, hk, e⟩ := h.sub q hq; exact ⟨k, by simp [hk], e⟩
  case cl => exact h.cl
  case pw => exact List.Pairwise.cons (fun k hk => hp k hk) h.pw
  case pcl =>
    intro k hk e he' hb
    rcases List.mem_cons.1 hk with rfl | hk
    · obtain ⟨k', h1, h2⟩ := he e he' hb; exact ⟨k', by simp [h1], h2⟩
    · obtain ⟨k', h1, h2⟩ := h.pcl k hk e he' hb; exact ⟨k', by simp [h1], h2⟩
  case mem =>
    intro k hk
    rcases List.mem_cons.1 hk with rfl | hk
    · exact hj
    · exact h.mem k hk
  case step => exact hst
  case size => exact h.size
  case szz => exact h.szz
  case dfs => exact h.dfs
  case tr =>
    intro t ht
    have hLj : ¬ L j.i := fun hq => by obtain ⟨k, hk, e⟩ := h.sub _ hq; exact hne k hk e
    rw [evalO_put_ne v (ht j (by simp) hLj)]
    exact h.tr t fun k hk hL => ht k (by simp [hk]) hL
  case vd =>
    intro k hk hL d hd
    rcases List.mem_cons.1 hk with rfl | hk
    · rw [hd, evalO_put, if_pos rfl, upd1_self]
    · rw [evalO_put_ne v ((hp k hk).dst d hd), upd1_ne _ _ (hne k hk)]
      exact h.vd k hk hL d hd
  case V =>
    intro k hk k' hk' hL hL' t ht hd hbit
    rcases List.mem_cons.1 hk with rfl | hq
    · rcases List.mem_cons.1 hk' with rfl | hq'
      · exact absurd hbit hnojj
      · rw [upd1_self, upd1_ne _ _ (hne k' hq')]
        exact h.vd k' hq' hL' t hd
    · rcases List.mem_cons.1 hk' with rfl | hq'
      · exact absurd hbit (hnokj k hq)
      · rw [upd1_ne _ _ (hne k hq), upd1_ne _ _ (hne k' hq')]
        exact h.V k hq k' hq' hL hL' t ht hd hbit
  case O =>
    intro k hk hL t ht hno
    rcases List.mem_cons.1 hk with rfl | hk
    · rw [upd1_self]
      refine h.tr t fun k' hk' hL' hd => ?_
      have := hno k' (by simp [hk']) hL' hd
      rw [(hp k' hk').rd t hd ht] at this
      cases this
    · rw [upd1_ne _ _ (hne k hk)]
      exact h.O k hk hL t ht fun k' hk' hL' hd => hno k' (by simp [hk']) hL' hd
  case rc =>
    intro k hk hL
    rcases List.mem_cons.1 hk with rfl | hk
    · rw [upd1_self, upd1_self, upd1_self]; exact hrec
    · rw [upd1_ne _ _ (hne k hk), upd1_ne _ _ (hne k hk), upd1_ne _ _ (hne k hk)]
      rcases h.rc k hk hL with h1 | ⟨h1, h2 | ⟨h2, h3, p, hp1, hp2⟩ | ⟨h2, m, av, h3, h4, h5, h6, h7⟩⟩
      · exact .inl h1
      · exact .inr ⟨h1, .inl ⟨h2.1, by rw [← h2.2]; exact pure_indep h2.1 _ _ _⟩⟩
      · exact .inr ⟨h1, .inr (.inl ⟨h2, look_mono hsle h3, p, hpd p hp1, hp2⟩)⟩
      · exact .inr ⟨h1, .inr (.inr ⟨h2, m, av, h3, h4, hsle _ _ h5, h6, h7⟩)⟩
  case ids =>
    intro k hk k' hk' hL hL' hkk hka hka' hw hw'
    have live : ∀ k ∈ pre, ¬ L k.i → kind E k.o.op = .alloc → wanted k.o ops (tmk k.i) = true → ∃ m, s.h.find (idk k.i) = some m := fun k hk hL hka hw => by
      rcases h.rc k hk hL with h1 | ⟨_, h2 | ⟨h2, _⟩ | ⟨_, m, av, _, _, h5, _⟩⟩
      · rw [h1.1] at hw; cases hw
      · rw [h2.1] at hka; cases hka
      · rw [h2] at hka; cases hka
      · exact ⟨m, h5⟩
    rcases List.mem_cons.1 hk with rfl | hq
    · rcases List.mem_cons.1 hk' with rfl | hq'
      · exact absurd rfl hkk
      · rw [upd1_ne _ _ (hne k' hq')] at hw'
        rw [upd1_self, upd1_ne _ _ (hne k' hq')]
        obtain ⟨m, hm⟩ := live k' hq' hL' hka' hw'
        exact Ne.symm (hid hka _ m hm)
    · rw [upd1_ne _ _ (hne k hq)] at hw
      rcases List.mem_cons.1 hk' with rfl | hq'
      · rw [upd1_self, upd1_ne _ _ (hne k hq)]
        obtain ⟨m, hm⟩ := live k hq hL hka hw
        exact hid hka' _ m hm
      · rw [upd1_ne _ _ (hne k' hq')] at hw'
        rw [upd1_ne _ _ (hne k hq), upd1_ne _ _ (hne k' hq')]
        exact h.ids k hq k' hq' hL hL' hkk hka hka' hw hw'
  case pdm =>
    intro p hp1
    rcases hpd1 p hp1 with h1 | ⟨h1, h2⟩
    · obtain ⟨q1, q2⟩ := h.pdm p h1; exact ⟨by simp [q1], q2⟩
    · rw [h1]; exact ⟨by simp, h2⟩
end
end Go.Proofs.YtpmehdggikjkfaaGreatDoor.Rf
