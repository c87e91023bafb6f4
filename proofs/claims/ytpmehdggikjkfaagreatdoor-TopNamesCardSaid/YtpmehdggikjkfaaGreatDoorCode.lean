/- Control, and functions. -/
import Derived.Test.YtpmehdggikjkfaaGreatDoorRegM
namespace Go.Proofs.YtpmehdggikjkfaaGreatDoor.Rf
open Go
def exitOf : Ex → Exit
  | .normal => .normal
  | .exit i => .exit i
  | .ret => .ret
def Post (E : Env) (nt : Nat) (ds : List Deferred) (β : Bt) (s : S) (W : World) (ex : Ex) (tm' : TM) (s' : S) : Exit → Act → World → Prop :=
  fun e a' W' => e = exitOf ex ∧ nt ≤ a'.tmps.size ∧ a'.defers = ds ∧ ∃ β', TR β' tm' a' ∧ Step E.ng β s W β' s' W'
theorem least (p : Nat → Prop) : ∀ n, p n → ∃ m, p m ∧ ∀ k, k < m → ¬ p k := by
  intro n
  induction n using Nat.strongRecOn with
  | _ n ih =>
    intro h
    by_cases hk : ∃ k, k < n ∧ p k
    · obtain ⟨k, h1, h2⟩ := hk; exact ih k h1 h2
    · exact ⟨n, h, fun k h1 h2 => hk ⟨k, h1, h2⟩⟩
section
variable {P : Program} {E : Env}
theorem Post.trans {nt : Nat} {ds : List Deferred} {β β1 : Bt} {s s1 : S} {W W1 : World} {ex : Ex} {tm' : TM} {s' : S} (h : Step E.ng β s W β1 s1 W1) {e : Exit} {a' : Act} {W' : World} (hp : Post E nt ds β1 s1 W1 ex tm' s' e a' W') : Post E nt ds β s W ex tm' s' e a' W' := by
  obtain ⟨h1, h2, h3, β', h4, h5⟩ := hp
  exact ⟨h1, h2, h3, β', h4, h.trans h5⟩
theorem code_wp (hE : EnvOk P E) (hm : P.follows .mixedOrders = true) {F : FF} (hF : SimF P E F) {nt : Nat} : ∀ (c : Code) (n : Nat) {tm tm' : TM} {s s' : S} {ex : Ex} {a : Act} {W : World} {β : Bt}, codeOk E nt c = true → nt ≤ a.tmps.size →
    WR E.ng β s W → TR β tm a → evC E F (evL E F n) c tm s = some (ex, tm', s') → c.wp P (Post E nt a.defers β s W ex tm' s') a W := by
  intro c
  induction c with
  | skip => intro n tm tm' s s' ex a W β _ hn hw ht h; cases h; exact wp_skip ⟨rfl, hn, rfl, β, ht, Step.refl hw⟩
  | label l => intro n tm tm' s s' ex a W β _ hn hw ht h; cases h; exact wp_label ⟨rfl, hn, rfl, β, ht, Step.refl hw⟩
  | exit i => intro n tm tm' s s' ex a W β _ hn hw ht h; cases h; exact wp_exit ⟨rfl, hn, rfl, β, ht, Step.refl hw⟩
  | ret => intro n tm tm' s s' ex a W β _ hn hw ht h; cases h; exact wp_ret ⟨rfl, hn, rfl, β, ht, Step.refl hw⟩
  | region id ops dr =>
    intro n tm tm' s s' ex a W β hok hn hw ht h
    simp only [codeOk, Bool.and_eq_true, List.all_eq_true] at hok
    simp only [evC] at h
    split at h
    · split at h
      case h_2 => cases h
      rename_i tm1 s1 hev
      cases h
      exact wp_region_list (ops_wp hE hF ops.toList hok.1 hn hw ht hev fun a' β' W' h1 h2 h3 h4 => ⟨rfl, by rw [h1]; exact hn, h2, β', h3, h4⟩)
    · split at h
      case h_1 => cases h
      rename_i h33
      split at h
      case h_2 => cases h
      rename_i tm1 s1 hev
      cases h
      have hreg : regOk E ops.toList = true := by
        have := hok.2
        simp only [Bool.not_true, Bool.false_or, h33] at this
        exact this
      exact draw_wp hE hm hF hok.1 hreg hn hw ht hev fun a' β' W' h1 h2 h3 h4 => ⟨rfl, by rw [h1]; exact hn, h2, β', h3, h4⟩
  | seq x y ihx ihy =>
    intro n tm tm' s s' ex a W β hok hn hw ht h
    simp only [codeOk, Bool.and_eq_true] at hok
    simp only [evC] at h
    refine wp_seq ?_
    split at h
    · rename_i tm1 s1 hx
      refine Code.wp_mono (fun e a1 W1 hp => ?_) (ihx n hok.1 hn hw ht hx)
      obtain ⟨rfl, h1, h2, β1, h3, h4⟩ := hp
      show y.wp P _ a1 W1
      refine Code.wp_mono (fun e a2 W2 hp2 => ?_) (ihy n hok.2 h1 h4.wr h3 h)
      rw [h2] at hp2
      exact Post.trans h4 hp2
    · rename_i hne
      refine Code.wp_mono (fun e a1 W1 hp => ?_) (ihx n hok.1 hn hw ht h)
      have hp' := hp
      obtain ⟨rfl, _⟩ := hp
      cases ex with
      | normal => exact absurd h (hne _ _)
      | exit i => exact hp'
      | ret => exact hp'
  | cond c x y ihx ihy =>
    intro n tm tm' s s' ex a W β hok hn hw ht h
    simp only [codeOk, Bool.and_eq_true] at hok
    simp only [evC] at h
    have hc := operand_rel ht hw hok.1
    split at h
    · rename_i hb
      rw [hb] at hc
      have : a.eval c = .bool true := by generalize a.eval c = q at hc; cases hc; rfl
      exact wp_cond_true this (ihx n hok.2.1 hn hw ht h)
    · rename_i hb
      rw [hb] at hc
      have : a.eval c = .bool false := by generalize a.eval c = q at hc; cases hc; rfl
      exact wp_cond_false this (ihy n hok.2.2 hn hw ht h)
    · cases h
  | block i c ih =>
    intro n tm tm' s s' ex a W β hok hn hw ht h
    simp only [codeOk] at hok
    simp only [evC] at h
    refine wp_block ?_
    split at h
    · rename_i j tm1 s1 hx
      refine Code.wp_mono (fun e a1 W1 hp => ?_) (ih n hok hn hw ht hx)
      obtain ⟨rfl, h1⟩ := hp
      split at h
      · rename_i hj
        rw [beq_iff] at hj
        cases h
        show (if j = i then _ else _)
        rw [if_pos hj]
        exact ⟨rfl, h1⟩
      · rename_i hj
        cases h
        show (if j = i then _ else _)
        rw [if_neg (fun e => by rw [beq_of e] at hj; cases hj)]
        exact ⟨rfl, h1⟩
    · rename_i hne
      refine Code.wp_mono (fun e a1 W1 hp => ?_) (ih n hok hn hw ht h)
      have hp' := hp
      obtain ⟨rfl, _⟩ := hp
      cases ex with
      | normal => exact hp'
      | exit j => exact absurd h (hne _ _ _)
      | ret => exact hp'
  | scope c ih =>
    intro n tm tm' s s' ex a W β hok hn hw ht h
    simp only [codeOk] at hok
    simp only [evC] at h
    refine wp_scope_straight ?_
    refine Code.wp_mono (fun e a1 W1 hp => ?_) (ih n hok hn hw ht h)
    have hp' := hp
    obtain ⟨rfl, _⟩ := hp
    cases ex <;> exact hp'
  | loop c ih =>
    intro n tm tm' s s' ex a W β hok hn hw ht h
    simp only [codeOk] at hok
    have h' : evL E F (n + 1) c tm s = some (ex, tm', s') := h
    let J : Nat → Act → World → Prop := fun m a1 W1 => ∃ tm1 s1 β1, nt ≤ a1.tmps.size ∧ a1.defers = a.defers ∧ TR β1 tm1 a1 ∧ Step E.ng β s W β1 s1 W1 ∧ evL E F m c tm1 s1 = some (ex, tm', s')
    let I : Act → World → Prop := fun a1 W1 => ∃ m, J m a1 W1
    let μ : Act → World → Nat := fun a1 W1 => Classical.epsilon (fun m => J m a1 W1 ∧ ∀ k, k < m → ¬ J k a1 W1)
    have hμ : ∀ a1 W1, I a1 W1 → J (μ a1 W1) a1 W1 ∧ ∀ k, k < μ a1 W1 → ¬ J k a1 W1 := fun a1 W1 ⟨m, hm⟩ =>
      Classical.epsilon_spec (p := fun m => J m a1 W1 ∧ ∀ k, k < m → ¬ J k a1 W1) (least (fun m => J m a1 W1) m hm)
    refine wp_loop I μ ⟨n + 1, tm, s, β, hn, rfl, ht, Step.refl hw, h'⟩ ?_
    intro a1 W1 hI
    obtain ⟨⟨tm1, s1, β1, q1, q2, q3, q4, q5⟩, hmin⟩ := hμ a1 W1 hI
    cases hmu : μ a1 W1 with
    | zero => rw [hmu] at q5; cases q5
    | succ m =>
      rw [hmu] at q5
      simp only [evL] at q5
      split at q5
      · rename_i tm2 s2 hx
        refine Code.wp_mono (fun e a2 W2 hp => ?_) (ih m hok q1 q4.wr q3 hx)
        obtain ⟨rfl, h1, h2, β2, h3, h4⟩ := hp
        have hJ : J m a2 W2 := ⟨tm2, s2, β2, h1, by rw [h2, q2], h3, q4.trans h4, q5⟩
        refine ⟨⟨m, hJ⟩, ?_⟩
        obtain ⟨_, hmin2⟩ := hμ a2 W2 ⟨m, hJ⟩
        rcases Nat.lt_or_ge m (μ a2 W2) with hlt | hge
        · exact absurd hJ (hmin2 m hlt)
        · omega
      · rename_i hne
        refine Code.wp_mono (fun e a2 W2 hp => ?_) (ih m hok q1 q4.wr q3 q5)
        rw [q2] at hp
        have hp' := Post.trans q4 hp
        obtain ⟨rfl, _⟩ := hp
        cases ex with
        | normal => exact absurd q5 (hne _ _)
        | exit j => exact hp'
        | ret => exact hp'
  | _ => intro n tm tm' s s' ex a W β _ hn hw ht h; cases h
end
end Go.Proofs.YtpmehdggikjkfaaGreatDoor.Rf
