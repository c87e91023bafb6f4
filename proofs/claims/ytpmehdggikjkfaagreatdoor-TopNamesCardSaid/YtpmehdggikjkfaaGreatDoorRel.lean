/- What ties the evaluator's model heap to a world: values, blocks, and what a step keeps. -/
import Derived.Test.YtpmehdggikjkfaaGreatDoorEvB
namespace Go.Proofs.YtpmehdggikjkfaaGreatDoor.Rf
open Go
theorem beq_of {n m : Nat} (h : n = m) : Nat.beq n m = true := by subst h; exact Nat.beq_refl n
theorem beq_not {n m : Nat} (h : n ≠ m) : Nat.beq n m = false := by cases hb : Nat.beq n m with | false => rfl | true => exact absurd (Nat.eq_of_beq_eq_true hb) h
/-! ### the tries -/
namespace T
variable {α : Type}
theorem find_nil (n : Nat) : (T.nil : T α).find n = none := rfl
theorem find_node (l r : T α) (v : Option α) (n : Nat) : (T.node l v r).find n = if n = 0 then v else if n % 2 = 1 then l.find (n / 2) else r.find (n / 2 - 1) := by
  show (Bool.rec (motive := fun _ => Option α) (Bool.rec (motive := fun _ => Option α) (r.find (n / 2 - 1)) (l.find (n / 2)) (Nat.beq (n % 2) 1)) v (Nat.beq n 0)) = _
  by_cases h0 : n = 0
  · subst h0; rfl
  · rw [beq_not h0, if_neg h0]
    by_cases h1 : n % 2 = 1
    · rw [if_pos h1, beq_of h1]
    · rw [if_neg h1, beq_not h1]
theorem ins1_succ (f n : Nat) (o : Option α) : ins1 (f + 1) n o = if n = 0 then T.node .nil o .nil else if n % 2 = 1 then T.node (ins1 f (n / 2) o) none .nil else T.node .nil none (ins1 f (n / 2 - 1) o) := by
  show (Bool.rec (motive := fun _ => T α) (Bool.rec (motive := fun _ => T α) (.node .nil none (ins1 f (n / 2 - 1) o)) (.node (ins1 f (n / 2) o) none .nil) (Nat.beq (n % 2) 1)) (.node .nil o .nil) (Nat.beq n 0)) = _
  by_cases h0 : n = 0
  · subst h0; rfl
  · rw [beq_not h0, if_neg h0]
    by_cases h1 : n % 2 = 1
    · rw [if_pos h1, beq_of h1]
    · rw [if_neg h1, beq_not h1]
theorem ins_node (l r : T α) (v o : Option α) (n : Nat) : (T.node l v r).ins n o = if n = 0 then T.node l o r else if n % 2 = 1 then T.node (l.ins (n / 2) o) v r else T.node l v (r.ins (n / 2 - 1) o) := by
  show (Bool.rec (motive := fun _ => T α) (Bool.rec (motive := fun _ => T α) (.node l v (r.ins (n / 2 - 1) o)) (.node (l.ins (n / 2) o) v r) (Nat.beq (n % 2) 1)) (.node l o r) (Nat.beq n 0)) = _
  by_cases h0 : n = 0
  · subst h0; rfl
  · rw [beq_not h0, if_neg h0]
    by_cases h1 : n % 2 = 1
    · rw [if_pos h1, beq_of h1]
    · rw [if_neg h1, beq_not h1]
theorem find_ins1 (o : Option α) : ∀ (f n m : Nat), n < f → (ins1 f n o).find m = if m = n then o else none := by
  intro f
  induction f with
  | zero => intro n m h; omega
  | succ f ih =>
    intro n m h
    rw [ins1_succ]
    by_cases h0 : n = 0
    · subst h0
      rw [if_pos rfl, find_node]
      by_cases hm : m = 0
      · simp [hm]
      · simp [hm, find_nil]
    · rw [if_neg h0]
      by_cases h1 : n % 2 = 1
      · rw [if_pos h1, find_node, ih (n / 2) (m / 2) (by omega)]
        by_cases hm : m = 0
        · rw [if_pos hm, if_neg (by omega)]
        · rw [if_neg hm]
          by_cases hm1 : m % 2 = 1
          · rw [if_pos hm1]
            by_cases e : m = n
            · rw [if_pos e, if_pos (by omega)]
            · rw [if_neg e, if_neg (by omega)]
          · rw [if_neg hm1, find_nil, if_neg (by omega)]
      · rw [if_neg h1, find_node, ih (n / 2 - 1) (m / 2 - 1) (by omega)]
        by_cases hm : m = 0
        · rw [if_pos hm, if_neg (by omega)]
        · rw [if_neg hm]
          by_cases hm1 : m % 2 = 1
          · rw [if_pos hm1, find_nil, if_neg (by omega)]
          · rw [if_neg hm1]
            by_cases e : m = n
            · rw [if_pos e, if_pos (by omega)]
            · rw [if_neg e, if_neg (by omega)]
theorem find_ins (o : Option α) : ∀ (t : T α) (n m : Nat), (t.ins n o).find m = if m = n then o else t.find m := by
  intro t
  induction t with
  | nil => intro n m; exact find_ins1 o (n + 1) n m (by omega)
  | node l v r ihl ihr =>
    intro n m
    rw [ins_node]
    by_cases h0 : n = 0
    · subst h0
      rw [if_pos rfl, find_node, find_node]
      by_cases hm : m = 0 <;> simp [hm]
    · rw [if_neg h0]
      by_cases h1 : n % 2 = 1
      · rw [if_pos h1, find_node, find_node, ihl]
        by_cases hm : m = 0
        · rw [if_pos hm, if_pos hm, if_neg (by omega)]
        · rw [if_neg hm, if_neg hm]
          by_cases hm1 : m % 2 = 1
          · rw [if_pos hm1, if_pos hm1]
            by_cases e : m = n
            · rw [if_pos e, if_pos (by omega)]
            · rw [if_neg e, if_neg (by omega)]
          · rw [if_neg hm1, if_neg hm1, if_neg (by omega)]
      · rw [if_neg h1, find_node, find_node, ihr]
        by_cases hm : m = 0
        · rw [if_pos hm, if_pos hm, if_neg (by omega)]
        · rw [if_neg hm, if_neg hm]
          by_cases hm1 : m % 2 = 1
          · rw [if_pos hm1, if_pos hm1, if_neg (by omega)]
          · rw [if_neg hm1, if_neg hm1]
            by_cases e : m = n
            · rw [if_pos e, if_pos (by omega)]
            · rw [if_neg e, if_neg (by omega)]
theorem find_ins_self (o : Option α) (t : T α) (n : Nat) : (t.ins n o).find n = o := by rw [find_ins, if_pos rfl]
theorem find_ins_ne (o : Option α) (t : T α) {n m : Nat} (h : m ≠ n) : (t.ins n o).find m = t.find m := by rw [find_ins, if_neg h]
theorem find_ofList : ∀ (l : List α) (i : Nat) (t : T α) (m : Nat), (ofList l i t).find m = if i ≤ m ∧ m < i + l.length then l[m - i]? else t.find m := by
  intro l
  induction l with
  | nil => intro i t m; rw [if_neg (by simp only [List.length_nil]; omega)]; rfl
  | cons x r ih =>
    intro i t m
    show (ofList r (i + 1) (t.ins i (some x))).find m = _
    rw [ih]
    by_cases h : i + 1 ≤ m ∧ m < i + 1 + r.length
    · rw [if_pos h, if_pos (by simp; omega)]
      have : m - i = (m - (i + 1)) + 1 := by omega
      rw [this, List.getElem?_cons_succ]
    · rw [if_neg h]
      by_cases e : m = i
      · subst e
        rw [find_ins_self, if_pos (by simp)]
        simp
      · rw [find_ins_ne _ _ e, if_neg (by simp; omega)]
theorem find_list (l : List α) (m : Nat) : (ofList l 0 .nil).find m = l[m]? := by
  rw [find_ofList]
  by_cases h : m < l.length
  · rw [if_pos (by omega)]; simp
  · rw [if_neg (by omega), find_nil, List.getElem?_eq_none (by omega)]
end T
/-! ### values -/
abbrev Bt := Nat → Option (Nat × Nat)
/- a slice's place and room, in the model and in the world; 'R': the room that the tape drew for the block -/
def SR (R o o' n c c' : Nat) : Prop :=
  (c < lim ∧ c' = c ∧ o' = o) ∨ (o' = o ∧ ∃ l, l ≤ lim ∧ c = big - l ∧ l + n ≤ R ∧ c' = R - l) ∨ (lim ≤ c ∧ c < big ∧ n = 0 ∧ c' = 0)
mutual
inductive VR (β : Bt) : Value → Value → Prop
  | bool (b) : VR β (.bool b) (.bool b)
  | int (k n) : VR β (.int k n) (.int k n)
  | float (k n) : VR β (.float k n) (.float k n)
  | complex (k a b) : VR β (.complex k a b) (.complex k a b)
  | string (s) : VR β (.string s) (.string s)
  | pnil : VR β (.pointer none) (.pointer none)
  | ptr {i b R : Nat} (o) (h : β i = some (b, R)) : VR β (.pointer (some ⟨i, o, none⟩)) (.pointer (some ⟨b, o, none⟩))
  | snil (n c) (h : c < lim) : VR β (.slice none n c) (.slice none n c)
  | sl {i b R o o' n c c' : Nat} (h : β i = some (b, R)) (hs : SR R o o' n c c') : VR β (.slice (some ⟨i, o, none⟩) n c) (.slice (some ⟨b, o', none⟩) n c')
  | mnil : VR β (.map none) (.map none)
  | map {i b R : Nat} (h : β i = some (b, R)) : VR β (.map (some i)) (.map (some b))
  | nilIface : VR β .nilIface .nilIface
  | nilFunc : VR β .nilFunc .nilFunc
  | iface (t) {v w} (h : VR β v w) : VR β (.iface t v) (.iface t w)
  | func (f) {a b c d : List Value} (h1 : VRs β a c) (h2 : VRs β b d) : VR β (.func (.func f) ⟨a⟩ ⟨b⟩) (.func (.func f) ⟨c⟩ ⟨d⟩)
  | agg {a b : List Value} (h : VRs β a b) : VR β (.agg ⟨a⟩) (.agg ⟨b⟩)
  | tuple {a b : List Value} (h : VRs β a b) : VR β (.tuple ⟨a⟩) (.tuple ⟨b⟩)
inductive VRs (β : Bt) : List Value → List Value → Prop
  | nil : VRs β [] []
  | cons {v w a b} (h : VR β v w) (r : VRs β a b) : VRs β (v :: a) (w :: b)
end
def Sub (β β' : Bt) : Prop := ∀ i x, β i = some x → β' i = some x
theorem Sub.refl (β : Bt) : Sub β β := fun _ _ h => h
theorem Sub.trans {β β' β'' : Bt} (h : Sub β β') (h' : Sub β' β'') : Sub β β'' := fun i x e => h' i x (h i x e)
mutual
theorem VR.mono {β β' : Bt} (hs : Sub β β') : ∀ {v w}, VR β v w → VR β' v w
  | _, _, .bool b => .bool b
  | _, _, .int k n => .int k n
  | _, _, .float k n => .float k n
  | _, _, .complex k a b => .complex k a b
  | _, _, .string s => .string s
  | _, _, .pnil => .pnil
  | _, _, .ptr o h => .ptr o (hs _ _ h)
  | _, _, .snil n c h => .snil n c h
  | _, _, .sl h s => .sl (hs _ _ h) s
  | _, _, .mnil => .mnil
  | _, _, .map h => .map (hs _ _ h)
  | _, _, .nilIface => .nilIface
  | _, _, .nilFunc => .nilFunc
  | _, _, .iface t h => .iface t (VR.mono hs h)
  | _, _, .func f h1 h2 => .func f (VRs.mono hs h1) (VRs.mono hs h2)
  | _, _, .agg h => .agg (VRs.mono hs h)
  | _, _, .tuple h => .tuple (VRs.mono hs h)
theorem VRs.mono {β β' : Bt} (hs : Sub β β') : ∀ {v w}, VRs β v w → VRs β' v w
  | _, _, .nil => .nil
  | _, _, .cons h r => .cons (VR.mono hs h) (VRs.mono hs r)
end
section lists
variable {β : Bt}
theorem VRs.length : ∀ {a b : List Value}, VRs β a b → a.length = b.length
  | _, _, .nil => rfl
  | _, _, .cons _ r => by simp [r.length]
theorem VRs.append : ∀ {a b c d : List Value}, VRs β a b → VRs β c d → VRs β (a ++ c) (b ++ d)
  | _, _, _, _, .nil, h => h
  | _, _, _, _, .cons h r, h' => .cons h (r.append h')
theorem VRs.get : ∀ {a b : List Value}, VRs β a b → ∀ (i : Nat) v, a[i]? = some v → ∃ w, b[i]? = some w ∧ VR β v w
  | _, _, .nil, _, _, h => by simp at h
  | _, _, .cons h _, 0, v, e => by simp at e; subst e; exact ⟨_, rfl, h⟩
  | _, _, .cons _ r, i + 1, v, e => by simp at e; obtain ⟨w, h1, h2⟩ := r.get i v e; exact ⟨w, by simpa using h1, h2⟩
theorem VRs.take : ∀ {a b : List Value} (n : Nat), VRs β a b → VRs β (a.take n) (b.take n)
  | _, _, 0, _ => by simp; exact .nil
  | _, _, _ + 1, .nil => by simp; exact .nil
  | _, _, n + 1, .cons h r => by simp only [List.take_succ_cons]; exact .cons h (r.take n)
theorem VRs.drop : ∀ {a b : List Value} (n : Nat), VRs β a b → VRs β (a.drop n) (b.drop n)
  | _, _, 0, h => by simpa using h
  | _, _, _ + 1, .nil => by simp; exact .nil
  | _, _, n + 1, .cons _ r => by simp only [List.drop_succ_cons]; exact r.drop n
theorem VRs.map {f g : Operand → Value} : ∀ (l : List Operand), (∀ x ∈ l, VR β (f x) (g x)) → VRs β (l.map f) (l.map g)
  | [], _ => .nil
  | x :: r, h => .cons (h x (by simp)) (VRs.map r fun y hy => h y (by simp [hy]))
theorem VRs.rep {a b : List Value} (h : VRs β a b) : ∀ n, VRs β (rep a n) (rep b n)
  | 0 => .nil
  | n + 1 => h.append (VRs.rep h n)
theorem VR.asL {v w : Value} (h : VR β v w) : VRs β (asL v) (asL w) := by
  have h0 := h
  cases h with
  | agg h => exact h
  | _ => exact .cons h0 .nil
end lists
end Go.Proofs.YtpmehdggikjkfaaGreatDoor.Rf
