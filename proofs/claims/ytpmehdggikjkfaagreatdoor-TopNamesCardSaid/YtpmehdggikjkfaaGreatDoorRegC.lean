/- Regions that ask the tape for their order: the state of a walk. -/
import Derived.Test.YtpmehdggikjkfaaGreatDoorRegA
namespace Go.Proofs.YtpmehdggikjkfaaGreatDoor.Rf
open Go
theorem pure_indep {E : Env} {o : Oper} (h : kind E o.op = .pure) (tm : TM) (s s' : S) : evLook E o tm s = evLook E o tm s' := by
  obtain ⟨dst, op, type, pos, after, guard⟩ := o
  cases op <;> first
    | rfl
    | (simp only [kind] at h; cases h; done)
    | skip
  case convert src d x =>
    simp only [kind] at h
    split at h
    · split at h <;> cases h
    · split at h
      · cases h
      · rename_i hs hstr
        simp only [evLook]
        cases hsrc : E.tys.find src with
        | none => rfl
        | some ts =>
          cases hd : E.tys.find d with
          | none => rfl
          | some ti =>
            simp only []
            cases hdd : ti.desc <;> first
              | rfl
              | (simp only [isStrD, hd, hdd] at hstr; cases hstr; done)
              | (cases evalO tm x <;> rfl)
  case call c =>
    simp only [kind] at h
    cases hc : c.callee with
    | value f => rw [hc] at h; cases h
    | invoke r m => simp only [evLook, hc]
    | builtin b =>
      rw [hc] at h
      have key : ∀ (l1 : List Operand) (l2 : List TypeId), c.args.toList = l1 → c.argTypes.toList = l2 → evLook E ⟨dst, .call c, type, pos, after, guard⟩ tm s = evLook E ⟨dst, .call c, type, pos, after, guard⟩ tm s' := fun l1 l2 e1 e2 => by
        simp only [evLook, hc, e1, e2]
        cases b <;> first
          | (cases h; done)
          | (cases l1 with
            | nil => rfl
            | cons x r => cases r with
              | nil => cases l2 <;> rfl
              | cons y q => cases q <;> cases l2 <;> rfl)
      exact key _ _ rfl rfl
structure Inv (E : Env) (ops : List Oper) (nt : Nat) (ds : List Deferred) (sz : Nat) (β0 : Bt) (s0 : S) (W0 : World) (pre : List It) (L : Nat → Prop) (val : Nat → Value) (tmk : Nat → TM) (idk : Nat → Nat)
    (tm : TM) (s : S) (pd : List Pn) (β : Bt) (a : Act) (W : World) : Prop where
  sub : ∀ j, L j → ∃ k ∈ pre, k.i = j
  cl : Cl ops L
  pw : pre.Pairwise (fun j k => Pair ops k j)
  pcl : ∀ k ∈ pre, ∀ e ∈ k.o.after.toList, Region.binds .any e = true → ∃ k' ∈ pre, k'.i = e.on
  mem : ∀ k ∈ pre, ops[k.i]? = some k.o ∧ Msk ops k.o k.b
  step : Step E.ng β0 s0 W0 β s W
  size : nt ≤ a.tmps.size
  szz : a.tmps.size = sz
  dfs : a.defers = ds
  tr : ∀ t, (∀ k ∈ pre, ¬ L k.i → k.o.dst ≠ some t) → VR β (evalO tm (.tmp t)) (a.eval (.tmp t))
  vd : ∀ k ∈ pre, ¬ L k.i → ∀ d, k.o.dst = some d → evalO tm (.tmp d) = val k.i
  V : ∀ k ∈ pre, ∀ k' ∈ pre, ¬ L k.i → ¬ L k'.i → ∀ t ∈ names ops k.o, k'.o.dst = some t → Nat.testBit k.b k'.i = true → evalO (tmk k.i) (.tmp t) = val k'.i
  O : ∀ k ∈ pre, ¬ L k.i → ∀ t ∈ names ops k.o, (∀ k' ∈ pre, ¬ L k'.i → k'.o.dst = some t → Nat.testBit k.b k'.i = false) → VR β (evalO (tmk k.i) (.tmp t)) (a.eval (.tmp t))
  rc : ∀ k ∈ pre, ¬ L k.i → (wanted k.o ops (tmk k.i) = false ∧ val k.i = undef) ∨ (wanted k.o ops (tmk k.i) = true ∧
    ((kind E k.o.op = .pure ∧ evLook E k.o (tmk k.i) s = some (val k.i)) ∨ (kind E k.o.op = .look ∧ evLook E k.o (tmk k.i) s = some (val k.i) ∧ ∃ p ∈ pd, p.j = k ∧ p.tm = tmk k.i ∧ p.v = val k.i) ∨
      (kind E k.o.op = .alloc ∧ ∃ m av, evAlloc E k.o (tmk k.i) = some (m, av) ∧ val k.i = av.at (idk k.i) ∧ s.h.find (idk k.i) = some m ∧ β (idk k.i) = none ∧ s0.n ≤ idk k.i)))
  ids : ∀ k ∈ pre, ∀ k' ∈ pre, ¬ L k.i → ¬ L k'.i → k.i ≠ k'.i → kind E k.o.op = .alloc → kind E k'.o.op = .alloc → wanted k.o ops (tmk k.i) = true → wanted k'.o ops (tmk k'.i) = true → idk k.i ≠ idk k'.i
  pdm : ∀ p ∈ pd, p.j ∈ pre ∧ isPure E p.j.o = false
/- Regions that ask the tape for their order: what is looked at stays when a block is made. -/
def Sle (s s' : S) : Prop := ∀ i m, s.h.find i = some m → s'.h.find i = some m
theorem sle_newB {s : S} (h : s.h.find s.n = none) (m : MO) : Sle s (newB s m) := fun i m' e => by
  rw [newB_find, if_neg]
  · exact e
  · rintro rfl; rw [h] at e; cases e
theorem loadN_mono {s s' : S} (h : Sle s s') {a : Addr} {n : Nat} {l : List Value} (e : loadN s a n = some l) : loadN s' a n = some l := by
  unfold loadN at *
  split at e
  · rename_i c g hf
    rw [h _ _ hf]; exact e
  · cases e
theorem look_mono {E : Env} {s s' : S} (h : Sle s s') {o : Oper} {tm : TM} {v : Value} (e : evLook E o tm s = some v) : evLook E o tm s' = some v := by
  obtain ⟨dst, op, type, pos, after, guard⟩ := o
  cases op with
  | load t a =>
    simp only [evLook] at e ⊢
    split at e
    case h_2 => cases e
    rename_i ad ha
    split at e
    case h_2 => cases e
    rename_i ti hti
    try simp only [hti]
    split at e
    · rename_i hag
      try simp only [hag]
      split at e
      case h_2 => cases e
      rename_i l hl
      rw [loadN_mono h hl]; exact e
    · rename_i hag
      try simp only [hag]
      split at e
      case h_2 => cases e
      rename_i w hl
      rw [loadN_mono h hl]; exact e
  | convert src d x =>
    simp only [evLook] at e ⊢
    split at e
    case h_2 => cases e
    rename_i ts ti hts hti
    try simp only [hts, hti]
    split at e
    · exact e
    · exact e
    · exact e
    · rename_i a n c hd hx
      split at e
      case h_2 => cases e
      rename_i ee hsd
      split at e
      case h_2 => cases e
      rename_i te hte
      split at e
      case h_2 => cases e
      rename_i hted
      try simp only [hsd, hte, hted]
      cases a with
      | none => exact e
      | some a =>
        simp only at e ⊢
        split at e
        case h_2 => cases e
        rename_i l hl
        rw [loadN_mono h hl]; exact e
    · cases e
  | lookup t x k ok =>
    simp only [evLook] at e ⊢
    split at e
    case h_2 => cases e
    rename_i ti m key hti hx hk
    try simp only [hti]
    split at e
    case h_2 => cases e
    rename_i ks hf
    rw [h _ _ hf]; exact e
  | call c =>
    simp only [evLook] at e ⊢
    split at e
    · rename_i x t rest hc ha hts
      split at e
      case h_2 => cases e
      rename_i ti hti
      try simp only [hti]
      split at e
      · exact e
      · exact e
      · exact e
      · exact e
      · rename_i k el m hd hx
        split at e
        case h_2 => cases e
        rename_i ks hf
        rw [h _ _ hf]; exact e
      · exact e
      · cases e
    · exact e
    · exact e
    · exact e
    · cases e
  | _ => exact e
end Go.Proofs.YtpmehdggikjkfaaGreatDoor.Rf
