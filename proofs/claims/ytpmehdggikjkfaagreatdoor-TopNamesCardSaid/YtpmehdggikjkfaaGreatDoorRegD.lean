/- Regions that ask the tape for their order: what is looked at stays when a block is made. -/
import Derived.Test.YtpmehdggikjkfaaGreatDoorRegC
namespace Go.Proofs.YtpmehdggikjkfaaGreatDoor.Rf
open Go
def Sle (s s' : S) : Prop := ∀ i m, s.h.find i = some m → s'.h.find i = some m
theorem sle_newB {s : S} (h : s.h.find s.n = none) (m : MO) : Sle s (newB s m) := fun i m' e => by
  rw [newB_find, if_neg]
  · exact e
  · rintro rfl; rw [h] at e; cases e
theorem loadN_mono {s s' : S} (h : Sle s s') {a : Addr} {n : Nat} {l : List Value} (e : loadN s a n = some l) : loadN s' a n = some l := by
  unfold loadN at *
  split at e
  · rename_i c g hf
    rw [h _ _ hf]; exact e
  · cases e
theorem look_mono {E : Env} {s s' : S} (h : Sle s s') {o : Oper} {tm : TM} {v : Value} (e : evLook E o tm s = some v) : evLook E o tm s' = some v := by
  obtain ⟨dst, op, type, pos, after, guard⟩ := o
  cases op with
  | load t a =>
    simp only [evLook] at e ⊢
    split at e
    case h_2 => cases e
    rename_i ad ha
    split at e
    case h_2 => cases e
    rename_i ti hti
    try simp only [hti]
    split at e
    · rename_i hag
      try simp only [hag]
      split at e
      case h_2 => cases e
      rename_i l hl
      rw [loadN_mono h hl]; exact e
    · rename_i hag
      try simp only [hag]
      split at e
      case h_2 => cases e
      rename_i w hl
      rw [loadN_mono h hl]; exact e
  | convert src d x =>
    simp only [evLook] at e ⊢
    split at e
    case h_2 => cases e
    rename_i ts ti hts hti
    try simp only [hts, hti]
    split at e
    · exact e
    · exact e
    · exact e
    · rename_i a n c hd hx
      split at e
      case h_2 => cases e
      rename_i ee hsd
      split at e
      case h_2 => cases e
      rename_i te hte
      split at e
      case h_2 => cases e
      rename_i hted
      try simp only [hsd, hte, hted]
      cases a with
      | none => exact e
      | some a =>
        simp only at e ⊢
        split at e
        case h_2 => cases e
        rename_i l hl
        rw [loadN_mono h hl]; exact e
    · cases e
  | lookup t x k ok =>
    simp only [evLook] at e ⊢
    split at e
    case h_2 => cases e
    rename_i ti m key hti hx hk
    try simp only [hti]
    split at e
    case h_2 => cases e
    rename_i ks hf
    rw [h _ _ hf]; exact e
  | call c =>
    simp only [evLook] at e ⊢
    split at e
    · rename_i x t rest hc ha hts
      split at e
      case h_2 => cases e
      rename_i ti hti
      try simp only [hti]
      split at e
      · exact e
      · exact e
      · exact e
      · exact e
      · rename_i k el m hd hx
        split at e
        case h_2 => cases e
        rename_i ks hf
        rw [h _ _ hf]; exact e
      · exact e
      · cases e
    · exact e
    · exact e
    · exact e
    · cases e
  | _ => exact e
end Go.Proofs.YtpmehdggikjkfaaGreatDoor.Rf
