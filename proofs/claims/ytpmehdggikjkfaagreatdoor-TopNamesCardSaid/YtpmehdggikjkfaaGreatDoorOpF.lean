/- Operations that change nothing: conversions, slices, lengths. -/
import Derived.Test.YtpmehdggikjkfaaGreatDoorOpE
namespace Go.Proofs.YtpmehdggikjkfaaGreatDoor.Rf
open Go
section
variable {P : Program} {E : Env} {W : World} {β : Bt} {s : S}
def byteV (b : UInt8) : Value := .int .u8 (b.toNat : Int)
theorem byteL_spec : ∀ (l : List Value) (q : List UInt8), byteL l = some q → l = q.map byteV
  | [], q, h => by cases h; rfl
  | v :: r, q, h => by
    unfold byteL at h
    split at h
    · rename_i hv; cases hv
    · rename_i n r' hv
      cases hv
      split at h
      · rename_i q' hn hq
        cases h
        rw [byteL_spec r q' hq]
        rw [blt_iff] at hn
        have : (UInt8.ofNat n).toNat = n := by simp; omega
        simp only [List.map_cons, byteV, this]; rfl
      · cases h
    · cases h
theorem bytesL_eq : ∀ (q : List UInt8), bytesL q = q.map byteV
  | [] => rfl
  | b :: r => by simp [bytesL, byteV, bytesL_eq r]
theorem VRs.bytes : ∀ {q : List UInt8} {ws : List Value}, VRs β (q.map byteV) ws → ws = q.map byteV
  | [], _, h => by cases h; rfl
  | n :: ns, _, h => by cases h with | cons h r => cases h; rw [VRs.bytes r]; rfl
theorem cells_loaded (h : WR E.ng β s W) {i b R o n : Nat} {l : List Value} (hb : β i = some (b, R)) {sp : Option Nat} (hl : loadN s ⟨i, o, sp⟩ n = some l) :
    ∃ ws, VRs β l ws ∧ ws.length = n ∧ ∀ j v, ws[j]? = some v → W.cell? ⟨b, o + j, none⟩ = some v := by
  simp only [loadN] at hl
  split at hl
  · rename_i c g hf
    obtain ⟨cs, ty, fr, h1, h2, _, _⟩ := h.rel i _ b R hf hb
    obtain ⟨ws, a1, a2, a3⟩ := cells_of_get h2 n o l hl
    refine ⟨ws, a1, a2, fun j v hj => ?_⟩
    have hlt := (List.getElem?_eq_some_iff.1 hj).1
    rw [cell_at h1, a3 j (by omega), hj]
  · cases hl
theorem look_convert (hE : EnvOk P E) (hw : WR E.ng β s W) {src dst : TypeId} {x x' v : Value} (hx : VR β x x') (h : (match (generalizing := false) E.tys.find src, E.tys.find dst with
    | some ts, some ti => match (generalizing := false) ti.desc, x with
      | .int k, .int _ n => some (Value.int k (wr k n))
      | .string, .string b => some (.string b)
      | .string, .int _ (.ofNat n) => match (generalizing := false) Nat.blt n 128 with
        | true => some (.string ⟨⟨[UInt8.ofNat n]⟩⟩)
        | false => none
      | .string, .slice a n _ => match (generalizing := false) ts.desc with
        | .slice e => match (generalizing := false) E.tys.find e with
          | some te => match (generalizing := false) te.desc with
            | .int .u8 => match (generalizing := false) a with
              | none => some (.string ⟨⟨[]⟩⟩)
              | some a => match (generalizing := false) loadN s a n with
                | some l => match (generalizing := false) byteL l with
                  | some q => some (.string ⟨⟨q⟩⟩)
                  | none => none
                | none => none
            | _ => none
          | none => none
        | _ => none
      | _, _ => none
    | _, _ => none) = some v) : ∃ v', (convert src dst x').run P W = .ok v' W ∧ VR β v v' := by
  split at h
  case h_2 => cases h
  rename_i ts ti hts hti
  obtain ⟨_, _, hus, _⟩ := hE.info hts
  obtain ⟨_, _, hud, _⟩ := hE.info hti
  split at h
  · rename_i k k' n hd
    cases hx; cases h
    rw [hd] at hud
    refine ⟨_, ?_, .int _ _⟩
    simp [convert, run_underlying hus, run_underlying hud, Conv.intToInt, wr_eq]
  · rename_i b hd
    cases hx; cases h
    rw [hd] at hud
    refine ⟨_, ?_, .string _⟩
    simp [convert, run_underlying hus, run_underlying hud]
  · rename_i k n hd
    cases hx
    split at h
    case h_2 => cases h
    rename_i hn
    cases h
    rw [blt_iff] at hn
    rw [hd] at hud
    refine ⟨_, ?_, .string _⟩
    have he : Utf8.encode (n : Int) = ⟨⟨[UInt8.ofNat n]⟩⟩ := by
      have hv : Utf8.valid (n : Int) = true := by
        simp [Utf8.valid]
        omega
      simp only [Utf8.encode, hv, if_true, Int.toNat_natCast]
      rw [if_pos hn]
    simp [convert, run_underlying hus, run_underlying hud, Conv.intToString, he]
  · rename_i a n c hd
    split at h
    case h_2 => cases h
    rename_i e hsd
    split at h
    case h_2 => cases h
    rename_i te hte
    obtain ⟨_, _, hue, _⟩ := hE.info hte
    split at h
    case h_2 => cases h
    rename_i hted
    rw [hsd] at hus
    rw [hd] at hud
    rw [hted] at hue
    cases hx with
    | snil n c hc =>
      cases h
      refine ⟨_, ?_, .string _⟩
      rw [run_convert_bytes_string W src dst e none n c hus hue hud]
      simp [Conv.bytesToString]; rfl
    | @sl i0 b R o o' n c c' hb hs =>
      simp only at h
      split at h
      case h_2 => cases h
      rename_i l hl
      split at h
      case h_2 => cases h
      rename_i q hq
      cases h
      obtain ⟨ws, w1, w2, w3⟩ := cells_loaded hw hb hl
      rw [byteL_spec l q hq] at w1
      have hws := w1.bytes
      subst hws
      refine ⟨_, ?_, .string _⟩
      have hlen : n = q.length := by simpa using w2.symm
      subst hlen
      have hrun := run_convert_bytes_back (P := P) W src dst e ⟨b, o', none⟩ c' q hus hue hud (fun j hj => by
        rw [add_mk]
        rcases hs with ⟨_, _, e1⟩ | ⟨e1, _⟩ | ⟨_, _, e1, _⟩
        · subst e1; exact w3 j _ (by rw [List.getElem?_map, List.getElem?_eq_getElem hj]; rfl)
        · subst e1; exact w3 j _ (by rw [List.getElem?_map, List.getElem?_eq_getElem hj]; rfl)
        · omega)
      exact hrun
  · cases h
end
end Go.Proofs.YtpmehdggikjkfaaGreatDoor.Rf
