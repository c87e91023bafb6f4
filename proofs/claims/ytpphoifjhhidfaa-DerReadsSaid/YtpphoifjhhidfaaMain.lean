/- der.Right, der.Bytes, der.Of, der.Same as functions under guards. -/
import Derived.Test.YtpphoifjhhidfaaReadAll
namespace Go.Proofs.Ytpphoifjhhidfaa.Der
set_option linter.unusedVariables false
set_option linter.unusedSimpArgs false
open Go.RowKit
open Go.Proofs.YtpphoifjhhidfaaW.PrintWords
open Go.Proofs.YtpphoifjhhidfaaW.PrintLast
open Go.Proofs.YtpphoifjhhidfaaW.PrintMore
mutual
/-- No text is too long. -/
def txB : S24 → Bool
  | ⟨_, _, s, _, ts⟩ => decide (s.size < 9223372036854775807) && txBL ts
def txBL : List S24 → Bool
  | [] => true
  | t :: r => txB t && txBL r
end
mutual
theorem txB_tx : ∀ t : S24, txB t = true → txT t
  | ⟨_, _, s, _, ts⟩, h => by
    rw [txB, Bool.and_eq_true] at h
    rw [txT]
    exact ⟨by simpa using h.1, txBL_tx ts h.2⟩
theorem txBL_tx : ∀ ts : List S24, txBL ts = true → txL ts
  | [], _ => by rw [txL]; trivial
  | t :: r, h => by
    rw [txBL, Bool.and_eq_true] at h
    rw [txL]
    exact ⟨txB_tx t h.1, txBL_tx r h.2⟩
end
def okT (t : S24) : Bool := decide (szT t ≤ 4611686018427387904) && txB t
def sameF (t t' : S24) : Option Bool := if szT t ≤ 4611686018427387904 then some (sameT t t') else none
def rightF (t : S24) : Option Bool := if okT t = true then some (rightT t 20) else none
def bytesF (t : S24) : Option (List Int × Int) := if okT t = true then (if rightT t 20 = true then (wrO t).bind fun b => some (if 65536 < b.length then ([], 12) else (b, 0)) else some ([], 1)) else none
def ofF (l : List Int) : Option (Int × Int × ByteArray × Int × List S24 × Int) :=
  if (∀ x ∈ l, 0 ≤ x ∧ x ≤ 255) ∧ l.length ≤ 70368744177664 then
    (if 65536 < l.length then some (0, 0, e0, 0, [], 12)
     else (readO 20 l).bind fun r => match r with
      | none => some (0, 0, e0, 0, [], 2)
      | some (t, rest) => if rest.length = 0 then some (t.f0, t.f1, t.f2, t.f3, t.f4, 0) else some (0, 0, e0, 0, [], 2))
  else none
theorem same_of_f (t t' : S24) (A B : Option Addr) (c d : Nat) (r : Bool) (w : World) (hk : Kd.C k24 w A t.f4.length t.f4) (hc : t.f4.length ≤ c) (hk' : Kd.C k24 w B t'.f4.length t'.f4) (hd : t'.f4.length ≤ d) (h : sameF t t' = some r) : Calls Try.prog 21 #[nodeV t A c, nodeV t' B d] w fun e w' => e = .returned (.bool r) ∧ Below w.heap.size w w' := by
  unfold sameF at h
  split at h
  · rename_i hsz
    obtain rfl := Option.some.inj h
    exact same_calls t hsz t' A B c d w hk hc hk' hd
  · cases h
set_option maxHeartbeats 1000000 in
theorem right_of_f (t : S24) (A : Option Addr) (c : Nat) (r : Bool) (w : World) (hk : Kd.C k24 w A t.f4.length t.f4) (hc : t.f4.length ≤ c) (h : rightF t = some r) : Calls Try.prog 19 #[nodeV t A c] w fun e w' => e = .returned (.bool r) ∧ Below w.heap.size w w' := by
  unfold rightF at h
  split at h
  · rename_i hok
    obtain rfl := Option.some.inj h
    rw [okT, Bool.and_eq_true] at hok
    have h1 := Aside0.mk (right_calls t (by simpa using hok.1) (txB_tx t hok.2) 20)
    have hu24 := Try.underlying24
    replace hk := Aside0.mk hk
    clear hok
    dsimp only [nodeV]
    go_enter Try.func19, Try.ntmps19
    go_wp2_with (go_at_call 27; refine (h1.out A c _ (by omega) (Kd.C_below hk.out (below_alloc (Below.refl _ _) _)) hc).mono ?_; rintro e w3 ⟨rfl, hb⟩; have hb3 := Aside0.mk (below_step (below_alloc (Below.refl _ _) _) hb); clear hb)
    go_ret
    exact ⟨rfl, hb3.out⟩
  · cases h
set_option maxHeartbeats 2000000 in
theorem bytes_of_f (t : S24) (A : Option Addr) (c : Nat) (r1 : List Int) (r2 : Int) (w : World) (hk : Kd.C k24 w A t.f4.length t.f4) (hc : t.f4.length ≤ c) (h : bytesF t = some (r1, r2)) : Calls Try.prog 16 #[nodeV t A c] w fun e w' => ∃ v0_ : Value, e = .returned (.tuple #[v0_, .int .i64 r2]) ∧ Kd.R (Kd.int .u8) 5 w' w.heap.size (fun _ => True) v0_ r1 ∧ Below w.heap.size w w' := by
  unfold bytesF at h
  split at h
  · rename_i hok
    have hR := Aside0.mk (fun W => right_of_f t A c (rightT t 20) W)
    have hf : rightF t = some (rightT t 20) := by rw [rightF, if_pos hok]
    replace hf := Aside0.mk hf
    rw [okT, Bool.and_eq_true] at hok
    have hsz : szT t ≤ 4611686018427387904 := by simpa using hok.1
    clear hok
    have hu24 := Try.underlying24
    replace hk := Aside0.mk hk
    split at h
    · rename_i hrt
      obtain ⟨b, hb, h⟩ := Option.bind_eq_some_iff.mp h
      have hW := Aside0.mk (wr_calls t hsz b hb A c)
      rw [hrt] at hR hf
      clear hb hsz
      have h := Option.some.inj h
      by_cases hlen : 65536 < b.length
      · rw [if_pos hlen] at h
        have h1 : ([] : List Int) = r1 := congrArg Prod.fst h
        have h2 : (12 : Int) = r2 := congrArg Prod.snd h
        subst h1; subst h2
        have hlen2 : (65536 : Int) < (b.length : Int) := by omega
        dsimp only [nodeV]
        go_enter Try.func16, Try.ntmps16
        go_wp2_with (first
          | (go_at_call 25; refine Calls.mono (hW.out w3 (Kd.C_below hk.out HB3.out) hc) ?_; rintro e w4 ⟨v, rfl, hR4, hb⟩; obtain ⟨A4, c4, rfl, h4, h5⟩ := R_part hR4; have HB4 := Aside0.mk (below_step HB3.out hb); clear hb)
          | (go_at_call 19; refine Calls.mono (hR.out _ (Kd.C_below hk.out (below_alloc (Below.refl _ _) _)) hc hf.out) ?_; rintro e w3 ⟨rfl, hb⟩; have BK := Aside0.mk (blk_below (blk_new w _) hb); have HB3 := Aside0.mk (below_step (below_alloc (Below.refl _ _) _) hb); clear hb; have z0 : w3.cell? ⟨w.heap.size, 0, none⟩ = some (.int .i64 t.f0) := (blk_cell BK.out 0).trans rfl; have z1 : w3.cell? ⟨w.heap.size, 1, none⟩ = some (.int .i64 t.f1) := (blk_cell BK.out 1).trans rfl; have z2 : w3.cell? ⟨w.heap.size, 2, none⟩ = some (.string t.f2) := (blk_cell BK.out 2).trans rfl; have z3 : w3.cell? ⟨w.heap.size, 3, none⟩ = some (.int .i64 t.f3) := (blk_cell BK.out 3).trans rfl; have z4 : w3.cell? ⟨w.heap.size, 4, none⟩ = some (.slice A t.f4.length c) := (blk_cell BK.out 4).trans rfl))
        go_ret2
        exact ⟨_, rfl, Kd.R_nil _ _ _ _ _, HB4.out⟩
      · rw [if_neg hlen] at h
        have h1 : b = r1 := congrArg Prod.fst h
        have h2 : (0 : Int) = r2 := congrArg Prod.snd h
        subst h1; subst h2
        have hlen2 : ¬ ((65536 : Int) < (b.length : Int)) := by omega
        dsimp only [nodeV]
        go_enter Try.func16, Try.ntmps16
        go_wp2_with (first
          | (go_at_call 25; refine Calls.mono (hW.out w3 (Kd.C_below hk.out HB3.out) hc) ?_; rintro e w4 ⟨v, rfl, hR4, hb⟩; have m4 := Aside0.mk (Kd.R_lower hR4 HB3.out.size); obtain ⟨A4, c4, rfl, h4, h5⟩ := R_part hR4; have HB4 := Aside0.mk (below_step HB3.out hb); clear hb hR4)
          | (go_at_call 19; refine Calls.mono (hR.out _ (Kd.C_below hk.out (below_alloc (Below.refl _ _) _)) hc hf.out) ?_; rintro e w3 ⟨rfl, hb⟩; have BK := Aside0.mk (blk_below (blk_new w _) hb); have HB3 := Aside0.mk (below_step (below_alloc (Below.refl _ _) _) hb); clear hb; have z0 : w3.cell? ⟨w.heap.size, 0, none⟩ = some (.int .i64 t.f0) := (blk_cell BK.out 0).trans rfl; have z1 : w3.cell? ⟨w.heap.size, 1, none⟩ = some (.int .i64 t.f1) := (blk_cell BK.out 1).trans rfl; have z2 : w3.cell? ⟨w.heap.size, 2, none⟩ = some (.string t.f2) := (blk_cell BK.out 2).trans rfl; have z3 : w3.cell? ⟨w.heap.size, 3, none⟩ = some (.int .i64 t.f3) := (blk_cell BK.out 3).trans rfl; have z4 : w3.cell? ⟨w.heap.size, 4, none⟩ = some (.slice A t.f4.length c) := (blk_cell BK.out 4).trans rfl))
        go_ret2
        exact ⟨_, rfl, m4.out, HB4.out⟩
    · rename_i hrt
      have hrt' : rightT t 20 = false := by simpa using hrt
      have h := Option.some.inj h
      have h1 : ([] : List Int) = r1 := congrArg Prod.fst h
      have h2 : (1 : Int) = r2 := congrArg Prod.snd h
      subst h1; subst h2
      rw [hrt'] at hR hf
      dsimp only [nodeV]
      go_enter Try.func16, Try.ntmps16
      go_wp2_with (go_at_call 19; refine Calls.mono (hR.out _ (Kd.C_below hk.out (below_alloc (Below.refl _ _) _)) hc hf.out) ?_; rintro e w3 ⟨rfl, hb⟩; have HB3 := Aside0.mk (below_step (below_alloc (Below.refl _ _) _) hb); clear hb)
      go_ret2
      exact ⟨_, rfl, Kd.R_nil _ _ _ _ _, HB3.out⟩
  · cases h
end Go.Proofs.Ytpphoifjhhidfaa.Der
