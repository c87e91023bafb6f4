/- der.kids, of a reader of one depth. -/
import Derived.Test.YtpphoifjhhidfaaCut
import Derived.Test.YtpphoifjhhidfaaWritten
namespace Go.Proofs.Ytpphoifjhhidfaa.Der
set_option linter.unusedVariables false
set_option linter.unusedSimpArgs false
open Go.RowKit
open Go.Proofs.YtpphoifjhhidfaaW.PrintWords
open Go.Proofs.YtpphoifjhhidfaaW.PrintLast
open Go.Proofs.YtpphoifjhhidfaaW.PrintMore
theorem info24 : (Try.prog.info? 24).map (fun i => (i.zero, i.size, i.bytes)) = some (some (.agg #[(.int .i64 0), (.int .i64 0), (.string ⟨#[]⟩), (.int .i64 0), (.slice none 0 0)]), 5, 64) := by kernel_rfl
def kidsWith (rd : List Int → Option (Option (S24 × List Int))) : Nat → List Int → List S24 → Option (Option (List S24))
  | 0, _, _ => none
  | f + 1, b, acc => if 0 < (b.length : Int) then (rd b).bind fun r => match r with
    | none => some none
    | some (t, rest) => if acc.length < 1099511627776 then kidsWith rd f rest (acc ++ [t]) else none
   else some (some acc)
def ReadR (w0 w : World) (r : Option (S24 × List Int)) (e : Ending) (w' : World) : Prop :=
  (match r with
   | none => ∃ (a b : Int) (s : ByteArray) (g : Int) (A : Option Addr) (n c : Nat), e = .returned (.tuple #[.agg #[.int .i64 a, .int .i64 b, .string s, .int .i64 g, .slice none 0 0], .slice A n c, .bool false])
   | some (t, rest) => (∃ (v : Value) (A : Option Addr) (c : Nat), e = .returned (.tuple #[.agg #[.int .i64 t.f0, .int .i64 t.f1, .string t.f2, .int .i64 t.f3, v], .slice A rest.length c, .bool true]) ∧ Kd.R k24 24 w' w.heap.size (fun _ => True) v t.f4 ∧ rest.length ≤ c ∧ Kd.C (Kd.int .u8) w0 A rest.length rest) ∧ (∀ x ∈ rest, 0 ≤ x ∧ x ≤ 255) ∧ rest.length ≤ 70368744177664) ∧ Below w.heap.size w w'
def PRead (rd : List Int → Option (Option (S24 × List Int))) (l : Nat) : Prop := ∀ (b : List Int), (∀ x ∈ b, 0 ≤ x ∧ x ≤ 255) → b.length ≤ 70368744177664 → ∀ r, rd b = some r → ∀ (A : Option Addr) (c : Nat) (w0 w : World), Kd.C (Kd.int .u8) w0 A b.length b → b.length ≤ c → Below w0.heap.size w0 w → Calls Try.prog 31 #[.slice A b.length c, .int .i64 (l : Int)] w (ReadR w0 w r)
def KidsR (w : World) (r : Option (List S24)) (e : Ending) (w' : World) : Prop :=
  (match r with
   | none => e = .returned (.tuple #[.slice none 0 0, .bool false])
   | some ts => ∃ v : Value, e = .returned (.tuple #[v, .bool true]) ∧ Kd.R k24 24 w' w.heap.size (fun _ => True) v ts) ∧ Below w.heap.size w w'
set_option maxHeartbeats 4000000 in
set_option maxRecDepth 100000 in
theorem kids_calls (rd : List Int → Option (Option (S24 × List Int))) (l : Nat) (hl : l < 1000000) (HR : PRead rd l) (f : Nat) (b : List Int) (hb : ∀ x ∈ b, 0 ≤ x ∧ x ≤ 255) (hbl : b.length ≤ 70368744177664) (r : Option (List S24)) (h : kidsWith rd f b [] = some r) (A : Option Addr) (c : Nat) (w0 w : World) (hk : Kd.C (Kd.int .u8) w0 A b.length b) (hc : b.length ≤ c) (hB0 : Below w0.heap.size w0 w) :
    Calls Try.prog 47 #[.slice A b.length c, .int .i64 (l : Int)] w (KidsR w r) := by
  have hu24 := Try.underlying24
  have hu22 := Try.underlying22
  replace HR := Aside0.mk HR
  replace hk := Aside0.mk hk
  replace hb := Aside0.mk hb
  replace hbl := Aside0.mk hbl
  replace hc := Aside0.mk hc
  replace hB0 := Aside0.mk hB0
  replace h := Aside0.mk h
  go_enter Try.func47, Try.ntmps47
  go_wp2
  go_loopg [0, 6] f (fun kq v0 v6 w' => ∃ (bq : List Int) (acc : List S24) (Aq : Option Addr) (cq : Nat), v0 = .slice Aq bq.length cq ∧ Aside0 (kidsWith rd kq bq acc = some r) ∧ Aside0 (kq ≤ f) ∧ Aside0 (Kd.R k24 24 w' w.heap.size (fun _ => True) v6 acc) ∧ Aside0 (Below w.heap.size w w') ∧ Aside0 (Kd.C (Kd.int .u8) w0 Aq bq.length bq) ∧ Aside0 (bq.length ≤ cq) ∧ Aside0 (∀ x ∈ bq, 0 ≤ x ∧ x ≤ 255) ∧ Aside0 (bq.length ≤ 70368744177664))
  case atStart => exact ⟨b, [], A, c, rfl, h, ⟨Nat.le_refl _⟩, ⟨Kd.R_nil _ _ _ _ _⟩, ⟨Below.refl _ _⟩, hk, hc, hb, hbl⟩
  case round =>
    clear hk hc hb hbl h
    obtain ⟨bq, acc, Aq, cq, rfl, h, hle, HO, HB, hk, hc, hb, hbl⟩ := hrel
    cases gk with
    | zero => exact absurd h.out (by simp [kidsWith])
    | succ k1 =>
      replace h := h.out
      rw [kidsWith] at h
      by_cases hp : 0 < (bq.length : Int)
      · rw [if_pos hp] at h
        obtain ⟨q, hq, h⟩ := Option.bind_eq_some_iff.mp h
        replace hq := Aside0.mk hq
        cases q with
        | none =>
          obtain rfl := Option.some.inj h
          clear h
          go_wp2_with (go_at_call 31; refine Calls.mono (HR.out bq hb.out hbl.out none hq.out Aq cq w0 wr hk.out hc.out (below_step hB0.out HB.out)) ?_; rintro e w3 ⟨⟨a1, b1, s1, g1, A1, n1, c1, rfl⟩, hb2⟩; have HB2 := Aside0.mk (below_step HB.out hb2); clear hb2)
          go_ret2
          exact ⟨rfl, below_alloc HB2.out _⟩
        | some p =>
          obtain ⟨t, rest⟩ := p
          dsimp only at h
          by_cases hal : acc.length < 1099511627776
          · rw [if_pos hal] at h
            replace h := Aside0.mk h
            replace hal := Aside0.mk hal
            go_wp2_with (first
              | ((with_reducible refine gate_builtin (b := .append) (xs := #[.tmp 22, .tmp 24]) rfl ?_); (try (refine gate_guard (by rfl) ?_; dsimp only)); at_builtin; refine Kd.R_append k24 (w0 := w) w.heap.size rfl (.tmp 22) (.tmp 24) 22 24 (.agg #[(.int .i64 0), (.int .i64 0), (.string ⟨#[]⟩), (.int .i64 0), (.slice none 0 0)]) 64 rfl Try.underlying22 info24 rfl (by decide) (by omega) u6 acc t [.int .i64 t.f0, .int .i64 t.f1, .string t.f2, .int .i64 t.f3, .slice A4 t.f4.length c4] (fun _ => True) (fun k_ => True ∧ some k_ ≠ (u6 : Value).ownBlock) rfl (by rw [World.size_alloc]; rfl) ?aP (fun _ hk => hk) (fun _ _ => trivial) ?aO ?aB ?aS ?aL ?_; (case aP => exact k24_mkM _ _ _ t (Kd.R_alloc (Kd.R_mono m4.out (fun k_ hk => ⟨trivial, hk.2⟩)) _)); (case aB => exact below_alloc HB2.out _); (case aO => exact Kd.R_alloc HO2.out _); (case aS => exact below_size (below_alloc HB2.out _)); (case aL => have := hal.out; omega); intro v113 w19 ho hb1 hg hat; have HO3 := Aside0.mk ho; have HB3 := Aside0.mk hb1; clear ho hb1 hg hat)
              | (go_at_call 31; refine Calls.mono (HR.out bq hb.out hbl.out (some (t, rest)) hq.out Aq cq w0 wr hk.out hc.out (below_step hB0.out HB.out)) ?_; rintro e w3 ⟨⟨⟨v4, A1, c1, rfl, hv4, hc1, hk1⟩, hrb, hrl⟩, hb2⟩; obtain ⟨A4, c4, e4⟩ := Kd.R_slice hv4; subst e4; have HB2 := Aside0.mk (below_step HB.out hb2); have HO2 := Aside0.mk (Kd.R_below HO.out hb2); have m4 := Aside0.mk (Kd.R_lower (base' := w.heap.size) (Kd.R_mono (ok' := fun k_ => True ∧ some k_ ≠ (u6 : Value).ownBlock) (Kd.R_bound hv4) (fun k_ hk => ⟨trivial, fun he => by have h1 := Kd.R_lt HO.out k_ he.symm; have := hk.2.1; omega⟩)) HB.out.size); have hk1 := Aside0.mk hk1; have hc1 := Aside0.mk hc1; have hrb := Aside0.mk hrb; have hrl := Aside0.mk hrl; clear hb2 hv4))
            go_roundg k1
            case measure => have := hle.out; omega
            case rel => exact ⟨rest, acc ++ [t], A1, c1, rfl, h, ⟨by have := hle.out; omega⟩, HO3, HB3, hk1, hc1, hrb, hrl⟩
          · rw [if_neg hal] at h
            exact absurd h (by simp)
      · rw [if_neg hp] at h
        obtain rfl := Option.some.inj h
        go_wp2
        go_ret2
        exact ⟨⟨_, rfl, HO.out⟩, HB.out⟩
end Go.Proofs.Ytpphoifjhhidfaa.Der
