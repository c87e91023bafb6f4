/- Plain laws: what is read is right, and is written so. -/
import Derived.Test.YtpphoifjhhidfaaTh2
namespace Go.Proofs.Ytpphoifjhhidfaa.Der
set_option linter.unusedVariables false
set_option linter.unusedSimpArgs false
open Go.RowKit
open Go.Proofs.YtpphoifjhhidfaaW.PrintWords
open Go.Proofs.Ytpphoifjhhidfaa.Gread
theorem cutEnd_inv {n : Int} {r c s : List Int} (h0 : 0 ≤ n) (h : cutEnd n r = some (c, s)) : r = c ++ s ∧ (c.length : Int) = n := by
  unfold cutEnd at h
  split at h
  · rename_i hn
    simp only [Option.some.injEq, Prod.mk.injEq] at h
    obtain ⟨rfl, rfl⟩ := h
    exact ⟨(List.take_append_drop _ _).symm, by rw [List.length_take]; omega⟩
  · cases h
theorem numBE_lt {s : List Int} (hb : Bs s) (hl : s.length ≤ 3) : 0 ≤ numBE s ∧ numBE s < 16777216 := by
  have h := numBE_bound s.length s rfl hb
  have : s.length = 0 ∨ s.length = 1 ∨ s.length = 2 ∨ s.length = 3 := by omega
  refine ⟨h.1, Int.lt_of_lt_of_le h.2 ?_⟩
  rcases this with h | h | h | h <;> rw [h] <;> decide
theorem lenO (n : Int) (h0 : 0 ≤ n) (h : n < 16777216) : der_length.f 64 n = some (lenL n.toNat) := by
  have h1 := length_eq n.toNat (by omega)
  rwa [show ((n.toNat : Nat) : Int) = n by omega] at h1
theorem cutO_total (b : List Int) (hb : Bs b) : ∃ q, cutO b = some q := by
  unfold cutO
  split
  · exact ⟨_, rfl⟩
  · split
    · exact ⟨_, rfl⟩
    · split
      · exact ⟨_, rfl⟩
      · rename_i h1 h2 h3
        have hbs : Bs ((b.drop 2).take (b.getD 1 0 - 128).toNat) := byte_take (fun x hx => hb x (List.mem_of_mem_drop hx))
        have hn := numBE_lt hbs (by rw [List.length_take]; omega)
        rw [lenO _ hn.1 hn.2]
        exact ⟨_, rfl⟩
theorem cutO_inv {b c r : List Int} (hb : Bs b) (h : cutO b = some (some (c, r))) : ∃ x, b = x :: (lenL c.length ++ (c ++ r)) := by
  unfold cutO at h
  split at h
  · cases h
  · rename_i h2
    obtain ⟨x, y, rest, rfl⟩ : ∃ x y rest, b = x :: y :: rest := by
      rcases b with _ | ⟨x, _ | ⟨y, rest⟩⟩
      · simp at h2
      · simp at h2
      · exact ⟨x, y, rest, rfl⟩
    have hy := hb y (by simp)
    have e1 : (x :: y :: rest).getD 1 0 = y := rfl
    have e2 : List.drop 2 (x :: y :: rest) = rest := rfl
    rw [e1, e2] at h
    refine ⟨x, ?_⟩
    split at h
    · rename_i h128
      obtain ⟨h3, h4⟩ := cutEnd_inv hy.1 (Option.some.inj h)
      rw [lenL, if_pos (by omega), h4, h3]; rfl
    · rename_i h128
      split at h
      · cases h
      · rename_i hbad
        obtain ⟨m, hm⟩ : ∃ m : Nat, (y - 128).toNat = m := ⟨_, rfl⟩
        rw [hm] at h
        have hml : m ≤ rest.length := by simp at hbad; omega
        have hS : Bs (rest.take m) := byte_take (fun z hz => hb z (by simp [hz]))
        have hn := numBE_lt hS (by rw [List.length_take]; omega)
        rw [lenO _ hn.1 hn.2] at h
        simp only [Option.bind_some] at h
        have e7 : List.drop 1 (List.take (2 + m) (x :: y :: rest)) = y :: rest.take m := by
          rw [show 2 + m = m + 2 by omega]; simp
        rw [e7] at h
        have h := Option.some.inj h
        split at h
        · rename_i heq
          have hb2 : Bs (y :: rest.take m) := by
            intro z hz
            rcases List.mem_cons.1 hz with rfl | hz
            · exact hy
            · exact hS z hz
          have h5 := (eqB_iff (lenL_bs _) hb2).1 heq
          obtain ⟨h3, h4⟩ := cutEnd_inv hn.1 h
          rw [show c.length = (numBE (rest.take m)).toNat by omega, h5, ← h3]
          simp
        · cases h
def Good (l : Nat) (t : S24) (b : List Int) : Prop := rightT t l = true ∧ wrO t = some b ∧ szT t + 1 ≤ b.length ∧ txB t = true
def GoodL (l : Nat) (ts : List S24) (b : List Int) : Prop := rightL ts l = true ∧ (∀ pre : List Int, pre.length + b.length < 70368744177664 → wrL ts pre = some (pre ++ b)) ∧ szL ts ≤ b.length ∧ txBL ts = true
theorem bytesOf_str (c : List Int) (h : Bs c) : bytesOf (strOfNums c) = c := by
  unfold bytesOf
  rw [strOfNums_data, List.map_map]
  have : ∀ (l : List Int), Bs l → l.map ((fun b : UInt8 => (b.toNat : Int)) ∘ fun n => UInt8.ofNat n.toNat) = l := by
    intro l hl
    induction l with
    | nil => rfl
    | cons x r ih =>
      rw [List.map_cons, ih (fun z hz => hl z (by simp [hz]))]
      have hx := hl x (by simp)
      simp only [Function.comp, List.cons.injEq, and_true]
      rw [UInt8.toNat_ofNat']
      omega
  exact this c h
theorem head_ok (k g x : Int) (c : List Int) (hk : 1 ≤ k ∧ k ≤ 6) (hl : c.length < 16777216) (hx : (identL k + g % 256) % 256 = x) : headF k g c = some (x :: (lenL c.length ++ c)) := by
  unfold headF
  rw [if_pos ⟨hk.1, hk.2, by omega⟩, length_eq _ (by omega)]
  simp only [Option.bind_some]
  have hlen : (lenL c.length).length < 1000 := by
    unfold lenL; split
    · simp
    · have := digN_len 7 (c.length : Int); simp; omega
  rw [if_pos hlen, hx]
theorem e0_size : e0.size = 0 := rfl
theorem e0_list : e0.toList = [] := by rw [ByteArray.toList_eq]
theorem lenL_pos (n : Nat) : 1 ≤ (lenL n).length := by unfold lenL; split <;> simp
theorem body_good (l : Nat) (K : List Int → Option (Option (List S24))) (HK : ∀ c ts, Bs c → c.length < 16777216 → K c = some (some ts) → GoodL l ts c) (x : Int) (c : List Int) (hx : 0 ≤ x ∧ x ≤ 255) (hc : Bs c) (hl : c.length < 16777216) (t : S24) (h : bodyO K x c = some (some t)) : Good (l + 1) t (x :: (lenL c.length ++ c)) := by
  have hlp := lenL_pos c.length
  have hsz : ∀ n : Nat, n ≤ c.length → 1 + n + 1 ≤ (x :: (lenL c.length ++ c)).length := by intro n hn; simp; omega
  unfold bodyO at h
  split at h
  · rename_i h2
    subst h2
    have hr := valL_range c hc
    rw [number_eq _ hr.1 hr.2] at h
    simp only [Option.bind_some, Option.some.injEq] at h
    split at h
    · rename_i he
      have h5 := (eqB_iff (numN_bs 7 _) hc).1 he
      obtain rfl := Option.some.inj h
      refine ⟨by rw [rightT]; simp [e0_list], ?_, by rw [szT, szL]; exact hsz 0 (by omega), by rw [txB, txBL]; simp [e0_size]⟩
      rw [wrO, contF, if_pos rfl, number_eq _ hr.1 hr.2, h5]
      exact head_ok 1 0 2 c (by omega) hl (by decide)
    · cases h
  split at h
  · rename_i h2
    subst h2
    have h := Option.some.inj h
    split at h
    · rename_i he
      obtain ⟨h1, h3⟩ := he
      obtain ⟨y, rfl⟩ := List.length_eq_one_iff.1 h1
      obtain rfl := Option.some.inj h
      have hy : [y].getD 0 0 = y := rfl
      rw [hy] at h3 ⊢
      refine ⟨?_, ?_, by rw [szT, szL]; exact hsz 0 (by omega), by rw [txB, txBL]; simp [e0_size]⟩
      · rw [rightT]; rcases h3 with rfl | rfl <;> simp [e0_list]
      · rw [wrO, contF, if_neg (by decide), if_pos rfl]
        have : wrap64 (-(y % 2)) % 256 = y := by rcases h3 with rfl | rfl <;> (unfold wrap64; decide)
        have hh := head_ok 4 0 1 [y] ⟨by decide, by decide⟩ hl (by decide)
        rw [this, Option.bind_some]
        exact hh
    · cases h
  split at h
  · rename_i h2
    subst h2
    obtain rfl := Option.some.inj (Option.some.inj h)
    refine ⟨by rw [rightT]; simp, ?_, by rw [szT, szL]; exact hsz 0 (by omega), by rw [txB, txBL, strOfNums_size]; simp; omega⟩
    rw [wrO, contF, if_neg (by decide), if_neg (by decide), if_pos (.inl rfl), if_pos (by rw [strOfNums_size]; omega), bytesOf_str c hc]
    exact head_ok 2 0 4 c (by omega) hl (by decide)
  split at h
  · rename_i h2
    subst h2
    have h := Option.some.inj h
    split at h
    · rename_i hp
      obtain rfl := Option.some.inj h
      refine ⟨by rw [rightT]; simp [hp], ?_, by rw [szT, szL]; exact hsz 0 (by omega), by rw [txB, txBL, strOfNums_size]; simp; omega⟩
      rw [wrO, contF, if_neg (by decide), if_neg (by decide), if_pos (.inr rfl), if_pos (by rw [strOfNums_size]; omega), bytesOf_str c hc]
      exact head_ok 3 0 12 c (by omega) hl (by decide)
    · cases h
  split at h
  · rename_i h2
    subst h2
    obtain ⟨r, hr, h⟩ := Option.bind_eq_some_iff.mp h
    have h := Option.some.inj h
    cases r with
    | none => cases h
    | some ts =>
      obtain rfl := Option.some.inj h
      obtain ⟨g1, g2, g3, g4⟩ := HK c ts hc hl hr
      refine ⟨by rw [rightT]; simp [e0_list, g1], ?_, by rw [szT]; exact hsz _ g3, by rw [txB]; simp [g4, e0_size]⟩
      have := g2 [] (by simp; omega)
      rw [List.nil_append] at this
      rw [wrO, contF, if_neg (by decide), if_neg (by decide), if_neg (by decide), this]
      exact head_ok 5 0 48 c (by omega) hl (by decide)
  split at h
  · rename_i h2
    obtain ⟨r, hr, h⟩ := Option.bind_eq_some_iff.mp h
    have h := Option.some.inj h
    cases r with
    | none => cases h
    | some ts =>
      obtain rfl := Option.some.inj h
      obtain ⟨g1, g2, g3, g4⟩ := HK c ts hc hl hr
      refine ⟨?_, ?_, by rw [szT]; exact hsz _ g3, by rw [txB]; simp [g4, e0_size]⟩
      · rw [rightT, if_neg (by omega)]; simp [e0_list, g1]
      · have := g2 [] (by simp; omega)
        rw [List.nil_append] at this
        rw [wrO, contF, if_neg (by decide), if_neg (by decide), if_neg (by decide), this]
        exact head_ok 6 (x - 160) x c (by omega) hl (by rw [identL_6]; omega)
  · cases h
def GoodRd (l : Nat) (rd : List Int → Option (Option (S24 × List Int))) : Prop := ∀ b, Bs b → b.length < 16777216 → ∀ t rest, rd b = some (some (t, rest)) → ∃ b', b = b' ++ rest ∧ Good l t b'
theorem kids_good (l : Nat) (rd : List Int → Option (Option (S24 × List Int))) (H : GoodRd l rd) : ∀ (f : Nat) (b : List Int) (acc ts : List S24), Bs b → b.length < 16777216 → kidsWith rd f b acc = some (some ts) → ∃ new, ts = acc ++ new ∧ GoodL l new b := by
  intro f
  induction f with
  | zero => intro b acc ts _ _ h; simp [kidsWith] at h
  | succ f ih =>
    intro b acc ts hb hl h
    rw [kidsWith] at h
    split at h
    · obtain ⟨q, hq, h'⟩ := Option.bind_eq_some_iff.mp h
      clear h
      cases q with
      | none => cases h'
      | some p =>
        obtain ⟨t, rest⟩ := p
        dsimp only at h'
        split at h'
        · obtain ⟨b', rfl, g1, g2, g3, g4⟩ := H b hb hl t rest hq
          obtain ⟨new, rfl, k1, k2, k3, k4⟩ := ih rest _ ts (fun z hz => hb z (by simp [hz])) (by simp at hl; omega) h'
          refine ⟨t :: new, by simp, by rw [rightL, g1, k1]; rfl, fun pre hpre => ?_, by rw [szL]; simp; omega, by rw [txBL, g4, k4]; rfl⟩
          rw [wrL, g2]
          simp only [Option.bind_some]
          simp at hpre
          rw [if_pos (by omega), k2 (pre ++ b') (by simp; omega)]
          simp
        · cases h'
    · rename_i h0
      obtain rfl := Option.some.inj (Option.some.inj h)
      have : b = [] := by
        cases b with
        | nil => rfl
        | cons _ _ => simp at h0
      subst this
      exact ⟨[], by simp, by rw [rightL], fun pre _ => by rw [wrL]; simp, by rw [szL]; simp, by rw [txBL]⟩
theorem read_good : ∀ l : Nat, GoodRd l (readO l) := by
  intro l
  induction l with
  | zero =>
    intro b hb hl t rest h
    rw [readO] at h
    obtain ⟨q, _, h⟩ := Option.bind_eq_some_iff.mp h
    cases h
  | succ l ih =>
    intro b hb hl t rest h
    rw [readO] at h
    obtain ⟨q, hq, h⟩ := Option.bind_eq_some_iff.mp h
    cases q with
    | none => cases h
    | some p =>
      obtain ⟨c, r⟩ := p
      dsimp only at h
      obtain ⟨x, rfl⟩ := cutO_inv hb hq
      obtain ⟨r', hr', h⟩ := Option.bind_eq_some_iff.mp h
      have h := Option.some.inj h
      cases r' with
      | none => cases h
      | some t' =>
        simp only [Option.map_some, Option.some.injEq, Prod.mk.injEq] at h
        obtain ⟨rfl, rfl⟩ := h
        have hc : Bs c := fun z hz => hb z (by simp [hz])
        have hcl : c.length < 16777216 := by simp at hl; omega
        refine ⟨x :: (lenL c.length ++ c), by simp, body_good l _ ?_ x c (hb x (by simp)) hc hcl t' (by simpa using hr')⟩
        intro c' ts hc' hl' hk
        obtain ⟨new, rfl, g⟩ := kids_good l (readO l) ih _ c' [] ts hc' hl' hk
        simpa using g
theorem kids_total (rd : List Int → Option (Option (S24 × List Int))) (HT : ∀ b, Bs b → b.length < 16777216 → ∃ r, rd b = some r) (HP : ∀ b t rest, Bs b → b.length < 16777216 → rd b = some (some (t, rest)) → Bs rest ∧ rest.length < b.length) : ∀ (f : Nat) (b : List Int) (acc : List S24), Bs b → b.length < f → acc.length + b.length < 16777216 → ∃ r, kidsWith rd f b acc = some r := by
  intro f
  induction f with
  | zero => intro b acc _ h _; omega
  | succ f ih =>
    intro b acc hb hf hl
    rw [kidsWith]
    split
    · obtain ⟨r, hr⟩ := HT b hb (by omega)
      rw [hr]
      simp only [Option.bind_some]
      cases r with
      | none => exact ⟨_, rfl⟩
      | some p =>
        obtain ⟨t, rest⟩ := p
        obtain ⟨h1, h2⟩ := HP b t rest hb (by omega) hr
        dsimp only
        rw [if_pos (by omega)]
        exact ih rest _ h1 (by omega) (by simp; omega)
    · exact ⟨_, rfl⟩
theorem body_total (K : List Int → Option (Option (List S24))) (x : Int) (c : List Int) (hc : Bs c) (HK : ∃ r, K c = some r) : ∃ r, bodyO K x c = some r := by
  obtain ⟨r, hr⟩ := HK
  have hv := valL_range c hc
  unfold bodyO
  rw [number_eq _ hv.1 hv.2, hr]
  simp only [Option.bind_some]
  repeat' split
  all_goals exact ⟨_, rfl⟩
theorem read_shrinks {l : Nat} {b : List Int} {t : S24} {rest : List Int} (hb : Bs b) (hl : b.length < 16777216) (h : readO l b = some (some (t, rest))) : Bs rest ∧ rest.length < b.length := by
  obtain ⟨b', rfl, _, _, h3, _⟩ := read_good l b hb hl t rest h
  exact ⟨fun z hz => hb z (by simp [hz]), by simp; omega⟩
theorem read_total : ∀ (l : Nat) (b : List Int), Bs b → b.length < 16777216 → ∃ r, readO l b = some r := by
  intro l
  induction l with
  | zero =>
    intro b hb hl
    obtain ⟨q, hq⟩ := cutO_total b hb
    rw [readO, hq]
    exact ⟨_, rfl⟩
  | succ l ih =>
    intro b hb hl
    obtain ⟨q, hq⟩ := cutO_total b hb
    rw [readO, hq]
    simp only [Option.bind_some]
    cases q with
    | none => exact ⟨_, rfl⟩
    | some p =>
      obtain ⟨c, r⟩ := p
      dsimp only
      obtain ⟨_, h1, h2, h3, h4⟩ := cutO_sub hq
      have hc : Bs c := fun z hz => hb z (h1 z hz)
      obtain ⟨q', hq'⟩ := body_total (fun c => kidsWith (readO l) (c.length + 1) c []) (b.getD 0 0) c hc (by
        exact kids_total (readO l) ih (fun b t rest hb' hl' hr => read_shrinks hb' hl' hr) (c.length + 1) c [] hc (by omega) (by simp at h3 ⊢; omega))
      rw [hq']
      exact ⟨_, rfl⟩
end Go.Proofs.Ytpphoifjhhidfaa.Der

namespace Go.Proofs.Ytpphoifjhhidfaa.Der
set_option linter.unusedVariables false
set_option linter.unusedSimpArgs false
open Go.RowKit
open Go.Proofs.YtpphoifjhhidfaaW.PrintWords
open Go.Proofs.Ytpphoifjhhidfaa.Gread
mutual
/-- Numbers are numbers of 64 bits. -/
def rngT : S24 → Prop
  | ⟨_, n, _, _, ts⟩ => (-9223372036854775808 ≤ n ∧ n ≤ 9223372036854775807) ∧ rngL ts
def rngL : List S24 → Prop
  | [] => True
  | t :: r => rngT t ∧ rngL r
end
theorem head_inv {k g : Int} {c b : List Int} (h : headF k g c = some b) : (1 ≤ k ∧ k ≤ 6) ∧ b = (identL k + g % 256) % 256 :: (lenL c.length ++ c) := by
  unfold headF at h
  split at h
  · rename_i h1
    rw [length_eq _ h1.2.2] at h
    simp only [Option.bind_some] at h
    split at h
    · exact ⟨⟨h1.1, h1.2.1⟩, (Option.some.inj h).symm⟩
    · cases h
  · cases h
theorem str_empty {s : ByteArray} (h : s.toList = []) : s = e0 := by
  rw [ByteArray.toList_eq] at h
  obtain ⟨d⟩ := s
  obtain ⟨l⟩ := d
  simp at h
  subst h
  rfl
theorem str_bytes (s : ByteArray) : strOfNums (bytesOf s) = s := by
  obtain ⟨d⟩ := s
  obtain ⟨l⟩ := d
  unfold strOfNums bytesOf
  have e : ((fun n : Int => UInt8.ofNat n.toNat) ∘ fun b : UInt8 => (b.toNat : Int)) = id := by funext b; simp
  simp only [List.map_map, e, List.map_id]
theorem bytesOf_bs (s : ByteArray) : Bs (bytesOf s) := by
  intro x hx
  unfold bytesOf at hx
  obtain ⟨b, _, rfl⟩ := List.mem_map.1 hx
  have := b.toNat_lt
  omega
def PW (t : S24) : Prop := ∀ (l : Nat) (b rest : List Int), rightT t l = true → rngT t → wrO t = some b → b.length < 16777216 → readO l (b ++ rest) = some (some (t, rest)) ∧ 2 ≤ b.length
def PWL (ts : List S24) : Prop := ∀ (l : Nat) (pre out : List Int), rightL ts l = true → rngL ts → wrL ts pre = some out → ∃ b, out = pre ++ b ∧ (b.length < 16777216 → ∀ (f : Nat) (acc : List S24), b.length < f → acc.length + b.length < 1099511627776 → kidsWith (readO l) f b acc = some (some (acc ++ ts)))
theorem read_node (l : Nat) (x : Int) (c rest : List Int) (t : S24) (hl : (x :: (lenL c.length ++ c)).length < 16777216) (h : bodyO (fun c => kidsWith (readO l) (c.length + 1) c []) x c = some (some t)) : readO (l + 1) (x :: (lenL c.length ++ c) ++ rest) = some (some (t, rest)) := by
  have hc : c.length < 16777216 := by simp at hl; omega
  have e : x :: (lenL c.length ++ c) ++ rest = x :: (lenL c.length ++ (c ++ rest)) := by simp
  rw [e, readO, cutO_len x c rest hc]
  simp only [Option.bind_some]
  rw [show (x :: (lenL c.length ++ (c ++ rest))).getD 0 0 = x by simp, h]
  rfl
theorem pw_of (k n : Int) (s : ByteArray) (g : Int) (ts : List S24) (IH : PWL ts) : PW ⟨k, n, s, g, ts⟩ := by
  intro l b rest hr hg hw hl
  rw [rightT] at hr
  rw [rngT] at hg
  rw [wrO] at hw
  obtain ⟨c, hc, hw⟩ := Option.bind_eq_some_iff.mp hw
  obtain ⟨hk, rfl⟩ := head_inv hw
  have h2 : 2 ≤ ((identL k + g % 256) % 256 :: (lenL c.length ++ c)).length := by
    have := lenL_pos c.length; simp; omega
  refine ⟨?_, h2⟩
  split at hr
  · cases hr
  rename_i hbad
  simp only [not_or, not_and] at hbad
  obtain ⟨l, rfl⟩ : ∃ m, l = m + 1 := ⟨l - 1, by omega⟩
  refine read_node l _ c rest _ hl ?_
  rw [contF] at hc
  rw [bodyO]
  split at hr
  · rename_i h1
    subst h1
    have hg0 : g = 0 := by omega
    subst hg0
    rw [if_pos rfl, number_eq n hg.1.1 hg.1.2] at hc
    obtain rfl := Option.some.inj hc
    have hv : valL (numN 7 n) = n := val_num 7 n (by omega) (by simp; omega) (by simp; omega)
    rw [if_pos (by rw [identL_1]; decide), hv, number_eq n hg.1.1 hg.1.2]
    simp only [Option.bind_some]
    rw [if_pos ((eqB_iff (numN_bs 7 n) (numN_bs 7 n)).2 rfl)]
    simp only [Bool.and_eq_true, beq_iff_eq, List.isEmpty_iff] at hr
    rw [str_empty hr.1, hr.2]
  rename_i h1
  rw [if_neg h1] at hc
  split at hr
  · rename_i h4
    subst h4
    have hg0 : g = 0 := by omega
    subst hg0
    rw [if_pos rfl] at hc
    obtain rfl := Option.some.inj hc
    simp only [Bool.and_eq_true, Bool.or_eq_true, beq_iff_eq, List.isEmpty_iff] at hr
    rw [if_neg (by rw [identL_4]; decide), if_pos (by rw [identL_4]; decide)]
    obtain ⟨h5, h6, h7⟩ := hr
    rcases h7 with rfl | rfl
    · rw [show wrap64 (-0) % 256 = 0 by unfold wrap64; decide, str_empty h5, h6]; rfl
    · rw [show wrap64 (-1) % 256 = 255 by unfold wrap64; decide, str_empty h5, h6]; rfl
  rename_i h4
  rw [if_neg h4] at hc
  split at hr
  · rename_i h2'
    subst h2'
    have hg0 : g = 0 := by omega
    subst hg0
    rw [if_pos (.inl rfl)] at hc
    split at hc
    · obtain rfl := Option.some.inj hc
      rw [if_neg (by rw [identL_2]; decide), if_neg (by rw [identL_2]; decide), if_pos (by rw [identL_2]; decide), str_bytes]
      simp only [Bool.and_eq_true, beq_iff_eq, List.isEmpty_iff] at hr
      rw [hr.1, hr.2]
    · cases hc
  rename_i h2'
  split at hr
  · rename_i h3
    subst h3
    have hg0 : g = 0 := by omega
    subst hg0
    rw [if_pos (.inr rfl)] at hc
    split at hc
    · obtain rfl := Option.some.inj hc
      simp only [Bool.and_eq_true, beq_iff_eq, List.isEmpty_iff] at hr
      rw [if_neg (by rw [identL_3]; decide), if_neg (by rw [identL_3]; decide), if_neg (by rw [identL_3]; decide), if_pos (by rw [identL_3]; decide), str_bytes, if_pos hr.2.2]
      rw [hr.1, hr.2.1]
    · cases hc
  rename_i h3
  rw [if_neg (by simp [h2', h3])] at hc
  simp only [Bool.and_eq_true, beq_iff_eq] at hr
  obtain ⟨h5, h6, h7⟩ := hr
  obtain ⟨b', hb', hkids⟩ := IH l [] c h7 hg.2 hc
  rw [List.nil_append] at hb'
  subst hb'
  have hcl : c.length < 16777216 := by simp at hl; omega
  have hk2 := hkids hcl (c.length + 1) [] (by omega) (by simp; omega)
  rw [List.nil_append] at hk2
  have h56 : k = 5 ∨ k = 6 := by omega
  rcases h56 with rfl | rfl
  · have hg0 : g = 0 := by omega
    subst hg0
    rw [if_neg (by rw [identL_5]; decide), if_neg (by rw [identL_5]; decide), if_neg (by rw [identL_5]; decide), if_neg (by rw [identL_5]; decide), if_pos (by rw [identL_5]; decide), hk2, str_empty h6, h5]
    rfl
  · have hx : (identL 6 + g % 256) % 256 = 160 + g := by rw [identL_6]; omega
    rw [hx, if_neg (by omega), if_neg (by omega), if_neg (by omega), if_neg (by omega), if_neg (by omega), if_pos (by omega), hk2, str_empty h6, h5]
    simp only [Option.bind_some, Option.map_some]
    rw [show 160 + g - 160 = g by omega]
theorem pwl_nil : PWL [] := by
  intro l pre out _ _ h
  rw [wrL] at h
  obtain rfl := Option.some.inj h
  refine ⟨[], by simp, fun _ f acc hf _ => ?_⟩
  obtain ⟨f, rfl⟩ : ∃ m, f = m + 1 := ⟨f - 1, by omega⟩
  rw [kidsWith, if_neg (by simp)]
  simp
theorem pwl_cons (t : S24) (r : List S24) (H1 : PW t) (H2 : PWL r) : PWL (t :: r) := by
  intro l pre out hr hg h
  rw [rightL, Bool.and_eq_true] at hr
  rw [rngL] at hg
  rw [wrL] at h
  obtain ⟨x, hx, h⟩ := Option.bind_eq_some_iff.mp h
  split at h
  · obtain ⟨b, hb, hk⟩ := H2 l _ out hr.2 hg.2 h
    refine ⟨x ++ b, by rw [hb]; simp, fun hlen f acc hf hacc => ?_⟩
    simp at hlen hf hacc
    obtain ⟨h1, h2⟩ := H1 l x b hr.1 hg.1 hx (by omega)
    obtain ⟨f, rfl⟩ : ∃ m, f = m + 1 := ⟨f - 1, by omega⟩
    rw [kidsWith, if_pos (by simp; omega), h1]
    simp only [Option.bind_some]
    rw [if_pos (by omega), hk (by omega) f (acc ++ [t]) (by omega) (by simp; omega)]
    simp
  · cases h
mutual
theorem wr_rd : ∀ t : S24, PW t
  | ⟨k, n, s, g, ts⟩ => pw_of k n s g ts (wr_rdL ts)
theorem wr_rdL : ∀ ts : List S24, PWL ts
  | [] => pwl_nil
  | t :: r => pwl_cons t r (wr_rd t) (wr_rdL r)
end
end Go.Proofs.Ytpphoifjhhidfaa.Der
