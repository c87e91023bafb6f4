/- Plain laws: what is written is read back. -/
import Derived.Test.YtpphoifjhhidfaaTh3
namespace Go.Proofs.Ytpphoifjhhidfaa.Der
set_option linter.unusedVariables false
set_option linter.unusedSimpArgs false
open Go.RowKit
open Go.Proofs.YtpphoifjhhidfaaW.PrintWords
open Go.Proofs.Ytpphoifjhhidfaa.Gread
mutual
/-- Numbers are numbers of 64 bits. -/
def rngT : S24 → Prop
  | ⟨_, n, _, _, ts⟩ => (-9223372036854775808 ≤ n ∧ n ≤ 9223372036854775807) ∧ rngL ts
def rngL : List S24 → Prop
  | [] => True
  | t :: r => rngT t ∧ rngL r
end
theorem head_inv {k g : Int} {c b : List Int} (h : headF k g c = some b) : (1 ≤ k ∧ k ≤ 6) ∧ b = (identL k + g % 256) % 256 :: (lenL c.length ++ c) := by
  unfold headF at h
  split at h
  · rename_i h1
    rw [length_eq _ h1.2.2] at h
    simp only [Option.bind_some] at h
    split at h
    · exact ⟨⟨h1.1, h1.2.1⟩, (Option.some.inj h).symm⟩
    · cases h
  · cases h
theorem str_empty {s : ByteArray} (h : s.toList = []) : s = e0 := by
  rw [ByteArray.toList_eq] at h
  obtain ⟨d⟩ := s
  obtain ⟨l⟩ := d
  simp at h
  subst h
  rfl
theorem str_bytes (s : ByteArray) : strOfNums (bytesOf s) = s := by
  obtain ⟨d⟩ := s
  obtain ⟨l⟩ := d
  unfold strOfNums bytesOf
  have e : ((fun n : Int => UInt8.ofNat n.toNat) ∘ fun b : UInt8 => (b.toNat : Int)) = id := by funext b; simp
  simp only [List.map_map, e, List.map_id]
theorem bytesOf_bs (s : ByteArray) : Bs (bytesOf s) := by
  intro x hx
  unfold bytesOf at hx
  obtain ⟨b, _, rfl⟩ := List.mem_map.1 hx
  have := b.toNat_lt
  omega
def PW (t : S24) : Prop := ∀ (l : Nat) (b rest : List Int), rightT t l = true → rngT t → wrO t = some b → b.length < 16777216 → readO l (b ++ rest) = some (some (t, rest)) ∧ 2 ≤ b.length
def PWL (ts : List S24) : Prop := ∀ (l : Nat) (pre out : List Int), rightL ts l = true → rngL ts → wrL ts pre = some out → ∃ b, out = pre ++ b ∧ (b.length < 16777216 → ∀ (f : Nat) (acc : List S24), b.length < f → acc.length + b.length < 1099511627776 → kidsWith (readO l) f b acc = some (some (acc ++ ts)))
theorem read_node (l : Nat) (x : Int) (c rest : List Int) (t : S24) (hl : (x :: (lenL c.length ++ c)).length < 16777216) (h : bodyO (fun c => kidsWith (readO l) (c.length + 1) c []) x c = some (some t)) : readO (l + 1) (x :: (lenL c.length ++ c) ++ rest) = some (some (t, rest)) := by
  have hc : c.length < 16777216 := by simp at hl; omega
  have e : x :: (lenL c.length ++ c) ++ rest = x :: (lenL c.length ++ (c ++ rest)) := by simp
  rw [e, readO, cutO_len x c rest hc]
  simp only [Option.bind_some]
  rw [show (x :: (lenL c.length ++ (c ++ rest))).getD 0 0 = x by simp, h]
  rfl
theorem pw_of (k n : Int) (s : ByteArray) (g : Int) (ts : List S24) (IH : PWL ts) : PW ⟨k, n, s, g, ts⟩ := by
  intro l b rest hr hg hw hl
  rw [rightT] at hr
  rw [rngT] at hg
  rw [wrO] at hw
  obtain ⟨c, hc, hw⟩ := Option.bind_eq_some_iff.mp hw
  obtain ⟨hk, rfl⟩ := head_inv hw
  have h2 : 2 ≤ ((identL k + g % 256) % 256 :: (lenL c.length ++ c)).length := by
    have := lenL_pos c.length; simp; omega
  refine ⟨?_, h2⟩
  split at hr
  · cases hr
  rename_i hbad
  simp only [not_or, not_and] at hbad
  obtain ⟨l, rfl⟩ : ∃ m, l = m + 1 := ⟨l - 1, by omega⟩
  refine read_node l _ c rest _ hl ?_
  rw [contF] at hc
  rw [bodyO]
  split at hr
  · rename_i h1
    subst h1
    have hg0 : g = 0 := by omega
    subst hg0
    rw [if_pos rfl, number_eq n hg.1.1 hg.1.2] at hc
    obtain rfl := Option.some.inj hc
    have hv : valL (numN 7 n) = n := val_num 7 n (by omega) (by simp; omega) (by simp; omega)
    rw [if_pos (by rw [identL_1]; decide), hv, number_eq n hg.1.1 hg.1.2]
    simp only [Option.bind_some]
    rw [if_pos ((eqB_iff (numN_bs 7 n) (numN_bs 7 n)).2 rfl)]
    simp only [Bool.and_eq_true, beq_iff_eq, List.isEmpty_iff] at hr
    rw [str_empty hr.1, hr.2]
  rename_i h1
  rw [if_neg h1] at hc
  split at hr
  · rename_i h4
    subst h4
    have hg0 : g = 0 := by omega
    subst hg0
    rw [if_pos rfl] at hc
    obtain rfl := Option.some.inj hc
    simp only [Bool.and_eq_true, Bool.or_eq_true, beq_iff_eq, List.isEmpty_iff] at hr
    rw [if_neg (by rw [identL_4]; decide), if_pos (by rw [identL_4]; decide)]
    obtain ⟨h5, h6, h7⟩ := hr
    rcases h7 with rfl | rfl
    · rw [show wrap64 (-0) % 256 = 0 by unfold wrap64; decide, str_empty h5, h6]; rfl
    · rw [show wrap64 (-1) % 256 = 255 by unfold wrap64; decide, str_empty h5, h6]; rfl
  rename_i h4
  rw [if_neg h4] at hc
  split at hr
  · rename_i h2'
    subst h2'
    have hg0 : g = 0 := by omega
    subst hg0
    rw [if_pos (.inl rfl)] at hc
    split at hc
    · obtain rfl := Option.some.inj hc
      rw [if_neg (by rw [identL_2]; decide), if_neg (by rw [identL_2]; decide), if_pos (by rw [identL_2]; decide), str_bytes]
      simp only [Bool.and_eq_true, beq_iff_eq, List.isEmpty_iff] at hr
      rw [hr.1, hr.2]
    · cases hc
  rename_i h2'
  split at hr
  · rename_i h3
    subst h3
    have hg0 : g = 0 := by omega
    subst hg0
    rw [if_pos (.inr rfl)] at hc
    split at hc
    · obtain rfl := Option.some.inj hc
      simp only [Bool.and_eq_true, beq_iff_eq, List.isEmpty_iff] at hr
      rw [if_neg (by rw [identL_3]; decide), if_neg (by rw [identL_3]; decide), if_neg (by rw [identL_3]; decide), if_pos (by rw [identL_3]; decide), str_bytes, if_pos hr.2.2]
      rw [hr.1, hr.2.1]
    · cases hc
  rename_i h3
  rw [if_neg (by simp [h2', h3])] at hc
  simp only [Bool.and_eq_true, beq_iff_eq] at hr
  obtain ⟨h5, h6, h7⟩ := hr
  obtain ⟨b', hb', hkids⟩ := IH l [] c h7 hg.2 hc
  rw [List.nil_append] at hb'
  subst hb'
  have hcl : c.length < 16777216 := by simp at hl; omega
  have hk2 := hkids hcl (c.length + 1) [] (by omega) (by simp; omega)
  rw [List.nil_append] at hk2
  have h56 : k = 5 ∨ k = 6 := by omega
  rcases h56 with rfl | rfl
  · have hg0 : g = 0 := by omega
    subst hg0
    rw [if_neg (by rw [identL_5]; decide), if_neg (by rw [identL_5]; decide), if_neg (by rw [identL_5]; decide), if_neg (by rw [identL_5]; decide), if_pos (by rw [identL_5]; decide), hk2, str_empty h6, h5]
    rfl
  · have hx : (identL 6 + g % 256) % 256 = 160 + g := by rw [identL_6]; omega
    rw [hx, if_neg (by omega), if_neg (by omega), if_neg (by omega), if_neg (by omega), if_neg (by omega), if_pos (by omega), hk2, str_empty h6, h5]
    simp only [Option.bind_some, Option.map_some]
    rw [show 160 + g - 160 = g by omega]
theorem pwl_nil : PWL [] := by
  intro l pre out _ _ h
  rw [wrL] at h
  obtain rfl := Option.some.inj h
  refine ⟨[], by simp, fun _ f acc hf _ => ?_⟩
  obtain ⟨f, rfl⟩ : ∃ m, f = m + 1 := ⟨f - 1, by omega⟩
  rw [kidsWith, if_neg (by simp)]
  simp
theorem pwl_cons (t : S24) (r : List S24) (H1 : PW t) (H2 : PWL r) : PWL (t :: r) := by
  intro l pre out hr hg h
  rw [rightL, Bool.and_eq_true] at hr
  rw [rngL] at hg
  rw [wrL] at h
  obtain ⟨x, hx, h⟩ := Option.bind_eq_some_iff.mp h
  split at h
  · obtain ⟨b, hb, hk⟩ := H2 l _ out hr.2 hg.2 h
    refine ⟨x ++ b, by rw [hb]; simp, fun hlen f acc hf hacc => ?_⟩
    simp at hlen hf hacc
    obtain ⟨h1, h2⟩ := H1 l x b hr.1 hg.1 hx (by omega)
    obtain ⟨f, rfl⟩ : ∃ m, f = m + 1 := ⟨f - 1, by omega⟩
    rw [kidsWith, if_pos (by simp; omega), h1]
    simp only [Option.bind_some]
    rw [if_pos (by omega), hk (by omega) f (acc ++ [t]) (by omega) (by simp; omega)]
    simp
  · cases h
mutual
theorem wr_rd : ∀ t : S24, PW t
  | ⟨k, n, s, g, ts⟩ => pw_of k n s g ts (wr_rdL ts)
theorem wr_rdL : ∀ ts : List S24, PWL ts
  | [] => pwl_nil
  | t :: r => pwl_cons t r (wr_rd t) (wr_rdL r)
end
mutual
theorem same_iff : ∀ t t' : S24, sameT t t' = true ↔ t = t'
  | ⟨k, n, s, g, ts⟩, ⟨k', n', s', g', ts'⟩ => by
    rw [sameT]
    simp only [Bool.and_eq_true, decide_eq_true_eq, beq_iff_eq, S24.mk.injEq]
    rw [sameL_eq ts ts']
    constructor
    · rintro ⟨h1, h2, h3, h4, h5⟩
      refine ⟨h1, h2, ?_, h4, h5⟩
      rw [ByteArray.toList_eq, ByteArray.toList_eq] at h3
      obtain ⟨d⟩ := s
      obtain ⟨d'⟩ := s'
      simp at h3
      rw [h3]
    · rintro ⟨h1, h2, h3, h4, h5⟩
      exact ⟨h1, h2, by rw [h3], h4, h5⟩
theorem sameL_eq : ∀ ts ts' : List S24, sameL ts ts' = true ↔ ts = ts'
  | [], [] => by simp [sameL]
  | [], _ :: _ => by simp [sameL]
  | _ :: _, [] => by simp [sameL]
  | t :: r, t' :: r' => by
    rw [sameL, Bool.and_eq_true, same_iff t t', sameL_eq r r']
    simp
end
end Go.Proofs.Ytpphoifjhhidfaa.Der
