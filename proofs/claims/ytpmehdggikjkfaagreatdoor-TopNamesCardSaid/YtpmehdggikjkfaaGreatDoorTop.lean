/- The law answers true, whatever its input, where term.kinds and strconv's powers of ten hold what they are laid with; what stood before the call stands as it was. -/
import Derived.Test.YtpmehdggikjkfaaGreatDoorEnvB
import Derived.Test.YtpmehdggikjkfaaGreatDoorEntA
import Derived.Test.YtpmehdggikjkfaaGreatDoorEntB
import Derived.Test.YtpmehdggikjkfaaGreatDoorEntC
import Derived.Test.YtpmehdggikjkfaaGreatDoorEntD
import Derived.Test.YtpmehdggikjkfaaGreatDoorWorksK
import Derived.Test.YtpmehdggikjkfaaGreatDoorTopK
import Derived.Test.YtpmehdggikjkfaaGreatDoorJoinA
import Derived.Test.YtpmehdggikjkfaaGreatDoorPruneA
namespace Go.Proofs.YtpmehdggikjkfaaGreatDoor.Rf
open Go
theorem sim0 : SimF Tryz.prog E0 (ansOf G0) := prune_sim pruneOk (join_sim joinOk (none_sim _ _))
theorem simF0 (n : Nat) : SimF Tryz.prog E0 (evFF E0 G0 n) := by rw [evFF_eq]; exact fn_sim envOk0 fnsOk0 mixed sim0 n
theorem sim1 : SimF Tryz.prog E0 (ansOf G1) := memo_sim (simF0 20) sim0 _ fun e he => by
  rcases List.mem_cons.1 he with rfl | he
  · exact ent1_ok
  rcases List.mem_cons.1 he with rfl | he
  · exact ent2_ok
  rcases List.mem_cons.1 he with rfl | he
  · exact ent3_ok
  rcases List.mem_cons.1 he with rfl | he
  · exact ent4_ok
  cases he
theorem simF1 (n : Nat) : SimF Tryz.prog E0 (evFF E0 G1 n) := by rw [evFF_eq]; exact fn_sim envOk0 fnsOk0 mixed sim1 n
theorem simO : SimF Tryz.prog E0 (ansOf GO) := memo_sim (simF1 200) sim0 _ fun e he => by
  rcases List.mem_cons.1 he with rfl | he
  · exact entO_ok
  cases he
theorem simW : SimF Tryz.prog E0 (ansOf GW) := memo_sim (simF0 200) simO _ fun e he => by
  rcases List.mem_cons.1 he with rfl | he
  · exact step1_ok
  rcases List.mem_cons.1 he with rfl | he
  · exact step2_ok
  rcases List.mem_cons.1 he with rfl | he
  · exact step3_ok
  rcases List.mem_cons.1 he with rfl | he
  · exact step4_ok
  rcases List.mem_cons.1 he with rfl | he
  · exact step5_ok
  rcases List.mem_cons.1 he with rfl | he
  · exact step6_ok
  rcases List.mem_cons.1 he with rfl | he
  · exact step7_ok
  cases he
theorem simFW (n : Nat) : SimF Tryz.prog E0 (evFF E0 GW n) := by rw [evFF_eq]; exact fn_sim envOk0 fnsOk0 mixed simW n
theorem sim2 : SimF Tryz.prog E0 (ansOf G2) := memo_sim (simFW 200) sim0 _ fun e he => by
  rcases List.mem_cons.1 he with rfl | he
  · exact entW_ok
  cases he
theorem simF2 (n : Nat) : SimF Tryz.prog E0 (evFF E0 G2 n) := by rw [evFF_eq]; exact fn_sim envOk0 fnsOk0 mixed sim2 n
theorem all_at {f g : Nat → Bool} (h : ∀ n, g (n + 1) = (f n && g n)) : ∀ {n : Nat}, g n = true → ∀ x, x < n → f x = true := by
  intro n
  induction n with
  | zero => intro _ x hx; omega
  | succ n ih =>
    intro hg x hx
    rw [h, Bool.and_eq_true] at hg
    rcases Nat.lt_succ_iff_lt_or_eq.1 hx with hx | rfl
    · exact ih hg.2 x hx
    · exact hg.1
theorem topAll_succ (n : Nat) : topAll (n + 1) = (topAt n && topAll n) := by delta topAll; rfl
theorem top_at (x : Nat) (hx : x < 256) : ∃ s', evFF E0 G2 40 3 [.int .u8 x] s0 = some (.bool true, s') := by
  have h := all_at topAll_succ top_ok x hx
  unfold topAt at h
  split at h
  · rename_i b s' hs
    subst h
    exact ⟨s', hs⟩
  · cases h
/- the tie at the start -/
def beta0 : Bt := fun g => if g < 6 then some (g, 0) else none
theorem glob_find {i : Nat} {m : MO} (h : s0.h.find i = some m) : (i = 0 ∧ m = mkRow kindsC none) ∨ (i = 1 ∧ m = mkRow powC none) := by
  have hn : nodupK glob = true := by rfl
  by_cases h0 : i = 0
  · subst h0
    have := find_insAll_mem (i := 0) (m := mkRow kindsC none) glob .nil hn (by simp [glob])
    have h' : (insAll glob .nil).find 0 = some m := h
    rw [this] at h'
    exact .inl ⟨rfl, (Option.some.inj h').symm⟩
  · by_cases h1 : i = 1
    · subst h1
      have := find_insAll_mem (i := 1) (m := mkRow powC none) glob .nil hn (by simp [glob])
      have h' : (insAll glob .nil).find 1 = some m := h
      rw [this] at h'
      exact .inr ⟨rfl, (Option.some.inj h').symm⟩
    · have h' : (insAll glob .nil).find i = some m := h
      rw [find_insAll_not glob .nil (fun x hx => by
        simp only [glob, List.mem_cons, List.not_mem_nil, or_false] at hx
        rcases hx with rfl | rfl
        · exact fun e => h0 e.symm
        · exact fun e => h1 e.symm)] at h'
      cases h'
theorem row_rel {β : Bt} {ng i R : Nat} {l : List Value} {cs : Array Value} {ty : TypeId} {fr : Nat × Nat} (hp : l.all plain1 = true) (hc : cs.toList = l) (hi : i < ng) : objRel β ng i R (mkRow l none) (some (.cells cs ty fr)) := by
  refine ⟨cs, ty, fr, rfl, fun k v hk => ?_, fun e he => (by cases he), fun h => absurd h (by omega)⟩
  rw [T.find_list] at hk
  refine ⟨v, by rw [← Array.getElem?_toList, hc]; exact hk, VR.plain1 (List.all_eq_true.1 hp v (List.mem_of_getElem? hk))⟩
theorem wr0 {W : World} (h6 : 6 ≤ W.heap.size) {c0 c1 : Array Value} {t0 t1 : TypeId} {r0 r1 : Nat × Nat} (e0 : W.heap[0]? = some (.cells c0 t0 r0)) (l0 : c0.toList = kindsC) (e1 : W.heap[1]? = some (.cells c1 t1 r1)) (l1 : c1.toList = powC) :
    WR E0.ng beta0 s0 W where
  dom i x e := by
    unfold beta0 at e
    split at e
    · show i < 7; omega
    · cases e
  live i m e := by
    show i < 7
    rcases glob_find e with ⟨rfl, _⟩ | ⟨rfl, _⟩ <;> omega
  blk i b R e := by
    unfold beta0 at e
    split at e
    · cases e; omega
    · cases e
  rel i m b R e hb := by
    have hng : E0.ng = 6 := envG_ng _
    rw [hng]
    rcases glob_find e with ⟨rfl, rfl⟩ | ⟨rfl, rfl⟩
    · cases hb; rw [e0]; exact row_rel rfl l0 (by omega)
    · cases hb; rw [e1]; exact row_rel rfl l1 (by omega)
  inj i j m m' b R R' e _ hng _ _ _ := by
    have hng' : E0.ng = 6 := envG_ng _
    rw [hng'] at hng
    rcases glob_find e with ⟨rfl, _⟩ | ⟨rfl, _⟩ <;> omega
  glob g hg := by
    have hng' : E0.ng = 6 := envG_ng _
    rw [hng'] at hg
    exact ⟨0, if_pos hg⟩
  ngn := by
    have hng' : E0.ng = 6 := envG_ng _
    rw [hng']
    show 6 ≤ 7
    omega
theorem top_calls {W : World} (h6 : 6 ≤ W.heap.size) {c0 c1 : Array Value} {t0 t1 : TypeId} {r0 r1 : Nat × Nat} (e0 : W.heap[0]? = some (.cells c0 t0 r0)) (l0 : c0.toList = kindsC) (e1 : W.heap[1]? = some (.cells c1 t1 r1)) (l1 : c1.toList = powC)
    (x : Int) (hx0 : 0 ≤ x) (hx1 : x ≤ 255) : Calls Tryz.prog 3 #[.int .u8 x] W fun e W' => e = .returned (.bool true) ∧ W'.os = W.os ∧ W'.output = W.output ∧ W.heap.size ≤ W'.heap.size ∧ ∀ k, k < W.heap.size → W'.heap[k]? = W.heap[k]? := by
  obtain ⟨n, rfl⟩ := Int.eq_ofNat_of_zero_le hx0
  obtain ⟨s', hs⟩ := top_at n (by omega)
  obtain ⟨_, hcall⟩ := simF2 40 3 _ s0 _ s' hs
  refine (hcall beta0 W [.int .u8 n] (.cons (.int _ _) .nil) (wr0 h6 e0 l0 e1 l1)).mono fun e W' ⟨v', β', he, hv, hst⟩ => ?_
  cases hv
  refine ⟨he, hst.io.1, hst.io.2, hst.size_le, fun k hk => hst.rfr k hk fun i m R e hng => ?_⟩
  have hng' : E0.ng = 6 := envG_ng _
  rw [hng'] at hng
  rcases glob_find e with ⟨rfl, _⟩ | ⟨rfl, _⟩ <;> omega
end Go.Proofs.YtpmehdggikjkfaaGreatDoor.Rf
