/- text: twenty bytes as a string; '==' of two digests; sluicewaylaw02.shown is true. -/
import Derived.Test.YtijnmoceafcamaaShaOwn
import Derived.Stop.BytesEq
import Derived.Lib.SlBytesConst
namespace Go.Proofs.Ytijnmoceafcamaa.Sha
set_option linter.unusedVariables false
set_option linter.unusedSimpArgs false
open Go.RowKit
open Go.Proofs.YtijnmoceafcamaaW.PrintWords

theorem outB_byte (s : Five) : ∀ x ∈ outB s, 0 ≤ x ∧ x ≤ 255 := by
  intro x hx
  simp only [outB, be4, List.mem_append, List.mem_cons, List.not_mem_nil, or_false] at hx
  omega
theorem digest_byte (m : List Int) : ∀ x ∈ digest m, 0 ≤ x ∧ x ≤ 255 := outB_byte _
def u8s (l : List Int) : List UInt8 := l.map fun x => UInt8.ofNat x.toNat
theorem bcells_u8s {l : List Int} (h : ∀ x ∈ l, 0 ≤ x ∧ x ≤ 255) : bcells l = ((u8s l).map Extern.Stop.cell).toArray := by
  have : bytes l = (u8s l).map Extern.Stop.cell := by
    simp only [bytes, u8s, List.map_map]
    refine List.map_congr_left fun x hx => ?_
    have := h x hx
    show Value.int .u8 x = Value.int .u8 _
    congr 1
    rw [UInt8.toNat_ofNat_of_lt' (by simp [UInt8.size]; omega)]
    exact (Int.toNat_of_nonneg this.1).symm
  rw [bcells, this]
theorem u8s_beq : ∀ {l r : List Int}, (∀ x ∈ l, 0 ≤ x ∧ x ≤ 255) → (∀ x ∈ r, 0 ≤ x ∧ x ≤ 255) → (u8s l == u8s r) = decide (l = r)
  | [], [], _, _ => by simp [u8s]
  | [], _ :: _, _, _ => by simp [u8s]
  | _ :: _, [], _, _ => by simp [u8s]
  | x :: l, y :: r, h1, h2 => by
    have ih := u8s_beq (l := l) (r := r) (fun z hz => h1 z (by simp [hz])) (fun z hz => h2 z (by simp [hz]))
    have a1 := h1 x (by simp)
    have a2 := h2 y (by simp)
    have e : (UInt8.ofNat x.toNat == UInt8.ofNat y.toNat) = decide (x = y) := by
      rw [Bool.eq_iff_iff]
      simp only [beq_iff_eq, decide_eq_true_eq, ← UInt8.toNat_inj, UInt8.toNat_ofNat']
      omega
    have e2 : (u8s (x :: l) == u8s (y :: r)) = ((UInt8.ofNat x.toNat == UInt8.ofNat y.toNat) && (u8s l == u8s r)) := by
      simp [u8s, List.cons_beq_cons]
    rw [e2, e, ih]
    simp
theorem size5 (w : World) : (sizeOf 5).run Try.prog w = .ok 1 w := by kernel_rfl
theorem run_eql_digest (w : World) (a b : List Int) : (binOp .eql 24 (.agg (bcells (digest a))) (.agg (bcells (digest b)))).run Try.prog w = .ok (.bool (decide (digest a = digest b))) w := by
  rw [bcells_u8s (digest_byte a), bcells_u8s (digest_byte b), run_eql_bytes w 24 5 20 Try.underlying24 Try.underlying5 size5 _ _ rfl rfl, u8s_beq (digest_byte a) (digest_byte b)]
theorem run_neq_digest (w : World) (a b : List Int) : (binOp .neq 24 (.agg (bcells (digest a))) (.agg (bcells (digest b)))).run Try.prog w = .ok (.bool (!decide (digest a = digest b))) w := by
  have h := run_eql_digest w a b
  rw [run_eql_struct] at h
  rw [run_neq_struct]
  cases hq : (Op.equalIn 10000 24 (.agg (bcells (digest a))) (.agg (bcells (digest b)))).run Try.prog w with
  | ok v w1 =>
    rw [hq] at h
    simp only [Result.andThen_ok, Result.ok.injEq, Value.bool.injEq] at h ⊢
    obtain ⟨h1, h2⟩ := h
    exact ⟨by rw [h1], h2⟩
  | _ => rw [hq] at h; simp [Result.andThen] at h

theorem conv_box {w : World} {O : Nat} {l : List Int} {t : TypeId} (h : w.heap[O]? = some (.cells (bcells l) t (0, 0))) (hl : l.length = 20) : (convert 22 9 (.slice (some ⟨O, 0, none⟩) 20 20)).run Try.prog w = .ok (.string (strOfNums l)) w :=
  string_of_reads Try.underlying22 Try.underlying5 Try.underlying9 ⟨hl, by decide, fun _ => ⟨_, rfl, fun j hj => by
    rw [Addr.add_lit, Nat.zero_add, blk_cell h]
    have hj' : j < l.length := by omega
    simp [bcells, bytes, hj']⟩⟩
set_option maxHeartbeats 1000000 in
set_option maxRecDepth 100000 in
theorem text_calls (l : List Int) (hl : l.length = 20) (w : World) : Calls Try.prog 22 #[.agg (bcells l)] w fun e w' => e = .returned (.string (strOfNums l)) ∧ Below w.heap.size w w' := by
  have hl' := Aside0.mk hl
  clear hl
  go_enter Try.func22, Try.ntmps22
  go_wp2_with ((with_reducible refine gate_dst (N := 1) rfl ?_); refine box_event rfl (N := 1) rfl (cs := bcells l) (t := 24) ?hr ?_; (case hr => first | (go_simp; done) | (go_simp; rfl)); intro O hO0 w3 hbox0 hb30; have hb3 := Aside0.mk hb30; have hcv := conv_box hbox0 hl'.out; clear hO0 hbox0 hb30)
  go_ret
  exact ⟨rfl, hb3.out⟩
theorem str_abc : strOfNums (digest [97, 98, 99]) = ⟨#[169, 153, 62, 54, 71, 6, 129, 106, 186, 62, 37, 113, 120, 80, 194, 108, 156, 208, 216, 157]⟩ := by
  rw [show digest [97, 98, 99] = [169, 153, 62, 54, 71, 6, 129, 106, 186, 62, 37, 113, 120, 80, 194, 108, 156, 208, 216, 157] by decide +kernel]
  rfl
theorem str_none : strOfNums (digest []) = ⟨#[218, 57, 163, 238, 94, 107, 75, 13, 50, 85, 191, 239, 149, 96, 24, 144, 175, 216, 7, 9]⟩ := by
  rw [show digest [] = [218, 57, 163, 238, 94, 107, 75, 13, 50, 85, 191, 239, 149, 96, 24, 144, 175, 216, 7, 9] by decide +kernel]
  rfl
theorem reads_new (w : World) (l : List Int) (fr : Nat × Nat) : ReadsB (w.alloc (.cells (bcells l) 5 fr)) (some ⟨w.heap.size, 0, none⟩) l := fun _ => ⟨_, rfl, fun j hj => by
  rw [Addr.add_lit, Nat.zero_add, World.cell?_alloc_mark]
  simp [bcells, bytes, hj]⟩
set_option maxHeartbeats 1000000 in
set_option maxRecDepth 100000 in
theorem shown_calls (w : World) : Calls Try.prog 20 #[] w fun e w' => e = .returned (.bool true) ∧ Below w.heap.size w w' := by
  have kc := fun (w : World) (C : Array Value) (n c : Nat) => Lib.run_convert_bytes_const (P := Try.prog) w 22 5 C n c Try.underlying22 Try.underlying5
  have hb0 : Aside0 (Below w.heap.size w (w.alloc (.cells #[.int .u8 97, .int .u8 98, .int .u8 99] 5 (3, 4)))) := Aside0.mk (below_alloc (Below.refl _ _) _)
  go_enter Try.func20, Try.ntmps20
  go_wp2_with (first
    | (go_at_call 22; refine (text_calls _ (digest_len _) w3).mono ?_; rintro e w4 ⟨rfl, h4⟩; rw [str_none]; have hb4 := Aside0.mk (below_step hb3.out h4); clear h4)
    | (go_at_call 21; refine (sum_calls [] none 0 w2 (fun h => absurd h (by decide)) (by decide) (by decide)).mono ?_; rintro e w3 ⟨rfl, h3⟩; have hb3 := Aside0.mk (below_step hb2.out h3); clear h3)
    | (go_at_call 22; refine (text_calls _ (digest_len _) w1).mono ?_; rintro e w2 ⟨rfl, h2⟩; rw [str_abc]; have hb2 := Aside0.mk (below_step hb1.out h2); clear h2)
    | (go_at_call 21; refine (sum_calls [97, 98, 99] _ 3 _ (reads_new w [97, 98, 99] (3, 4)) (by decide) (by decide)).mono ?_; rintro e w1 ⟨rfl, h1⟩; have hb1 := Aside0.mk (below_step hb0.out h1); clear h1))
  go_ret
  exact ⟨rfl, hb4.out⟩
theorem cutB {w : World} {A : Option Addr} {l : List Int} {c : Nat} (K : Int) (hK : 0 ≤ K) (h : ReadsB w A l) (hc : l.length ≤ c) (hb : ∀ x ∈ l, 0 ≤ x ∧ x ≤ 255) :
    ∃ (n : Nat) (p : List Int), (if K < (l.length : Int) then K else (l.length : Int)) = (n : Int) ∧ p.length = n ∧ n ≤ K.toNat ∧ n ≤ c ∧ n ≤ l.length ∧ p = l.take n ∧ ReadsB w A p ∧ ∀ x ∈ p, 0 ≤ x ∧ x ≤ 255 := by
  refine ⟨min l.length K.toNat, l.take (min l.length K.toNat), by split <;> omega, by rw [List.length_take]; omega, by omega, by omega, by omega, rfl, ?_, fun x hx => hb x (List.mem_of_mem_take hx)⟩
  intro h0
  rw [List.length_take] at h0
  obtain ⟨ad, e, hr⟩ := h (by omega)
  refine ⟨ad, e, fun j hj => ?_⟩
  rw [List.length_take] at hj
  rw [hr j (by omega)]
  simp [List.getD_eq_getElem?_getD, List.getElem?_take_of_lt (show j < min l.length K.toNat by omega)]
theorem byte2 {a b : List Int} (ha : ∀ x ∈ a, 0 ≤ x ∧ x ≤ 255) (hb : ∀ x ∈ b, 0 ≤ x ∧ x ≤ 255) : ∀ x ∈ a ++ b, 0 ≤ x ∧ x ≤ 255 := fun x hx => (List.mem_append.1 hx).elim (ha x) (hb x)
theorem byte3 {a b c : List Int} (ha : ∀ x ∈ a, 0 ≤ x ∧ x ≤ 255) (hb : ∀ x ∈ b, 0 ≤ x ∧ x ≤ 255) (hc : ∀ x ∈ c, 0 ≤ x ∧ x ≤ 255) : ∀ x ∈ a ++ b ++ c, 0 ≤ x ∧ x ≤ 255 := byte2 (byte2 ha hb) hc
theorem byte_of_wf {l : List Int} (h : ∀ x ∈ l, (Lit.int .u8 x).wf = true) : ∀ x ∈ l, 0 ≤ x ∧ x ≤ 255 := by
  intro x hx
  have := h x hx
  simp [Lit.wf, IntKind.min, IntKind.max, IntKind.wrap, IntKind.bits, IntKind.signed] at this
  omega
end Go.Proofs.Ytijnmoceafcamaa.Sha
