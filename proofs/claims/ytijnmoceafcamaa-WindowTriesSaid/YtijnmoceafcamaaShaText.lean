/- text: twenty bytes as a string; '==' of two digests; sluicewaylaw02.shown is true. -/
import Derived.Test.YtijnmoceafcamaaShaOwn
import Derived.Stop.BytesEq
import Derived.Lib.SlBytesConst
namespace Go.Proofs.Ytijnmoceafcamaa.Sha
set_option linter.unusedVariables false
set_option linter.unusedSimpArgs false
open Go.RowKit
open Go.Proofs.YtijnmoceafcamaaW.PrintWords

theorem outB_byte (s : Five) : ∀ x ∈ outB s, 0 ≤ x ∧ x ≤ 255 := by
  intro x hx
  simp only [outB, be4, List.mem_append, List.mem_cons, List.not_mem_nil, or_false] at hx
  omega
theorem digest_byte (m : List Int) : ∀ x ∈ digest m, 0 ≤ x ∧ x ≤ 255 := outB_byte _
def u8s (l : List Int) : List UInt8 := l.map fun x => UInt8.ofNat x.toNat
theorem bcells_u8s {l : List Int} (h : ∀ x ∈ l, 0 ≤ x ∧ x ≤ 255) : bcells l = ((u8s l).map Extern.Stop.cell).toArray := by
  have : bytes l = (u8s l).map Extern.Stop.cell := by
    simp only [bytes, u8s, List.map_map]
    refine List.map_congr_left fun x hx => ?_
    have := h x hx
    show Value.int .u8 x = Value.int .u8 _
    congr 1
    rw [UInt8.toNat_ofNat_of_lt' (by simp [UInt8.size]; omega)]
    exact (Int.toNat_of_nonneg this.1).symm
  rw [bcells, this]
theorem u8s_beq : ∀ {l r : List Int}, (∀ x ∈ l, 0 ≤ x ∧ x ≤ 255) → (∀ x ∈ r, 0 ≤ x ∧ x ≤ 255) → (u8s l == u8s r) = decide (l = r)
  | [], [], _, _ => by simp [u8s]
  | [], _ :: _, _, _ => by simp [u8s]
  | _ :: _, [], _, _ => by simp [u8s]
  | x :: l, y :: r, h1, h2 => by
    have ih := u8s_beq (l := l) (r := r) (fun z hz => h1 z (by simp [hz])) (fun z hz => h2 z (by simp [hz]))
    have a1 := h1 x (by simp)
    have a2 := h2 y (by simp)
    have e : (UInt8.ofNat x.toNat == UInt8.ofNat y.toNat) = decide (x = y) := by
      rw [Bool.eq_iff_iff]
      simp only [beq_iff_eq, decide_eq_true_eq, ← UInt8.toNat_inj, UInt8.toNat_ofNat']
      omega
    have e2 : (u8s (x :: l) == u8s (y :: r)) = ((UInt8.ofNat x.toNat == UInt8.ofNat y.toNat) && (u8s l == u8s r)) := by
      simp [u8s, List.cons_beq_cons]
    rw [e2, e, ih]
    simp
theorem size5 (w : World) : (sizeOf 5).run Try.prog w = .ok 1 w := by kernel_rfl
theorem run_eql_digest (w : World) (a b : List Int) : (binOp .eql 24 (.agg (bcells (digest a))) (.agg (bcells (digest b)))).run Try.prog w = .ok (.bool (decide (digest a = digest b))) w := by
  rw [bcells_u8s (digest_byte a), bcells_u8s (digest_byte b), run_eql_bytes w 24 5 20 Try.underlying24 Try.underlying5 size5 _ _ rfl rfl, u8s_beq (digest_byte a) (digest_byte b)]
theorem run_neq_digest (w : World) (a b : List Int) : (binOp .neq 24 (.agg (bcells (digest a))) (.agg (bcells (digest b)))).run Try.prog w = .ok (.bool (!decide (digest a = digest b))) w := by
  have h := run_eql_digest w a b
  rw [run_eql_struct] at h
  rw [run_neq_struct]
  cases hq : (Op.equalIn 10000 24 (.agg (bcells (digest a))) (.agg (bcells (digest b)))).run Try.prog w with
  | ok v w1 =>
    rw [hq] at h
    simp only [Result.andThen_ok, Result.ok.injEq, Value.bool.injEq] at h ⊢
    obtain ⟨h1, h2⟩ := h
    exact ⟨by rw [h1], h2⟩
  | _ => rw [hq] at h; simp [Result.andThen] at h

theorem conv_box {w : World} {O : Nat} {l : List Int} {t : TypeId} (h : w.heap[O]? = some (.cells (bcells l) t (0, 0))) (hl : l.length = 20) : (convert 22 9 (.slice (some ⟨O, 0, none⟩) 20 20)).run Try.prog w = .ok (.string (strOfNums l)) w :=
  string_of_reads Try.underlying22 Try.underlying5 Try.underlying9 ⟨hl, by decide, fun _ => ⟨_, rfl, fun j hj => by
    rw [Addr.add_lit, Nat.zero_add, blk_cell h]
    have hj' : j < l.length := by omega
    simp [bcells, bytes, hj']⟩⟩
set_option maxHeartbeats 1000000 in
set_option maxRecDepth 100000 in
theorem text_calls (l : List Int) (hl : l.length = 20) (w : World) : Calls Try.prog 22 #[.agg (bcells l)] w fun e w' => e = .returned (.string (strOfNums l)) ∧ Below w.heap.size w w' := by
  have hl' := Aside0.mk hl
  clear hl
  go_enter Try.func22, Try.ntmps22
  go_wp2_with ((with_reducible refine gate_dst (N := 1) rfl ?_); refine box_event rfl (N := 1) rfl (cs := bcells l) (t := 24) ?hr ?_; (case hr => first | (go_simp; done) | (go_simp; rfl)); intro O hO0 w3 hbox0 hb30; have hb3 := Aside0.mk hb30; have hcv := conv_box hbox0 hl'.out; clear hO0 hbox0 hb30)
  go_ret
  exact ⟨rfl, hb3.out⟩
theorem str_abc : strOfNums (digest [97, 98, 99]) = ⟨#[169, 153, 62, 54, 71, 6, 129, 106, 186, 62, 37, 113, 120, 80, 194, 108, 156, 208, 216, 157]⟩ := by
  rw [show digest [97, 98, 99] = [169, 153, 62, 54, 71, 6, 129, 106, 186, 62, 37, 113, 120, 80, 194, 108, 156, 208, 216, 157] by decide +kernel]
  rfl
theorem str_none : strOfNums (digest []) = ⟨#[218, 57, 163, 238, 94, 107, 75, 13, 50, 85, 191, 239, 149, 96, 24, 144, 175, 216, 7, 9]⟩ := by
  rw [show digest [] = [218, 57, 163, 238, 94, 107, 75, 13, 50, 85, 191, 239, 149, 96, 24, 144, 175, 216, 7, 9] by decide +kernel]
  rfl
theorem reads_new (w : World) (l : List Int) (fr : Nat × Nat) : ReadsB (w.alloc (.cells (bcells l) 5 fr)) (some ⟨w.heap.size, 0, none⟩) l := fun _ => ⟨_, rfl, fun j hj => by
  rw [Addr.add_lit, Nat.zero_add, World.cell?_alloc_mark]
  simp [bcells, bytes, hj]⟩
set_option maxHeartbeats 1000000 in
set_option maxRecDepth 100000 in
theorem shown_calls (w : World) : Calls Try.prog 20 #[] w fun e w' => e = .returned (.bool true) ∧ Below w.heap.size w w' := by
  have kc := fun (w : World) (C : Array Value) (n c : Nat) => Lib.run_convert_bytes_const (P := Try.prog) w 22 5 C n c Try.underlying22 Try.underlying5
  have hb0 : Aside0 (Below w.heap.size w (w.alloc (.cells #[.int .u8 97, .int .u8 98, .int .u8 99] 5 (3, 4)))) := Aside0.mk (below_alloc (Below.refl _ _) _)
  go_enter Try.func20, Try.ntmps20
  go_wp2_with (first
    | (go_at_call 22; refine (text_calls _ (digest_len _) w3).mono ?_; rintro e w4 ⟨rfl, h4⟩; rw [str_none]; have hb4 := Aside0.mk (below_step hb3.out h4); clear h4)
    | (go_at_call 21; refine (sum_calls [] none 0 w2 (fun h => absurd h (by decide)) (by decide) (by decide)).mono ?_; rintro e w3 ⟨rfl, h3⟩; have hb3 := Aside0.mk (below_step hb2.out h3); clear h3)
    | (go_at_call 22; refine (text_calls _ (digest_len _) w1).mono ?_; rintro e w2 ⟨rfl, h2⟩; rw [str_abc]; have hb2 := Aside0.mk (below_step hb1.out h2); clear h2)
    | (go_at_call 21; refine (sum_calls [97, 98, 99] _ 3 _ (reads_new w [97, 98, 99] (3, 4)) (by decide) (by decide)).mono ?_; rintro e w1 ⟨rfl, h1⟩; have hb1 := Aside0.mk (below_step hb0.out h1); clear h1))
  go_ret
  exact ⟨rfl, hb4.out⟩
theorem cutB {w : World} {A : Option Addr} {l : List Int} {c : Nat} (K : Int) (hK : 0 ≤ K) (h : ReadsB w A l) (hc : l.length ≤ c) (hb : ∀ x ∈ l, 0 ≤ x ∧ x ≤ 255) :
    ∃ (n : Nat) (p : List Int), (if K < (l.length : Int) then K else (l.length : Int)) = (n : Int) ∧ p.length = n ∧ n ≤ K.toNat ∧ n ≤ c ∧ n ≤ l.length ∧ p = l.take n ∧ ReadsB w A p ∧ ∀ x ∈ p, 0 ≤ x ∧ x ≤ 255 := by
  refine ⟨min l.length K.toNat, l.take (min l.length K.toNat), by split <;> omega, by rw [List.length_take]; omega, by omega, by omega, by omega, rfl, ?_, fun x hx => hb x (List.mem_of_mem_take hx)⟩
  intro h0
  rw [List.length_take] at h0
  obtain ⟨ad, e, hr⟩ := h (by omega)
  refine ⟨ad, e, fun j hj => ?_⟩
  rw [List.length_take] at hj
  rw [hr j (by omega)]
  simp [List.getD_eq_getElem?_getD, List.getElem?_take_of_lt (show j < min l.length K.toNat by omega)]
theorem byte2 {a b : List Int} (ha : ∀ x ∈ a, 0 ≤ x ∧ x ≤ 255) (hb : ∀ x ∈ b, 0 ≤ x ∧ x ≤ 255) : ∀ x ∈ a ++ b, 0 ≤ x ∧ x ≤ 255 := fun x hx => (List.mem_append.1 hx).elim (ha x) (hb x)
theorem byte3 {a b c : List Int} (ha : ∀ x ∈ a, 0 ≤ x ∧ x ≤ 255) (hb : ∀ x ∈ b, 0 ≤ x ∧ x ≤ 255) (hc : ∀ x ∈ c, 0 ≤ x ∧ x ≤ 255) : ∀ x ∈ a ++ b ++ c, 0 ≤ x ∧ x ≤ 255 := byte2 (byte2 ha hb) hc
theorem byte_of_wf {l : List Int} (h : ∀ x ∈ l, (Lit.int .u8 x).wf = true) : ∀ x ∈ l, 0 ≤ x ∧ x ≤ 255 := by
  intro x hx
  have := h x hx
  simp [Lit.wf, IntKind.min, IntKind.max, IntKind.wrap, IntKind.bits, IntKind.signed] at this
  omega
theorem ReadsB.cut {w : World} {A : Option Addr} {p : List Int} (h : ReadsB w A p) (j m : Nat) (hj : j ≤ m) (hm : m ≤ p.length) : ReadsB w (A.map (·.add (j * 1))) ((p.drop j).take (m - j)) := by
  intro h0
  rw [List.length_take, List.length_drop] at h0
  obtain ⟨ad, e, hr⟩ := h (by omega)
  refine ⟨ad.add (j * 1), by rw [e]; rfl, fun i hi => ?_⟩
  rw [List.length_take, List.length_drop] at hi
  have h1 := hr (j + i) (by omega)
  rw [Nat.mul_one, show (ad.add j).add i = ad.add (j + i) by rw [add_add], h1]
  simp [List.getD_eq_getElem?_getD, List.getElem?_take_of_lt (show i < m - j by omega)]
section
variable {ops : Array Oper} {rest : List Oper} {o : Oper} {a : Act} {Q : Exit → Act → World → Prop} {w : World}
/-- x[lo:hi] of a row that is read. -/
theorem own_cut (hgd : o.guard = none) (x lo hi : Operand) (ho : o.op = .slice 22 x (some lo) (some hi) none) {A : Option Addr} {n c : Nat} (hx : a.eval x = .slice A n c) (j m : Nat) {jj mm : Int} (hlo : a.eval lo = .int .i64 jj) (hhi : a.eval hi = .int .i64 mm) (ej : jj = j) (em : mm = m)
    (p : List Int) (hn : p.length = n) (hp : ReadsB w A p) (hjm : j < m) (hmn : m ≤ n) (hc : n ≤ c)
    (k : ∀ A' c' N, ((p.drop j).take (m - j)).length = N → N = m - j → ReadsB w A' ((p.drop j).take (m - j)) → wpList Try.prog ops Q rest (a.put o.dst (.slice A' N c')) w) : wpList Try.prog ops Q (o :: rest) a w := by
  subst ej em
  obtain ⟨i5, hi5, hzz⟩ := Option.map_eq_some_iff.1 info5
  simp only [Prod.mk.injEq] at hzz
  have hrun := cut_mid (P := Try.prog) 22 5 .i64 .i64 Try.underlying22 hi5 1 hzz.2.1 A n c (j : Int) (m : Int) (by omega) (by omega) (by omega) hc w
  rw [Int.toNat_natCast, Int.toNat_natCast, if_neg (by omega)] at hrun
  refine Kd.event_run hgd (v := .slice (A.map (·.add (j * 1))) (m - j) (c - j)) (w1 := w) ?_ ?_
  · unfold execOp
    simp only [Nat.mul_one] at hrun ⊢
    simp [ho, hx, hlo, hhi, Instr.sliceAt, hrun]
  · exact k _ _ _ (by rw [List.length_take, List.length_drop]; omega) rfl (hp.cut j m (by omega) (by omega))
end
theorem and_low (a : Int) (m : Nat) (hm : m < 4294967296) : 0 ≤ Go.bits .and .i64 a m ∧ Go.bits .and .i64 a m ≤ m := by
  have e : Go.bits .and .i64 a m = IntKind.i64.wrap (((BitVec.ofInt 64 a &&& BitVec.ofInt 64 m).toNat : Nat) : Int) := rfl
  have h : (BitVec.ofInt 64 a &&& BitVec.ofInt 64 m).toNat ≤ m := by
    rw [BitVec.toNat_and, BitVec.ofInt_natCast]
    refine Nat.le_trans Nat.and_le_right ?_
    rw [BitVec.toNat_ofNat]
    exact Nat.mod_le _ _
  rw [e]
  generalize (BitVec.ofInt 64 a &&& BitVec.ofInt 64 m).toNat = x at h
  have : IntKind.i64.wrap (x : Int) = x := by
    simp [IntKind.wrap, IntKind.bits, IntKind.signed, IntKind.min, IntKind.max]
    omega
  rw [this]
  omega
theorem and_low_mod (a : Int) (m : Nat) (n : Int) (hm : m < 4294967296) (hn : 0 < n) : ∃ q : Int, Int.tmod (Go.bits .and .i64 a m) n = q ∧ 0 ≤ q ∧ q ≤ n - 1 := by
  have h := and_low a m hm
  refine ⟨_, rfl, Int.tmod_nonneg _ h.1, ?_⟩
  have := Int.tmod_lt_of_pos (Go.bits .and .i64 a m) hn
  omega
theorem row_at {w : World} {A : Option Addr} {ll : List (List Int)} (h : Kd.C (Kd.slice 22 (Kd.int .u8)) w A ll.length ll) (j : Nat) (hj : j < ll.length) :
    ∃ ad Aj cj, A = some ad ∧ w.cell? (ad.add j) = some (.slice Aj (ll.getD j []).length cj) ∧ (ll.getD j []).length ≤ cj ∧ ReadsB w Aj (ll.getD j []) := by
  obtain ⟨ad, c, e, _, hk, hc⟩ := Kd.C_get h [] (j : Int) (by omega) (by omega)
  obtain ⟨Aj, cj, rfl, hle, hC⟩ := hk
  have hcell := hc 0 _ rfl
  have e1 : (Int.toNat (j : Int)) * (Kd.slice 22 (Kd.int .u8)).sz + 0 = j := Nat.mul_one _
  rw [e1] at hcell
  exact ⟨ad, Aj, cj, e, hcell, hle, readsB_of_C hC⟩
theorem Owns.drop {b w : World} {rs : List Res} {r : Res} (h : Owns b w (rs ++ [r])) : Owns b w rs := by
  have up : ∀ (i : Nat) (s : Res), rs[i]? = some s → (rs ++ [r])[i]? = some s := by
    intro i s hi
    have hl : i < rs.length := by
      rcases Nat.lt_or_ge i rs.length with hl | hl
      · exact hl
      · rw [List.getElem?_eq_none hl] at hi; cases hi
    rw [List.getElem?_append_left hl]
    exact hi
  exact ⟨h.below, fun i s hi => h.ok i s (up i s hi), fun i s hi => h.ge i s (up i s hi), fun i j s t hne hi hj => h.apart i j s t hne (up i s hi) (up j t hj)⟩
theorem getD_mem_nil {ll : List (List Int)} (h : ∀ r ∈ ll, ∀ x ∈ r, 0 ≤ x ∧ x ≤ 255) (j : Nat) : ∀ x ∈ ll.getD j [], 0 ≤ x ∧ x ≤ 255 := by
  intro x hx
  rcases Nat.lt_or_ge j ll.length with hj | hj
  · rw [List.getD_eq_getElem?_getD, List.getElem?_eq_getElem hj] at hx
    exact h _ (List.getElem_mem hj) x hx
  · rw [List.getD_eq_getElem?_getD, List.getElem?_eq_none hj] at hx
    simp at hx
theorem Owns.laid {b w : World} {rs : List Res} (h : Owns b w rs) (o : Obj) : Owns b (w.alloc o) rs := h.stay (Keeps.of_below (below_alloc (Below.refl _ _) o) _)
theorem own_append_step {ops : Array Oper} {o : Oper} {a : Act} {K : Act → World → Prop} {Q : Exit → Act → World → Prop} {E : Prop} {b w : World} {rs : List Res} (h : Owns b w rs) (i : Nat) {v : Value} {l : List Int} {gl : Option Nat} (hi : rs[i]? = some (rowR v l gl)) (hgd : o.guard = none) (s x : Operand) (ho : o.op = .call { callee := .builtin .append, args := #[s, x], argTypes := #[22, 22] }) (hty : o.type = 22)
    (hs : a.eval s = v) {A : Option Addr} {n c : Nat} (hx : a.eval x = .slice A n c) (p : List Int) (hn : p.length = n) (hp : ReadsB w A p) (hb : l.length + n ≤ 140737488355328)
    (k : ∀ A' c' N w' gl', (l ++ p).length = N → N ≤ c' → Owns b w' (rs.set i (rowR (.slice A' N c') (l ++ p) gl')) → K (a.put o.dst (.slice A' N c')) w') :
    if Region.wanted o (yielded ops a.tmps) = true then Oper.wp Try.prog o a w K Q else E := by
  have hw : Region.wanted o (yielded ops a.tmps) = true := by simp [Region.wanted, hgd]
  rw [if_pos hw]
  obtain ⟨A', c', N, w', gl', hrun, h1, h2, h3⟩ := own_append_run h i hi (c := c) p hn hp hb
  unfold Oper.wp
  simp [execOp, ho, hty, resolve, invoke, builtin, hs, hx, hrun, Result.andThen]
  exact k A' c' N w' gl' h1 h2 h3
theorem own_sumrow {b w : World} {rs : List Res} (h : Owns b w rs) (i : Nat) {A : Option Addr} {n c : Nat} {p : List Int} {gl : Option Nat} (hi : rs[i]? = some (rowR (.slice A n c) p gl)) (hn : p.length = n) (hpb : ∀ x ∈ p, 0 ≤ x ∧ x ≤ 255) (hlen : n ≤ 70368744177000) :
    Calls Try.prog 21 #[.slice A n c] w fun e w' => e = .returned (.agg (bcells (digest p))) ∧ Owns b w' rs := own_sum h p A n c hn (own_reads h i hi) hpb hlen
theorem own_range {b w : World} {rs : List Res} (h : Owns b w rs) (i : Nat) {O : Nat} {l : List Int} (hi : rs[i]? = some (boxR O l)) : w.rangeAt O 0 (bytes l) := rangeAt_of (t := 24) (h.ok i _ hi)
theorem run_eql_digest1 (w : World) (a b : List Int) : (binOp .eql 24 (.agg (bytes (digest a)).toArray) (.agg (bcells (digest b)))).run Try.prog w = .ok (.bool (decide (digest a = digest b))) w := run_eql_digest w a b
theorem run_eql_digest2 (w : World) (a b : List Int) : (binOp .eql 24 (.agg (bcells (digest a))) (.agg (bytes (digest b)).toArray)).run Try.prog w = .ok (.bool (decide (digest a = digest b))) w := run_eql_digest w a b
theorem run_eql_digest3 (w : World) (a b : List Int) : (binOp .eql 24 (.agg (bytes (digest a)).toArray) (.agg (bytes (digest b)).toArray)).run Try.prog w = .ok (.bool (decide (digest a = digest b))) w := run_eql_digest w a b
theorem run_neq_digest1 (w : World) (a b : List Int) : (binOp .neq 24 (.agg (bytes (digest a)).toArray) (.agg (bcells (digest b)))).run Try.prog w = .ok (.bool (!decide (digest a = digest b))) w := run_neq_digest w a b
theorem run_neq_digest2 (w : World) (a b : List Int) : (binOp .neq 24 (.agg (bcells (digest a))) (.agg (bytes (digest b)).toArray)).run Try.prog w = .ok (.bool (!decide (digest a = digest b))) w := run_neq_digest w a b
theorem size24b (m : List Int) : (Try.prog.info? 24).map (·.size) = some (bytes (digest m)).length := by
  rw [size24]; rfl
/-- Byte k of a row of one's own: it can be stored into. -/
theorem own_at {b w : World} {rs : List Res} (h : Owns b w rs) (i : Nat) {A : Option Addr} {N c : Nat} {l : List Int} {gl : Option Nat} (hi : rs[i]? = some (rowR (.slice A N c) l gl)) (k : Nat) (hk : k < N) (hN : l.length = N) :
    ∃ g o, A = some ⟨g, o, none⟩ ∧ w.cell? ⟨g, o + k, none⟩ = some (.int .u8 (l.getD k 0)) ∧ w.frozen? ⟨g, o + k, none⟩ = false ∧ ∀ x, Owns b (w.setCell ⟨g, o + k, none⟩ (.int .u8 x)) (rs.set i (rowR (.slice (some ⟨g, o, none⟩) N c) (l.set k x) gl)) := by
  have hL : LeftAt w (.slice A N c) l gl := h.ok i _ hi
  rcases hL with ⟨e, hl, _⟩ | ⟨g, o, cap, cur, e, hgl, hle, hg, hsz, hcur⟩
  · rw [hl] at hN; simp at hN; omega
  · injection e with e1 e2 e3
    subst e1 e2 e3 hgl
    refine ⟨g, o, rfl, (blk_cell hg _).trans (hcur k hk), blk_frozen hg _, fun x => h.put hi ?_ ?_ (fun j hj => .inl hj)⟩
    · refine ⟨rfl, rfl, rfl, by simp, fun j hj hX => Below.heap_setCell w ⟨g, o + k, none⟩ _ j (fun e => hX (by simp [rowR, e]))⟩
    · exact .inr ⟨g, o, c, _, by rw [List.length_set], rfl, by rw [List.length_set]; exact hle, blk_set hg _ _, by simpa using hsz, fun j hj => by
        rw [List.length_set] at hj
        rw [Array.getElem?_setIfInBounds]
        by_cases hjk : k = j
        · subst hjk
          rw [if_pos rfl, if_pos (by omega)]
          simp [List.getD_eq_getElem?_getD, hj]
        · rw [if_neg (by omega), hcur j hj]
          simp [List.getD_eq_getElem?_getD, hjk]⟩
end Go.Proofs.Ytijnmoceafcamaa.Sha
