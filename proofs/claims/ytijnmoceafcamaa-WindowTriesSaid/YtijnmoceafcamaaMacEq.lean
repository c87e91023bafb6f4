/- mac.Equal: whether two rows of bytes are the same; sluicewaylaw03.shown is true. -/
import Derived.Test.YtijnmoceafcamaaMacSum
import Derived.Lib.SmallJoins
namespace Go.Proofs.Ytijnmoceafcamaa.Sha
set_option linter.unusedVariables false
set_option linter.unusedSimpArgs false
open Go.RowKit
open Go.Proofs.YtijnmoceafcamaaW.PrintWords
theorem or8 (a b : Nat) (ha : a < 256) (hb : b < 256) : Go.bits .or .u8 a b = ((a ||| b : Nat) : Int) := by
  show IntKind.u8.wrap (((BitVec.ofInt 8 a ||| BitVec.ofInt 8 b).toNat : Nat) : Int) = _
  rw [BitVec.toNat_or, BitVec.ofInt_natCast, BitVec.ofInt_natCast, BitVec.toNat_ofNat, BitVec.toNat_ofNat, Nat.mod_eq_of_lt (by omega), Nat.mod_eq_of_lt (by omega)]
  have : a ||| b < 2 ^ 8 := Nat.or_lt_two_pow (by omega) (by omega)
  show ((a ||| b : Nat) : Int) % 256 = _
  omega
theorem xor8_nat (a b : Nat) (ha : a < 256) (hb : b < 256) : xor8 a b = ((a ^^^ b : Nat) : Int) := by
  show IntKind.u8.wrap (((BitVec.ofInt 8 a ^^^ BitVec.ofInt 8 b).toNat : Nat) : Int) = _
  rw [BitVec.toNat_xor, BitVec.ofInt_natCast, BitVec.ofInt_natCast, BitVec.toNat_ofNat, BitVec.toNat_ofNat, Nat.mod_eq_of_lt (by omega), Nat.mod_eq_of_lt (by omega)]
  have : a ^^^ b < 2 ^ 8 := Nat.xor_lt_two_pow (by omega) (by omega)
  show ((a ^^^ b : Nat) : Int) % 256 = _
  omega
theorem or8_zero (x y : Int) (hx : 0 ≤ x ∧ x ≤ 255) (hy : 0 ≤ y ∧ y ≤ 255) : (0 ≤ Go.bits .or .u8 x y ∧ Go.bits .or .u8 x y ≤ 255) ∧ (Go.bits .or .u8 x y = 0 ↔ x = 0 ∧ y = 0) := by
  obtain ⟨a, rfl⟩ := Int.eq_ofNat_of_zero_le hx.1
  obtain ⟨b, rfl⟩ := Int.eq_ofNat_of_zero_le hy.1
  have h := or8 a b (by omega) (by omega)
  have h2 : a ||| b < 2 ^ 8 := Nat.or_lt_two_pow (by omega) (by omega)
  rw [h]
  have h3 : (a ||| b) = 0 ↔ a = 0 ∧ b = 0 := Nat.or_eq_zero_iff
  omega
theorem xor8_zero (x y : Int) (hx : 0 ≤ x ∧ x ≤ 255) (hy : 0 ≤ y ∧ y ≤ 255) : xor8 x y = 0 ↔ x = y := by
  obtain ⟨a, rfl⟩ := Int.eq_ofNat_of_zero_le hx.1
  obtain ⟨b, rfl⟩ := Int.eq_ofNat_of_zero_le hy.1
  rw [xor8_nat a b (by omega) (by omega)]
  have h3 : (a ^^^ b) = 0 ↔ a = b := by
    constructor
    · intro h
      have h1 : (a ^^^ b) ^^^ b = 0 ^^^ b := by rw [h]
      rw [Nat.xor_assoc, Nat.xor_self, Nat.xor_zero, Nat.zero_xor] at h1
      exact h1
    · rintro rfl
      exact Nat.xor_self _
  omega
def RelEq (w : World) (a b : List Int) (v v5 : Value) (W : World) : Prop := ∃ (j : Nat) (u : Int), j ≤ a.length ∧ v = .int .i64 j ∧ v5 = .int .u8 u ∧ (0 ≤ u ∧ u ≤ 255) ∧ (u = 0 ↔ ∀ i, i < j → a.getD i 0 = b.getD i 0) ∧ W = w
theorem getD_ext {a b : List Int} (hl : a.length = b.length) : (∀ i, i < a.length → a.getD i 0 = b.getD i 0) ↔ a = b := by
  constructor
  · intro h
    apply List.ext_getElem hl
    intro i h1 h2
    have := h i h1
    simpa [List.getD_eq_getElem?_getD, h1, h2] using this
  · intro h i _
    rw [h]
theorem reads_cell {w : World} {A : Option Addr} {l : List Int} (h : ReadsB w A l) (j : Nat) (hj : j < l.length) : ∃ ad, A = some ad ∧ w.cell? (ad.add j) = some (.int .u8 (l.getD j 0)) := by
  obtain ⟨ad, e, hr⟩ := h (by omega)
  exact ⟨ad, e, hr j hj⟩
set_option maxHeartbeats 1000000 in
set_option maxRecDepth 100000 in
theorem equal_calls (a b : List Int) (A B : Option Addr) (n c m d : Nat) (w : World) (hn : a.length = n) (ha : ReadsB w A a) (hab : ∀ x ∈ a, 0 ≤ x ∧ x ≤ 255) (hm : b.length = m) (hb : ReadsB w B b) (hbb : ∀ x ∈ b, 0 ≤ x ∧ x ≤ 255) (hnc : n ≤ 1000000000) :
    Calls Try.prog 31 #[.slice A n c, .slice B m d] w fun e w' => e = .returned (.bool (decide (a = b))) ∧ w' = w := by
  by_cases hnm : (n : Int) = m
  · have hnmb : ((n : Int) != m) = false := by simp [hnm]
    replace hn := Aside0.mk hn
    replace hm := Aside0.mk hm
    replace ha := Aside0.mk ha
    replace hb := Aside0.mk hb
    replace hab := Aside0.mk hab
    replace hbb := Aside0.mk hbb
    replace hnm := Aside0.mk hnm
    have hn9 : (n : Int) ≤ 1000000000 := by omega
    go_enter Try.func31, Try.ntmps31
    go_wp2
    go_loopw [15, 5] (RelEq w a b) (fun v _ _ => (n - intOf v).toNat)
    case atStart => exact ⟨0, 0, by omega, rfl, rfl, by decide, by simp, rfl⟩
    case round =>
      obtain ⟨j, u, hj, rfl, rfl, hu, hju, rfl⟩ := hrel
      replace hju := Aside0.mk hju
      by_cases hjn : (j : Int) < n
      · obtain ⟨aa, rfl, ca⟩ := reads_cell ha.out j (by have := hn.out; omega)
        obtain ⟨ab, rfl, cb⟩ := reads_cell hb.out j (by have := hm.out; have := hnm.out; omega)
        have hjm : (j : Int) < m := by have := hnm.out; omega
        have hj2 := Aside0.mk hj
        have xa := getD_byte hab.out j
        have xb := getD_byte hbb.out j
        obtain ⟨o1, o2⟩ := or8_zero u (xor8 (a.getD j 0) (b.getD j 0)) hu (xor8_byte _ _)
        have o3 := xor8_zero (a.getD j 0) (b.getD j 0) xa xb
        have hnx : Aside0 (RelEq wr a b (.int .i64 ((j : Int) + 1)) (.int .u8 (Go.bits .or .u8 u (Go.bits .xor .u8 (a.getD j 0) (b.getD j 0)))) wr) := Aside0.mk ⟨j + 1, _, by have := hn.out; omega, rfl, rfl, o1, by
          refine o2.trans ?_
          rw [o3, hju.out]
          constructor
          · rintro ⟨h1, h2⟩ i hi
            rcases Nat.lt_or_ge i j with h3 | h3
            · exact h1 i h3
            · obtain rfl : i = j := by omega
              exact h2
          · exact fun h => ⟨fun i hi => h i (by omega), h j (by omega)⟩, rfl⟩
        clear o1 o2 o3 xa xb hj
        generalize a.getD j 0 = x at *
        generalize b.getD j 0 = y at *
        go_wp2
        exact ⟨hnx.out, by simp only [intOf]; omega⟩
      · have hd : (u == 0) = decide (a = b) := by
          obtain rfl : j = a.length := by have := hn.out; omega
          have h1 := hju.out.trans (getD_ext (by have := hn.out; have := hm.out; have := hnm.out; omega))
          rw [Bool.eq_iff_iff]
          simpa using h1
        go_wp2
        go_ret
        exact ⟨rfl, rfl⟩
  · have hnmb : ((n : Int) != m) = true := by simpa using hnm
    have hne : decide (a = b) = false := by
      apply decide_eq_false
      rintro rfl
      omega
    rw [hne]
    go_enter Try.func31, Try.ntmps31
    go_wp2
    go_ret
    exact ⟨rfl, rfl⟩
def jefe : List Int := [74, 101, 102, 101]
def what : List Int := [119, 104, 97, 116, 32, 100, 111, 32, 121, 97, 32, 119, 97, 110, 116, 32, 102, 111, 114, 32, 110, 111, 116, 104, 105, 110, 103, 63]
theorem str_jefe : strOfNums (macF jefe what) = ⟨#[239, 252, 223, 106, 229, 235, 47, 162, 210, 116, 22, 213, 241, 132, 223, 156, 37, 154, 124, 121]⟩ := by
  rw [show macF jefe what = [239, 252, 223, 106, 229, 235, 47, 162, 210, 116, 22, 213, 241, 132, 223, 156, 37, 154, 124, 121] by decide +kernel]
  rfl
theorem macF_len (key msg : List Int) : (macF key msg).length = 20 := digest_len _
set_option maxHeartbeats 1000000 in
set_option maxRecDepth 100000 in
theorem macShown_calls (w : World) : Calls Try.prog 29 #[] w fun e w' => e = .returned (.bool true) ∧ Below w.heap.size w w' := by
  have kc1 := fun (w : World) (C : Array Value) (n c : Nat) => Lib.run_convert_bytes_const (P := Try.prog) w 22 5 C n c Try.underlying22 Try.underlying5
  have kc2 := fun (fr : Nat × Nat) (D C : Array Value) (n c : Nat) => Go.Joins.run_convert_bytes_const_at (P := Try.prog) (w.alloc (.cells D 5 fr)) 22 5 C n c (w.heap.size + 1) (by simp) Try.underlying22 Try.underlying5
  have hO0 : Aside0 (Owns w ((w.alloc (.cells (bcells jefe) 5 (4, 5))).alloc (.cells (bcells what) 5 (28, 29))) []) := Aside0.mk (((Owns.start w).laid _).laid _)
  have hr1 : Aside0 (ReadsB ((w.alloc (.cells (bcells jefe) 5 (4, 5))).alloc (.cells (bcells what) 5 (28, 29))) (some ⟨w.heap.size, 0, none⟩) jefe) := Aside0.mk ((reads_new w jefe (4, 5)).below (below_alloc (Below.refl _ _) _))
  have hr2 : Aside0 (ReadsB ((w.alloc (.cells (bcells jefe) 5 (4, 5))).alloc (.cells (bcells what) 5 (28, 29))) (some ⟨w.heap.size + 1, 0, none⟩) what) := Aside0.mk (by
    have h := reads_new (w.alloc (.cells (bcells jefe) 5 (4, 5))) what (28, 29)
    rw [show (w.alloc (.cells (bcells jefe) 5 (4, 5))).heap.size = w.heap.size + 1 by simp] at h
    exact h)
  go_enter Try.func29, Try.ntmps29
  go_wp2_with (first
    | (refine store24 h2.out 0 rfl rfl _ _ rfl _ rfl rfl (by simp) (macF_len _ _) ?_; intro w3 h30; have h3 := Aside0.mk h30; have hcv := conv_box (h30.ok 0 _ rfl) (macF_len _ _); rw [str_jefe] at hcv; clear h30)
    | (refine alloc24 h1.out rfl rfl ?_; intro O w2 h20; have h2 := Aside0.mk h20; clear h20)
    | (go_at_call 30; refine (macSum_calls jefe what _ _ 4 4 28 28 _ rfl hr1.out (by decide) rfl hr2.out (by decide) (by decide) (by decide)).mono ?_; rintro e w1 ⟨rfl, hb⟩; have h1 := Aside0.mk (hO0.out.stay (Keeps.of_below hb _)); clear hb))
  go_ret
  exact ⟨rfl, h3.out.below⟩
def macP (key msg : List Int) : List Int := xorK (key64 key) 92 ++ digest (xorK (key64 key) 54 ++ msg)
theorem own_mac {b w : World} {rs : List Res} (h : Owns b w rs) (key msg : List Int) {A Am : Option Addr} {n c nm cm : Nat} (hn : key.length = n) (hkey : ReadsB w A key) (hkb : ∀ x ∈ key, 0 ≤ x ∧ x ≤ 255) (hnm : msg.length = nm) (hmsg : ReadsB w Am msg) (hmb : ∀ x ∈ msg, 0 ≤ x ∧ x ≤ 255) (hnl : n ≤ 1000000000) (hml : nm ≤ 1000000000) (Z : List Int) (hZ : macP key msg = Z) :
    Calls Try.prog 30 #[.slice A n c, .slice Am nm cm] w fun e w' => e = .returned (.agg (bcells (digest Z))) ∧ Owns b w' rs := by
  subst hZ
  refine (macSum_calls key msg A Am n c nm cm w hn hkey hkb hnm hmsg hmb (by omega) (by omega)).mono ?_
  rintro e w' ⟨rfl, hb⟩
  exact ⟨rfl, h.stay (Keeps.of_below hb _)⟩
theorem pad64_byte {l : List Int} (h : ∀ x ∈ l, 0 ≤ x ∧ x ≤ 255) : ∀ x ∈ pad64 l, 0 ≤ x ∧ x ≤ 255 := by
  intro x hx
  rcases List.mem_append.1 hx with h1 | h1
  · exact h x (List.mem_of_mem_take h1)
  · have := List.eq_of_mem_replicate (List.mem_of_mem_drop h1)
    omega
theorem pad64_full {l : List Int} (h : l.length = 64) : pad64 l = l := by
  rw [pad64, List.take_of_length_le (by omega), List.drop_eq_nil_of_le (by simp; omega), List.append_nil]
theorem own_equal {b w : World} {rs : List Res} (h : Owns b w rs) (x y : List Int) {A B : Option Addr} {n c m d : Nat} (hn : x.length = n) (hx : ReadsB w A x) (hxb : ∀ z ∈ x, 0 ≤ z ∧ z ≤ 255) (hm : y.length = m) (hy : ReadsB w B y) (hyb : ∀ z ∈ y, 0 ≤ z ∧ z ≤ 255) (hnc : n ≤ 1000000000) (r : Bool) (hr : decide (x = y) = r) :
    Calls Try.prog 31 #[.slice A n c, .slice B m d] w fun e w' => e = .returned (.bool r) ∧ w' = w := by
  subst hr
  exact equal_calls x y A B n c m d w hn hx hxb hm hy hyb hnc
theorem take_succ_map (P : List Int) (f : Int → Int) (j : Nat) (hj : j < P.length) : (P.take j).map f ++ [f (P.getD j 0)] = (P.take (j + 1)).map f := by
  rw [List.take_succ_eq_append_getElem hj, List.map_append]
  simp [List.getD_eq_getElem?_getD, hj]
end Go.Proofs.Ytijnmoceafcamaa.Sha
