/- mac.Sum: the code of a key and a message. Condition: fewer than 2^46 bytes. -/
import Derived.Test.YtijnmoceafcamaaMacRow
namespace Go.Proofs.Ytijnmoceafcamaa.Sha
set_option linter.unusedVariables false
set_option linter.unusedSimpArgs false
open Go.RowKit
open Go.Proofs.YtijnmoceafcamaaW.PrintWords
def xor8 (x y : Int) : Int := Go.bits .xor .u8 x y
def pad64 (key : List Int) : List Int := key.take 64 ++ (List.replicate 64 0).drop key.length
def xorK (key : List Int) (wi : Int) : List Int := (pad64 key).map fun x => xor8 x wi
def key64 (key : List Int) : List Int := if key.length ≤ 64 then key else digest key
def macF (key msg : List Int) : List Int := digest (xorK (key64 key) 92 ++ digest (xorK (key64 key) 54 ++ msg))
theorem own_cell {b w : World} {rs : List Res} (h : Owns b w rs) (i : Nat) {O : Nat} {v : Value} {t : TypeId} (hi : rs[i]? = some (cellR O v t)) : w.cell? ⟨O, 0, none⟩ = some v := (blk_cell (h.ok i _ hi) 0).trans rfl
theorem own_cellF {b w : World} {rs : List Res} (h : Owns b w rs) (i : Nat) {O : Nat} {v : Value} {t : TypeId} (hi : rs[i]? = some (cellR O v t)) : w.frozen? ⟨O, 0, none⟩ = false := blk_frozen (h.ok i _ hi) 0
theorem step_list (l : List Int) (f : Int → Int) (j : Nat) (hj : j < l.length) : ((l.take j).map f ++ l.drop j).getD j 0 = l.getD j 0 ∧ ((l.take j).map f ++ l.drop j).set j (f (l.getD j 0)) = (l.take (j + 1)).map f ++ l.drop (j + 1) := by
  have hl : ((l.take j).map f).length = j := by rw [List.length_map, List.length_take]; omega
  constructor
  · rw [List.getD_eq_getElem?_getD, List.getElem?_append_right (by omega), hl, List.getElem?_drop, List.getD_eq_getElem?_getD]
    congr 2
    omega
  · rw [List.set_append_right _ _ (by omega), hl, Nat.sub_self, List.drop_eq_getElem_cons hj, List.set_cons_zero, List.take_succ_eq_append_getElem hj, List.map_append, List.append_assoc]
    simp [List.getD_eq_getElem?_getD, hj]
def RelAr (w : World) (rs : List Res) (g : Nat) (key : List Int) (wi : Int) (v : Value) (W : World) : Prop := ∃ j : Nat, j ≤ 64 ∧ v = .int .i64 j ∧ Owns w W (rs ++ [rowR (.slice (some ⟨g, 0, none⟩) 64 64) (((pad64 key).take j).map (fun x => xor8 x wi) ++ (pad64 key).drop j) (some g)])
theorem pad64_len (key : List Int) : (pad64 key).length = 64 := by
  simp only [pad64, List.length_append, List.length_take, List.length_drop, List.length_replicate]
  omega
set_option maxHeartbeats 1000000 in
set_option maxRecDepth 100000 in
theorem around_calls (K : Nat) (key bb : List Int) (wi : Int) (A Ab : Option Addr) (n c nb cb : Nat) (w : World) (hK : w.heap[K]? = some (.cells #[.slice A n c] 22 (0, 0))) (hn : key.length = n) (hkey : ReadsB w A key) (hnb : bb.length = nb) (hbb : ReadsB w Ab bb) (hbl : nb ≤ 70368744176000)
    (hby : ∀ x ∈ xorK key wi ++ bb, 0 ≤ x ∧ x ≤ 255) :
    Calls Try.prog 45 #[.int .u8 wi, .slice Ab nb cb, .pointer (some ⟨K, 0, none⟩)] w fun e w' => e = .returned (.agg (bcells (digest (xorK key wi ++ bb)))) ∧ Below w.heap.size w w' := by
  have hO := Aside0.mk (Owns.start w)
  have hKl := Aside0.mk (blk_lt hK)
  have hkc := Aside0.mk ((blk_cell hK 0).trans (rfl : _ = some (Value.slice A n c)))
  replace hn := Aside0.mk hn
  replace hkey := Aside0.mk hkey
  replace hnb := Aside0.mk hnb
  replace hbb := Aside0.mk hbb
  replace hby := Aside0.mk hby
  clear hK
  go_enter Try.func45, Try.ntmps45
  go_wp2_with (first
    | (refine own_copy hO2.out 1 rfl (List.length_replicate ..) rfl _ _ rfl rfl rfl key hn.out (hkey.out.below hO2.out.below) ?_; intro v3 w3 h3; have hO3 := Aside0.mk h3; clear h3)
    | (refine own_make hO1.out rfl _ _ rfl 64 rfl rfl rfl (by decide) ?_; intro g w2 h2; have hO2 := Aside0.mk h2; have hkc2 := (h2.below.cell (p := ⟨K, 0, none⟩) hKl.out).trans hkc.out; clear h2)
    | (refine alloc24 hO.out rfl rfl ?_; intro O w1 h1; have hO1 := Aside0.mk h1; clear h1))
  go_loopw [14] (RelAr w [boxR O (List.replicate 20 0)] g key wi) (fun v _ => (64 - intOf v).toNat)
  case atStart => exact ⟨0, by omega, rfl, by have h := hO3.out; rw [← hn.out] at h; exact h⟩
  case round =>
    obtain ⟨j, hj, rfl, hJ⟩ := hrel
    by_cases hj64 : (j : Int) < 64
    · obtain ⟨g', o, e, hc1, hf1, hset⟩ := own_at hJ 1 rfl j (by omega) (by rw [List.length_append, List.length_map, List.length_take, List.length_drop, pad64_len]; omega)
      injection e with e
      injection e with e1 e2
      subst e1
      subst e2
      obtain ⟨s1, s2⟩ := step_list (pad64 key) (fun x => xor8 x wi) j (by rw [pad64_len]; omega)
      rw [s1] at hc1
      have hnx := Aside0.mk (hset (xor8 ((pad64 key).getD j 0) wi))
      have s2' := Aside0.mk s2
      generalize (pad64 key).getD j 0 = xj at *
      have hx8 : Go.bits .xor .u8 xj wi = xor8 xj wi := rfl
      rw [Nat.zero_add] at hc1 hf1
      clear hset s1 s2 hJ
      go_wp2
      refine ⟨⟨j + 1, by omega, by rfl, ?_⟩, by simp only [intOf]; omega⟩
      have h := hnx.out
      rw [s2'.out, Nat.zero_add] at h
      exact h
    · obtain rfl : j = 64 := by omega
      have hJ' := Aside0.mk hJ
      have e64 : ((pad64 key).take 64).map (fun x => xor8 x wi) ++ (pad64 key).drop 64 = xorK key wi := by
        rw [List.take_of_length_le (by rw [pad64_len]; omega), List.drop_eq_nil_of_le (by rw [pad64_len]; omega), List.append_nil]
        rfl
      rw [e64] at hJ'
      clear hJ e64
      have hxl : Aside0 ((xorK key wi).length = 64) := Aside0.mk (by rw [xorK, List.length_map, pad64_len])
      go_wp2_with (first
        | (refine store24 h5.out 0 rfl rfl _ _ rfl _ rfl rfl (by simp) (digest_len _) ?_; intro w6 h60; have h6 := Aside0.mk h60; clear h60)
        | (go_at_call 21; refine (own_sumrow h4.out 1 rfl hN4.out hby.out (by have := hN4.out; have := hxl.out; have := hnb.out; rw [List.length_append] at *; omega)).mono ?_; rintro e w5 ⟨rfl, h50⟩; have h5 := Aside0.mk h50; clear h50)
        | (refine own_append hJ'.out 1 rfl rfl _ _ rfl rfl rfl rfl bb hnb.out (hbb.out.below hJ'.out.below) (by have := hxl.out; omega) ?_; intro A4 c4 N4 w4 gl4 hN4 hc4 h40; have h4 := Aside0.mk h40; replace hN4 := Aside0.mk hN4; clear h40))
      refine bodyPost_ret (v := .agg (bcells (digest (xorK key wi ++ bb)))) ?_ ?_ ⟨rfl, h6.out.below⟩
      · have hld := own_loadVar h6.out 0 rfl (digest_len _)
        simp [results, Try.results45, Act.put, asAddr, hld]
      · simp [Act.put]
theorem xor8_byte (x y : Int) : 0 ≤ xor8 x y ∧ xor8 x y ≤ 255 := by
  have h : ∃ z : Int, xor8 x y = IntKind.u8.wrap z := ⟨_, rfl⟩
  obtain ⟨z, h⟩ := h
  rw [h]
  show 0 ≤ z % 256 ∧ z % 256 ≤ 255
  omega
theorem xorK_byte (key : List Int) (wi : Int) : ∀ x ∈ xorK key wi, 0 ≤ x ∧ x ≤ 255 := by
  intro x hx
  rw [xorK, List.mem_map] at hx
  obtain ⟨y, _, rfl⟩ := hx
  exact xor8_byte _ _
theorem own_around {b w : World} {rs : List Res} (h : Owns b w rs) (i : Nat) {K : Nat} {A : Option Addr} {n c : Nat} (hi : rs[i]? = some (cellR K (.slice A n c) 22)) (key bb : List Int) (wi : Int) (Ab : Option Addr) (nb cb : Nat) (hn : key.length = n) (hkey : ReadsB w A key) (hnb : bb.length = nb) (hbb : ReadsB w Ab bb) (hby : ∀ x ∈ bb, 0 ≤ x ∧ x ≤ 255) (hbl : nb ≤ 70368744176000) :
    Calls Try.prog 45 #[.int .u8 wi, .slice Ab nb cb, .pointer (some ⟨K, 0, none⟩)] w fun e w' => e = .returned (.agg (bcells (digest (xorK key wi ++ bb)))) ∧ Owns b w' rs := by
  refine (around_calls K key bb wi A Ab n c nb cb w (h.ok i _ hi) hn hkey hnb hbb hbl (byte2 (xorK_byte key wi) hby)).mono ?_
  rintro e w' ⟨rfl, hb⟩
  exact ⟨rfl, h.stay (Keeps.of_below hb _)⟩
theorem box_reads {b w : World} {rs : List Res} (h : Owns b w rs) (i : Nat) {O : Nat} {l : List Int} (hi : rs[i]? = some (boxR O l)) : ReadsB w (some ⟨O, 0, none⟩) l := fun _ => ⟨_, rfl, fun j hj => by
  have hO : w.heap[O]? = some (.cells (bcells l) 24 (0, 0)) := h.ok i _ hi
  rw [Addr.add_lit, Nat.zero_add, blk_cell hO]
  simp [bcells, bytes, hj]⟩
theorem Owns.setCell {b w : World} {rs : List Res} (h : Owns b w rs) (i : Nat) {O : Nat} {v : Value} {t : TypeId} (hi : rs[i]? = some (cellR O v t)) (v' : Value) : Owns b (w.setCell ⟨O, 0, Option.none⟩ v') (rs.set i (cellR O v' t)) := by
  have hO : w.heap[O]? = some (.cells #[v] t (0, 0)) := h.ok i _ hi
  refine h.put hi ⟨rfl, rfl, rfl, by simp, fun j hj hX => Below.heap_setCell w ⟨O, 0, Option.none⟩ _ j (fun e => hX (by simp [cellR, e]))⟩ ?_ (fun j hj => .inl hj)
  exact blk_set hO 0 v'
set_option maxHeartbeats 1000000 in
set_option maxRecDepth 100000 in
theorem macSum_calls (key msg : List Int) (A Am : Option Addr) (n c nm cm : Nat) (w : World) (hn : key.length = n) (hkey : ReadsB w A key) (hkb : ∀ x ∈ key, 0 ≤ x ∧ x ≤ 255) (hnm : msg.length = nm) (hmsg : ReadsB w Am msg) (hmb : ∀ x ∈ msg, 0 ≤ x ∧ x ≤ 255) (hnl : n ≤ 70368744176000) (hml : nm ≤ 70368744176000) :
    Calls Try.prog 30 #[.slice A n c, .slice Am nm cm] w fun e w' => e = .returned (.agg (bcells (macF key msg))) ∧ Below w.heap.size w w' := by
  have hO := Aside0.mk (Owns.start w)
  replace hkey := Aside0.mk hkey
  replace hkb := Aside0.mk hkb
  replace hnm := Aside0.mk hnm
  replace hmsg := Aside0.mk hmsg
  replace hmb := Aside0.mk hmb
  by_cases h64 : (n : Int) ≤ 64
  · have hk6 : Aside0 (key64 key = key) := Aside0.mk (if_pos (by omega))
    replace hn := Aside0.mk hn
    go_enter Try.func30, Try.ntmps30
    go_wp2_with (first
      | (refine store24 h6.out 1 rfl rfl _ _ rfl _ rfl rfl (by simp) (digest_len _) ?_; intro w7 h70; have h7 := Aside0.mk h70; clear h70)
      | (go_at_call 45; refine (own_around h5.out 0 rfl key _ 92 _ 20 20 hn.out (hkey.out.below h5.out.below) (digest_len _) (box_reads h5.out 2 rfl) (digest_byte _) (by decide)).mono ?_; rintro e w6 ⟨rfl, h60⟩; have h6 := Aside0.mk h60; clear h60)
      | (refine store24 h4.out 2 rfl rfl _ _ rfl _ rfl rfl (by simp) (digest_len _) ?_; intro w5 h50; have h5 := Aside0.mk h50; clear h50)
      | (refine alloc24 h3.out rfl rfl ?_; intro I w4 h40; have h4 := Aside0.mk h40; clear h40)
      | (go_at_call 45; refine (own_around hO2.out 0 rfl key msg 54 Am nm cm hn.out (hkey.out.below hO2.out.below) hnm.out (hmsg.out.below hO2.out.below) hmb.out hml).mono ?_; rintro e w3 ⟨rfl, h30⟩; have h3 := Aside0.mk h30; clear h30)
      | (refine alloc24 hO1.out rfl rfl ?_; intro O w2 h2; have hO2 := Aside0.mk h2; have kc2 := own_cell h2 0 rfl; clear h2)
      | ((with_reducible refine gate_dst (N := 2) rfl ?_); refine box_event rfl (N := 2) rfl (cs := #[.slice A n c]) (t := 22) ?hr ?_; (case hr => first | (go_simp; done) | (go_simp; rfl)); intro K hK0 w1 hbox0 hb10; have hO1 := Aside0.mk (hO.out.add (r' := cellR K (.slice A n c) 22) (Keeps.of_below hb10 _) hbox0 (by intro j hj; simp [cellR] at hj; omega)); clear hK0 hbox0 hb10))
    refine bodyPost_ret (v := .agg (bcells (macF key msg))) ?_ ?_ ⟨rfl, h7.out.below⟩
    · have hld := own_loadVar h7.out 1 rfl (digest_len _)
      simp [results, Try.results30, Act.put, asAddr, hld, macF, hk6.out]
    · simp [Act.put]
  · have hk6 : Aside0 (key64 key = digest key) := Aside0.mk (if_neg (by omega))
    replace hn := Aside0.mk hn
    go_enter Try.func30, Try.ntmps30
    go_wp2_with (first
      | (refine store24 h6.out 1 rfl rfl _ _ rfl _ rfl rfl (by simp) (digest_len _) ?_; intro w7 h70; have h7 := Aside0.mk h70; clear h70)
      | (go_at_call 45; refine (own_around h5.out 0 rfl (digest key) _ 92 _ 20 20 (digest_len _) (box_reads h5.out 2 rfl) (digest_len _) (box_reads h5.out 3 rfl) (digest_byte _) (by decide)).mono ?_; rintro e w6 ⟨rfl, h60⟩; have h6 := Aside0.mk h60; clear h60)
      | (refine store24 h4.out 3 rfl rfl _ _ rfl _ rfl rfl (by simp) (digest_len _) ?_; intro w5 h50; have h5 := Aside0.mk h50; clear h50)
      | (refine alloc24 h3.out rfl rfl ?_; intro I w4 h40; have h4 := Aside0.mk h40; clear h40)
      | (go_at_call 45; refine (own_around hs3.out 0 rfl (digest key) msg 54 Am nm cm (digest_len _) (box_reads hs3.out 2 rfl) hnm.out (hmsg.out.below hs3.out.below) hmb.out hml).mono ?_; rintro e w3 ⟨rfl, h30⟩; have h3 := Aside0.mk h30; clear h30)
      | (refine store24 hs1.out 2 rfl rfl _ _ rfl _ rfl rfl (by simp) (digest_len _) ?_; intro x2 h; have hs2 := Aside0.mk h; have kc3 := own_cell h 0 rfl; have kf3 := own_cellF h 0 rfl; have hs3 := Aside0.mk (h.setCell 0 rfl (.slice (some ⟨S, 0, none⟩) 20 20)); clear h)
      | (refine alloc24 hs0.out rfl rfl ?_; intro S x1 h; have hs1 := Aside0.mk h; clear h)
      | (go_at_call 21; refine (own_sum hO2.out key A n c hn.out (hkey.out.below hO2.out.below) hkb.out (by omega)).mono ?_; rintro e x0 ⟨rfl, h⟩; have hs0 := Aside0.mk h; clear h)
      | (refine alloc24 hO1.out rfl rfl ?_; intro O w2 h2; have hO2 := Aside0.mk h2; have kc2 := own_cell h2 0 rfl; clear h2)
      | ((with_reducible refine gate_dst (N := 2) rfl ?_); refine box_event rfl (N := 2) rfl (cs := #[.slice A n c]) (t := 22) ?hr ?_; (case hr => first | (go_simp; done) | (go_simp; rfl)); intro K hK0 w1 hbox0 hb10; have hO1 := Aside0.mk (hO.out.add (r' := cellR K (.slice A n c) 22) (Keeps.of_below hb10 _) hbox0 (by intro j hj; simp [cellR] at hj; omega)); clear hK0 hbox0 hb10))
    refine bodyPost_ret (v := .agg (bcells (macF key msg))) ?_ ?_ ⟨rfl, h7.out.below⟩
    · have hld := own_loadVar h7.out 1 rfl (digest_len _)
      simp [results, Try.results30, Act.put, asAddr, hld, macF, hk6.out]
    · simp [Act.put]
end Go.Proofs.Ytijnmoceafcamaa.Sha
