/- Two functions whose answers are given: strings.Join, and one that looks through an empty map. -/
import Derived.Test.YtpmehdggikjkfaaGreatDoorMem
import Derived.Below
import Derived.Lib.Join
namespace Go.Proofs.YtpmehdggikjkfaaGreatDoor.Rf
open Go
def strsL : List Value → Option (List ByteArray)
  | [] => some []
  | .string b :: r => match strsL r with | some q => some (b :: q) | none => none
  | _ :: _ => none
def catT (sep : List UInt8) : List ByteArray → List UInt8
  | [] => []
  | x :: r => sep ++ (x.data.toList ++ catT sep r)
noncomputable def joinA (s : S) (a : Addr) (k c : Nat) (sep : List UInt8) : Option (Value × S) :=
  match Nat.ble k c && Nat.ble k 140737488355328 with
  | true => match loadN s a k with
    | some l => match strsL l with
      | some (x :: r) => match Nat.ble (x.data.toList ++ catT sep r).length 140737488355328 with
        | true => some (.string ⟨⟨x.data.toList ++ catT sep r⟩⟩, s)
        | false => none
      | _ => none
    | none => none
  | false => none
noncomputable def joinG (fj : FuncId) (G : GG) : GG := fun f args s => match Nat.beq f fj with
  | false => G f args s
  | true => match args with
    | [.slice (some a) k c, .string sep] => some (joinA s a k c sep.data.toList)
    | _ => some none
/- all are of later times -/
def laterV (n : Int) : List (Value × Value) → Bool
  | [] => true
  | (_, .int .i64 k) :: r => !ile k n && laterV n r
  | _ :: _ => false
noncomputable def pruneA (s : S) (a : Addr) (n : Int) : Option (Value × S) :=
  match loadN s ⟨a.block, a.off + 1, none⟩ 1 with
  | some [.map (some m)] => match s.h.find m with
    | some (.map es) => match laterV n es with
      | true => some (.int .i64 0, s)
      | false => none
    | _ => none
  | _ => none
noncomputable def pruneG (fp : FuncId) (G : GG) : GG := fun f args s => match Nat.beq f fp with
  | false => G f args s
  | true => match args with
    | [.pointer (some a), .int .i64 n] => some (pruneA s a n)
    | _ => some none
def JoinOk (P : Program) (f : FuncId) : Prop := FnOk P f ∧ ∀ (bk o c : Nat) (xs : List ByteArray) (sep : ByteArray) (w : World), (∀ (j : Nat) x, xs[j]? = some x → w.cell? ⟨bk, o + j, none⟩ = some (.string x)) →
  bk < w.heap.size → xs.length ≤ 140737488355328 → xs.length ≤ c → (Lib.join (xs.map (·.data.toList)) sep.data.toList).length ≤ 140737488355328 →
  Calls P f #[.slice (some ⟨bk, o, none⟩) xs.length c, .string sep] w fun e w' => e = .returned (.string ⟨(Lib.join (xs.map (·.data.toList)) sep.data.toList).toArray⟩) ∧ RowKit.Below w.heap.size w w'
def PruneOk (P : Program) (f : FuncId) : Prop := FnOk P f ∧ ∀ (b o m : Nat) (n : Int) (es : Array MapEntry) (ck : Nat) (w : World), w.cell? ⟨b, o + 1, none⟩ = some (.map (some m)) → w.heap[m]? = some (.map es ck) →
  (∀ x ∈ es.toList, x.born < ck) → (es.toList.map (·.born)).Nodup → (∀ x ∈ es.toList, ∃ z, x.val = .int .i64 z ∧ n < z) →
  Calls P f #[.pointer (some ⟨b, o, none⟩), .int .i64 n] w fun e w' => e = .returned (.int .i64 0) ∧ w.heap.size ≤ w'.heap.size ∧ (∀ k, k < w.heap.size → w'.heap[k]? = w.heap[k]?) ∧ SameIO w w'
theorem catT_eq (sep : List UInt8) : ∀ l : List ByteArray, catT sep l = Lib.joinTail sep (l.map (·.data.toList))
  | [] => rfl
  | x :: r => by
    show sep ++ (x.data.toList ++ catT sep r) = _
    rw [catT_eq sep r]
    simp [Lib.joinTail]
theorem step_below {ng : Nat} {β : Bt} {s : S} {W W' : World} (hw : WR ng β s W) (hs : W.heap.size ≤ W'.heap.size) (hb : ∀ k, k < W.heap.size → W'.heap[k]? = W.heap[k]?) (hio : SameIO W W') : Step ng β s W β s W' where
  wr := ⟨hw.dom, hw.live, fun i b R e => Nat.lt_of_lt_of_le (hw.blk i b R e) hs, fun i m b R e h => by rw [hb b (hw.blk i b R h)]; exact hw.rel i m b R e h, hw.inj, hw.glob, hw.ngn⟩
  sub := Sub.refl β
  old _ _ _ e := e
  n_le := Nat.le_refl _
  mfr _ _ _ := rfl
  rfr b h _ := hb b h
  fresh i m b R e h h' := .inr ⟨i, m, R, e, h, h'⟩
  size_le := hs
  io := hio
theorem strs_rel {β : Bt} : ∀ {l ws : List Value} {xs : List ByteArray}, VRs β l ws → strsL l = some xs → xs.length = ws.length ∧ ∀ (j : Nat) x, xs[j]? = some x → ws[j]? = some (.string x)
  | _, _, xs, .nil, h => by cases h; exact ⟨rfl, fun j x h => by simp at h⟩
  | _, _, xs, .cons (v := v) (w := w) hv hr, h => by
    cases hv with
    | string b =>
      simp only [strsL] at h
      split at h
      · rename_i q hq
        cases h
        obtain ⟨h1, h2⟩ := strs_rel hr hq
        refine ⟨by simp [h1], fun j x hx => ?_⟩
        cases j with
        | zero => simp at hx; subst hx; rfl
        | succ j => rw [List.getElem?_cons_succ] at hx ⊢; exact h2 j x hx
      · cases h
    | _ => cases h
theorem join_sim {P : Program} {E : Env} {fj : FuncId} (hJ : JoinOk P fj) {G : GG} (hG : SimF P E (ansOf G)) : SimF P E (ansOf (joinG fj G)) := by
  intro f args s v s' h
  simp only [ansOf, joinG] at h
  split at h
  case h_2 => cases h
  rename_i r hr
  split at hr
  · exact hG f args s v s' (by simp only [ansOf, hr]; exact h)
  · rename_i hf
    rw [beq_iff] at hf
    subst hf
    split at hr
    case h_2 => cases hr; cases h
    rename_i a k c sep
    cases hr
    unfold joinA at h
    split at h
    case h_2 => cases h
    rename_i hk
    simp only [Bool.and_eq_true, ble_iff] at hk
    split at h
    case h_2 => cases h
    rename_i l hl
    split at h
    case h_2 => cases h
    rename_i x r hxs
    split at h
    case h_2 => cases h
    rename_i hlen
    rw [ble_iff] at hlen
    cases h
    refine ⟨hJ.1, fun β W args' hargs hw => ?_⟩
    have hjoin : Lib.join ((x :: r).map (·.data.toList)) sep.data.toList = x.data.toList ++ catT sep.data.toList r := by
      rw [catT_eq, List.map_cons, Lib.join_cons]
    cases hargs with
    | cons h1 hr1 =>
    cases hr1 with
    | cons h2 hr2 =>
    cases hr2
    cases h2
    cases h1 with
    | @sl i b R o o' _ _ c' hb hs =>
    simp only [loadN] at hl
    split at hl
    case h_2 => cases hl
    rename_i cl g hf
    obtain ⟨cs, ty, fr, q1, q2, _, _⟩ := hw.rel i _ b R hf hb
    obtain ⟨ws, a1, a2, a3⟩ := cells_of_get q2 k o l hl
    obtain ⟨e1, e2⟩ := strs_rel a1 hxs
    have hk0 : (x :: r).length = k := by rw [e1, a2]
    have hpos : 0 < k := by rw [← hk0]; simp
    have ho : o' = o ∧ k ≤ c' := by
      rcases hs with ⟨_, h2, h3⟩ | ⟨h1, q, _, _, h4, h5⟩ | ⟨_, _, h3, _⟩
      · exact ⟨h3, by omega⟩
      · exact ⟨h1, by omega⟩
      · omega
    obtain ⟨rfl, hkc⟩ := ho
    have hcall := hJ.2 b o' c' (x :: r) sep W (fun j y hy => by
      have hlt : j < k := by rw [← hk0]; exact (List.getElem?_eq_some_iff.1 hy).1
      rw [cell_at q1, a3 j hlt]; exact e2 j y hy) (hw.blk i b R hb) (by rw [hk0]; exact hk.2) (by rw [hk0]; exact hkc) (by rw [hjoin]; exact hlen)
    rw [hk0, hjoin] at hcall
    exact hcall.mono fun e W' ⟨he, hbl⟩ => ⟨_, β, he, .string _, step_below hw hbl.size hbl.block ⟨hbl.os, hbl.output⟩⟩
theorem laterV_spec {β : Bt} {n : Int} : ∀ {el : List (Value × Value)} {ws : List Value}, laterV n el = true → VRs β (el.map (·.2)) ws → ∀ w ∈ ws, ∃ z, w = .int .i64 z ∧ n < z
  | [], _, _, .nil, w, hw => by cases hw
  | (a, b) :: r, _, h, .cons hv hr, w, hw => by
    cases hv with
    | int k z =>
      cases k <;> first | (simp [laterV] at h; done) | skip
      simp only [laterV, Bool.and_eq_true, Bool.not_eq_true'] at h
      rcases List.mem_cons.1 hw with e | e
      · refine ⟨z, e, ?_⟩
        have h1 := h.1
        rw [ile_eq] at h1
        exact Int.not_le.1 (of_decide_eq_false h1)
      · exact laterV_spec h.2 hr w e
    | _ => simp [laterV] at h
theorem prune_sim {P : Program} {E : Env} {fp : FuncId} (hP : PruneOk P fp) {G : GG} (hG : SimF P E (ansOf G)) : SimF P E (ansOf (pruneG fp G)) := by
  intro f args s v s' h
  simp only [ansOf, pruneG] at h
  split at h
  case h_2 => cases h
  rename_i r hr
  split at hr
  · exact hG f args s v s' (by simp only [ansOf, hr]; exact h)
  · rename_i hf
    rw [beq_iff] at hf
    subst hf
    split at hr
    case h_2 => cases hr; cases h
    rename_i a n
    cases hr
    unfold pruneA at h
    split at h
    case h_2 => cases h
    rename_i m hm
    split at h
    case h_2 => cases h
    rename_i el hfm
    split at h
    case h_2 => cases h
    rename_i hlat
    cases h
    refine ⟨hP.1, fun β W args' hargs hw => ?_⟩
    cases hargs with
    | cons h1 hr1 =>
    cases hr1 with
    | cons h2 hr2 =>
    cases hr2
    cases h2
    cases h1 with
    | @ptr i b R o hb =>
    simp only [loadN] at hm
    split at hm
    case h_2 => cases hm
    rename_i cl g hf
    obtain ⟨cs, ty, fr, p1, p2, _, _⟩ := hw.rel i _ b R hf hb
    obtain ⟨ws, a1, a2, a3⟩ := cells_of_get p2 1 (o + 1) _ hm
    cases a1 with
    | cons hv hr3 =>
    cases hr3
    cases hv with
    | @map im bm Rm hbm =>
    have hcell : W.cell? ⟨b, o + 1, none⟩ = some (.map (some bm)) := by
      rw [cell_at p1]
      have := a3 0 (by omega)
      simpa using this
    obtain ⟨es, ck, q1, _, q3, q4, q5⟩ := hw.rel m _ bm Rm hfm hbm
    refine (hP.2 b o bm n es ck W hcell q1 q4 q5 ?_).mono fun e W' ⟨he, hs1, hs2, hs3⟩ => ⟨_, β, he, .int _ _, step_below hw hs1 hs2 hs3⟩
    intro x hx
    exact laterV_spec hlat q3 x.val (List.mem_map.2 ⟨x, hx, rfl⟩)
theorem none_sim (P : Program) (E : Env) : SimF P E (ansOf fun _ _ _ => none) := fun f args s v s' h => by cases h
end Go.Proofs.YtpmehdggikjkfaaGreatDoor.Rf
