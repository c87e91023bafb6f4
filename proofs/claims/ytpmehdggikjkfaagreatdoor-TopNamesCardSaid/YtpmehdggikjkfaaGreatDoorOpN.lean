/- Operations that change what stands: all of them. -/
import Derived.Test.YtpmehdggikjkfaaGreatDoorOpM
namespace Go.Proofs.YtpmehdggikjkfaaGreatDoor.Rf
open Go
section
variable {P : Program} {E : Env} {W W' : World} {β : Bt} {s s' : S} {tm : TM} {ρ : Operand → Value}
theorem store_op (hE : EnvOk P E) (hw : WR E.ng β s W) {t : TypeId} {a a' x x' v : Value} (ha : VR β a a') (hx : VR β x x') (h : (match (generalizing := false) a, E.tys.find t with
    | .pointer (some ad), some ti => match (generalizing := false) Nat.beq (asL x).length ti.cells with
      | true => match (generalizing := false) storeN E s ad.block ad.off (asL x) with
        | some s => some (undef, s)
        | none => none
      | false => none
    | _, _ => none) = some (v, s')) : v = undef ∧ ∃ W', (Instr.storeAt t a' x').run P W = .ok () W' ∧ Step E.ng β s W β s' W' := by
  split at h
  case h_2 => cases h
  rename_i ad ti ht
  cases ha with
  | @ptr i0 b R o hb =>
  split at h
  case h_2 => cases h
  rename_i hl
  rw [beq_iff] at hl
  split at h
  case h_2 => cases h
  rename_i s1 hs
  cases h
  obtain ⟨W', r1, r2, _⟩ := store_run (P := P) (E := E) rfl hw hb hx.asL hs
  refine ⟨rfl, W', ?_, r2⟩
  have hsz : ¬ (x'.cells.size ≠ ti.cells) := by
    rw [← Array.length_toList, cells_toList, ← hx.asL.length, hl]; simp
  simp only [Instr.storeAt, Instr.sureAddr, Sem.run_bind, Sem.run_pure, Result.andThen_ok, storeVar, hE.size ht]
  rw [if_neg hsz, cells_toList]
  exact r1
theorem freeze_step (hw : WR E.ng β s W) {i b R : Nat} {c : T Value} {g : Option Nat} (hf : s.h.find i = some (.row c g)) (hng : E.ng ≤ i) (hb : β i = some (b, R)) (o : Nat) :
    ∃ W', (markStringish ⟨b, o, none⟩).run P W = .ok () W' ∧ Step E.ng β s W β s W' := by
  obtain ⟨cs, ty, fr, d1, d2, d3, d4⟩ := hw.rel i _ b R hf hb
  refine ⟨W.freeze ⟨b, cs.size, none⟩ 1, ?_, ?_⟩
  · simp [markStringish, World.shape?, d1]
  · have hself : (W.freeze ⟨b, cs.size, none⟩ 1).heap[b]? = some (.cells cs ty (if fr.1 == fr.2 then (cs.size, cs.size + 1) else (min fr.1 cs.size, max fr.2 (cs.size + 1)))) := by
      obtain ⟨lo, hi⟩ := fr
      simp [World.freeze, Array.getElem?_modify, d1]
    have hne : ∀ b', b' ≠ b → (W.freeze ⟨b, cs.size, none⟩ 1).heap[b']? = W.heap[b']? := fun b' hb' => by
      simp [World.freeze, Array.getElem?_modify, Ne.symm hb']
    have hsz : (W.freeze ⟨b, cs.size, none⟩ 1).heap.size = W.heap.size := by simp [World.freeze]
    refine ⟨⟨hw.dom, hw.live, fun k b' R' e => by rw [hsz]; exact hw.blk k b' R' e, ?_, hw.inj, hw.glob, hw.ngn⟩, Sub.refl β, fun _ _ _ e => e, Nat.le_refl _, fun _ _ _ => rfl, fun b' _ hno => hne b' (fun e => hno i _ R hf hng (e ▸ hb)), fun k m b' R' e hn hb' => .inr ⟨k, m, R', e, hn, hb'⟩, by rw [hsz]; exact Nat.le_refl _, ⟨rfl, rfl⟩⟩
    intro k m b' R' e hb'
    by_cases hbb : b' = b
    · subst hbb
      have hk : k = i := by
        by_cases hk : k = i
        · exact hk
        · exact (hw.inj i k _ m b' R R' hf e hng (Ne.symm hk) hb hb').elim
      subst hk
      rw [hf] at e; cases e
      rw [hb] at hb'; cases hb'
      refine ⟨cs, ty, _, hself, d2, d3, fun hn => ?_⟩
      right
      by_cases hq : (fr.1 == fr.2) = true
      · rw [if_pos hq]; exact Nat.le_refl _
      · rw [if_neg hq]
        show cs.size ≤ min fr.1 cs.size
        rcases d4 hn with hz | hz
        · rw [hz] at hq; exact absurd rfl hq
        · omega
    · rw [hne b' hbb]; exact hw.rel k m b' R' e hb'
theorem setObj_step (hw : WR E.ng β s W) {i b R : Nat} {ks : List (Value × Value)} {es : Array MapEntry} {ck : Nat} (hf : s.h.find i = some (.map ks)) (hng : E.ng ≤ i) (hb : β i = some (b, R)) (h0 : W.heap[b]? = some (.map es ck)) (ks' : List (Value × Value)) (es' : Array MapEntry) (ck' : Nat) (hk : objRel β E.ng i R (.map ks') (some (.map es' ck'))) :
    ∃ W', (setObj b (.map es' ck')).run P W = .ok () W' ∧ Step E.ng β s W β { s with h := s.h.ins i (some (.map ks')) } W' := by
  have hlt : b < W.heap.size := hw.blk i b R hb
  refine ⟨{ W with heap := W.heap.setIfInBounds b (.map es' ck') }, by simp [setObj, Sem.run, h0], ?_⟩
  have hself : (W.heap.setIfInBounds b (.map es' ck'))[b]? = some (.map es' ck') := by simp [hlt]
  have hne : ∀ b', b' ≠ b → (W.heap.setIfInBounds b (.map es' ck'))[b']? = W.heap[b']? := fun b' hb' => Array.getElem?_setIfInBounds_ne (Ne.symm hb')
  have hfind : ∀ k, ({ s with h := s.h.ins i (some (.map ks')) } : S).h.find k = if k = i then some (.map ks') else s.h.find k := fun k => T.find_ins _ _ _ _
  have hlive : ∀ k m, ({ s with h := s.h.ins i (some (.map ks')) } : S).h.find k = some m → ∃ m', s.h.find k = some m' := fun k m e => by
    rw [hfind] at e
    by_cases hk : k = i
    · subst hk; exact ⟨_, hf⟩
    · rw [if_neg hk] at e; exact ⟨_, e⟩
  refine ⟨⟨hw.dom, fun k m e => by obtain ⟨m', e'⟩ := hlive k m e; exact hw.live k m' e', fun k b' R' e => by simpa using hw.blk k b' R' e, ?_, fun k j m1 m2 b' R1 R2 e1 e2 => by
    obtain ⟨x1, y1⟩ := hlive k m1 e1
    obtain ⟨x2, y2⟩ := hlive j m2 e2
    exact hw.inj k j x1 x2 b' R1 R2 y1 y2, hw.glob, hw.ngn⟩, Sub.refl β, fun _ _ _ e => e, Nat.le_refl _, fun k hk hn => (by
      rw [hfind, if_neg]; rintro rfl; rw [hb] at hn; cases hn), fun b' _ hno => hne b' (fun e => hno i _ R hf hng (e ▸ hb)), fun k m b' R' e hn hb' => (by
      obtain ⟨m', e'⟩ := hlive k m e; exact .inr ⟨k, m', R', e', hn, hb'⟩), by simp, ⟨rfl, rfl⟩⟩
  intro k m b' R' e hb'
  rw [hfind] at e
  by_cases hki : k = i
  · subst hki
    rw [if_pos rfl] at e; cases e
    rw [hb] at hb'; cases hb'
    rw [show ({ W with heap := W.heap.setIfInBounds b (.map es' ck') } : World).heap[b]? = some (.map es' ck') from hself]; exact hk
  · rw [if_neg hki] at e
    by_cases hbb : b' = b
    · subst hbb; exact (hw.inj i k _ m b' R R' hf e hng (Ne.symm hki) hb hb').elim
    · show objRel β E.ng k R' m (W.heap.setIfInBounds b (.map es' ck'))[b']?
      rw [hne b' hbb]; exact hw.rel k m b' R' e hb'
theorem mapUpdate_run (hE : EnvOk P E) (hw : WR E.ng β s W) {t : TypeId} {x x' k k' w w' v : Value} (hx : VR β x x') (hk : VR β k k') (hvw : VR β w w') (h : (match (generalizing := false) E.tys.find t, x, k with
    | some ti, .map (some m), .string key => match (generalizing := false) s.h.find m with
      | some (.map ks) => match (generalizing := false) ti.desc with
        | .map kt _ => match (generalizing := false) E.tys.find kt with
          | some tk => match (generalizing := false) tk.desc with
            | .string => match (generalizing := false) Nat.ble E.ng m && !(ks.any (fun x => match x.1 with | .string q => u8Eq q.data.toList key.data.toList | _ => true)) with
              | false => none
              | true => some (undef, ({ s with h := s.h.ins m (some (.map (ks ++ [(.string key, w)]))) } : S))
            | _ => none
          | none => none
        | _ => none
      | _ => none
    | _, _, _ => none) = some (v, s')) : v = undef ∧ ∃ W', (Instr.mapUpdate t x' k' w').run P W = .ok () W' ∧ Step E.ng β s W β s' W' := by
  split at h
  case h_2 => cases h
  rename_i ti m key hti
  cases hx with
  | @map i0 b R hb =>
  cases hk
  split at h
  case h_2 => cases h
  rename_i ks hf
  obtain ⟨es, ck, hes, hks, hvs, hborn, hnd⟩ := hw.rel m _ b R hf hb
  split at h
  case h_2 => cases h
  rename_i kt e hd
  split at h
  case h_2 => cases h
  rename_i tk htk
  split at h
  case h_2 => cases h
  rename_i hkd
  split at h
  case h_1 => cases h
  rename_i hany
  cases h
  simp only [Bool.and_eq_true, ble_iff, Bool.not_eq_true'] at hany
  obtain ⟨_, _, huk, _⟩ := hE.info htk
  rw [hkd] at huk
  have hany' : (es.toList.map (·.key)).any (keyHit key) = false := by rw [← hks, List.any_map]; exact hany.2
  obtain ⟨W', r1, r2⟩ := setObj_step (P := P) hw hf hany.1 hb hes (ks ++ [(.string key, w)]) (es.push { key := .string key, val := w', born := ck }) (ck + 1) ⟨_, _, rfl, by simp [hks], by simpa using hvs.append (.cons hvw .nil), fun x hx => by
    rw [Array.toList_push] at hx
    rcases List.mem_append.1 hx with h | h
    · exact Nat.lt_succ_of_lt (hborn x h)
    · have : x.born = ck := by rw [List.mem_singleton.1 h]
      omega, by
    simp only [Array.toList_push, List.map_append, List.map_cons, List.map_nil]
    refine List.nodup_append.2 ⟨hnd, by simp, fun a ha b hb e => ?_⟩
    obtain ⟨x, hx, rfl⟩ := List.mem_map.1 ha
    have := hborn x hx
    simp at hb
    omega⟩
  refine ⟨rfl, W', ?_, r2⟩
  simp only [Instr.mapUpdate, Sem.run_bind, hE.und hti, Result.andThen_ok, hd, getObj_run hes, checkKey_run huk, findKey_none huk hany']
  exact r1
theorem copy_run (hE : EnvOk P E) (hw : WR E.ng β s W) {ts : Array TypeId} {t ty : TypeId} {te : TI} {x x' y y' v : Value} (h0 : ts[0]? = some t) (ht : elemTI E t = some te) (hx : VR β x x') (hy : VR β y y') (h : (match (generalizing := false) x, lenV y with
      | .slice a n _, some m => match (generalizing := false) firstX s te.cells (Nat.min m n) y with
        | some l => match (generalizing := false) a with
          | some ad => match (generalizing := false) storeN E s ad.block ad.off l with
            | some s => some (Value.int .i64 ((Nat.min m n : Nat) : Int), s)
            | none => none
          | none => match (generalizing := false) l with
            | [] => some (.int .i64 ((Nat.min m n : Nat) : Int), s)
            | _ => none
        | none => none
      | _, _ => none) = some (v, s')) : ∃ W', (Builtin.copy_ ts ty #[x', y']).run P W = .ok v W' ∧ VR β v v ∧ Step E.ng β s W β s' W' := by
  obtain ⟨e, ti, hti, hd, hte, hut⟩ := elemTI_spec hE ht
  split at h
  case h_2 => cases h
  rename_i a n c m hm
  split at h
  case h_2 => cases h
  rename_i l hl
  have hmin : ∀ a k c, y = .slice a k c → Nat.min m n ≤ k := fun a k c q => Nat.le_trans (Nat.min_le_left m n) (lenV_slice hm a k c q)
  obtain ⟨ws, w1, w2⟩ := firstX_run (P := P) hw hy hmin hl
  have hlen := lenOf_run (P := P) (W := W) hy hm
  split at h
  · rename_i ad
    split at h
    case h_2 => cases h
    rename_i s1 hs
    cases h
    cases hx with
    | @sl i0 b R o o' _ _ c' hb hsr =>
    rcases hsr.eta with hz | hz
    · have hn0 : Nat.min m n = 0 := by rw [hz]; exact Nat.min_zero m
      have hl0 : ws = [] := by
        have := w2 W rfl
        rw [hn0] at this hl
        have : l = [] := by
          unfold firstX at hl
          split at hl
          · simp only [loadN, Nat.zero_mul] at hl
            split at hl
            · cases hl; rfl
            · cases hl
          · cases hl; rfl
          · cases hl; simp [bytesL]
          · cases hl
        subst this; cases w1; rfl
      subst hl0
      cases w1
      obtain ⟨W', r1, r2, _⟩ := store_run (P := P) (E := E) rfl hw hb .nil hs
      have hW : W' = W := by simp [storeCells] at r1; exact r1.symm
      subst hW
      refine ⟨W', ?_, .int _ _, r2⟩
      simp [Builtin.copy_, h0, run_underlying hut, hlen, hE.size hte, w2 W' rfl, storeCells, goInt]
    · subst hz
      obtain ⟨W', r1, r2, _⟩ := store_run (P := P) (E := E) rfl hw hb w1 hs
      refine ⟨W', ?_, .int _ _, r2⟩
      simp [Builtin.copy_, h0, run_underlying hut, hlen, hE.size hte, w2 W rfl, r1, goInt]
  · split at h
    · cases h
      cases w1
      cases hx with
      | snil _ _ _ =>
      refine ⟨W, ?_, .int _ _, Step.refl hw⟩
      simp [Builtin.copy_, h0, run_underlying hut, hlen, hE.size hte, w2 W rfl, goInt]
    · cases h
end
end Go.Proofs.YtpmehdggikjkfaaGreatDoor.Rf
