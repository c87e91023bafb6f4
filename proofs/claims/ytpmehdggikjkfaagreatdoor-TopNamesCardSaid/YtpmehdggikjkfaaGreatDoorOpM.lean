/- append, in the model and in the world. -/
import Derived.Test.YtpmehdggikjkfaaGreatDoorOpL
namespace Go.Proofs.YtpmehdggikjkfaaGreatDoor.Rf
open Go
section
variable {P : Program} {E : Env} {W W' : World} {β : Bt} {s s' : S} {tm : TM} {ρ : Operand → Value}
theorem elemTI_spec (hE : EnvOk P E) {t : TypeId} {te : TI} (h : elemTI E t = some te) : ∃ e ti, E.tys.find t = some ti ∧ ti.desc = .slice e ∧ E.tys.find e = some te ∧ P.underlying t = some (.slice e) := by
  unfold elemTI at h
  split at h
  case h_2 => cases h
  rename_i ti ht
  split at h
  case h_2 => cases h
  rename_i e hd
  obtain ⟨_, _, hu, _⟩ := hE.info ht
  exact ⟨e, ti, ht, hd, h, by rw [hu, hd]⟩
theorem lenV_slice {x : Value} {m : Nat} (h : lenV x = some m) : ∀ a k c, x = .slice a k c → m ≤ k := by
  intro a k c e; subst e; cases h; exact Nat.le_refl _
theorem appended_spec (hE : EnvOk P E) (hw : WR E.ng β s W) {te : TI} {tx : Option TypeId} {y y' : Value} {m : Nat} {new : List Value} (hy : VR β y y') (h : appended E te s tx y = some (m, new)) :
    ∃ u d ws, tx = some u ∧ P.underlying u = some d ∧ appKind d = .cells ∧ (Builtin.lenOf y').run P W = .ok m W ∧ VRs β new ws ∧ new.length = m * te.cells ∧
      ∀ W1 : World, W1.heap = W.heap → (Builtin.firstCells te.cells m y').run P W1 = .ok ws.toArray W1 := by
  unfold appended at h
  split at h
  case h_1 => cases h
  rename_i u
  split at h
  case h_1 => cases h
  rename_i ti hti
  obtain ⟨_, _, hu, _⟩ := hE.info hti
  split at h
  · cases h
  · cases h
  · rename_i hk
    split at h
    case h_2 => cases h
    rename_i n hn
    split at h
    case h_2 => cases h
    rename_i l hl
    split at h
    case h_2 => cases h
    rename_i hb
    cases h
    obtain ⟨ws, h1, h2⟩ := firstX_run (P := P) hw hy (lenV_slice hn) hl
    exact ⟨u, _, ws, rfl, hu, hk, lenOf_run hy hn, h1, (beq_iff _ _).1 hb, h2⟩
theorem zeroCells_size (z : Array Value) (n : Nat) : (Builtin.zeroCells z n).size = n * z.size := size_zeroCells z n
/- a block that the tape sized -/
theorem grown_step (hE : EnvOk P E) (h : WR E.ng β s W) {te : TI} {e : TypeId} {l ws : List Value} {n R : Nat} {Z : Array Value} (hl : VRs β l ws) (hlen : l.length = n * te.cells) (hR : n ≤ R) (hZ : Z.size = (R - n) * te.cells) {W' : World}
    (hw' : W'.heap = W.heap.push (.cells (ws.toArray ++ Z) e)) (hio : SameIO W W') :
    ∃ β', VR β' (.slice (some ⟨s.n, 0, none⟩) n big) (.slice (some ⟨W.heap.size, 0, none⟩) n R) ∧ Step E.ng β s W β' (newB s (mkRow l (some te.cells))) W' := by
  have hm : Made β E.ng W (mkRow l (some te.cells)) (.slice n big) R (.cells (ws.toArray ++ Z) e) (.slice (some ⟨W.heap.size, 0, none⟩) n R) := by
    refine grow_made hl ?_ ?_ (.inl rfl) hR
    · intro k v hk
      have hlt := (List.getElem?_eq_some_iff.1 hk).1
      rw [Array.getElem?_append_left (by simpa using hlt)]
      simpa using hk
    · rw [Array.size_append, hZ]
      simp only [List.size_toArray]
      rw [← hl.length, hlen, ← Nat.add_mul]
      congr 1; omega
  obtain ⟨h1, h2⟩ := hm s.n h.none_n
  exact ⟨_, h2, Step.alloc h h1 hw' hio⟩
theorem append_run (hE : EnvOk P E) (hw : WR E.ng β s W) {ts : Array TypeId} {t ty : TypeId} {te : TI} {tx : Option TypeId} {x x' y y' v : Value} {m : Nat} {new : List Value} (h0 : ts[0]? = some t) (h1 : ts[1]? = tx)
    (ht : elemTI E t = some te) (hx : VR β x x') (hy : VR β y y') (ha : appended E te s tx y = some (m, new)) (h : evAppend E te s x m new = some (v, s')) :
    ∃ v' β' W', (Builtin.append_ ts ty #[x', y']).run P W = .ok v' W' ∧ VR β' v v' ∧ Step E.ng β s W β' s' W' := by
  obtain ⟨e, ti, hti, hd, hte, hut⟩ := elemTI_spec hE ht
  obtain ⟨ie, hi, _, hsz, hbt, hzr⟩ := hE.info hte
  obtain ⟨u, d, ws, hu0, hu, hk, hlen, hws, hnl, hfc⟩ := appended_spec hE hw hy ha
  rw [hu0] at h1
  have hfc' : ∀ W1 : World, W1.heap = W.heap → (Builtin.firstCells ie.size m y').run P W1 = .ok ws.toArray W1 := by rw [hsz]; exact hfc
  unfold evAppend at h
  split at h
  case h_2 => cases h
  rename_i a n c z0 hz0
  have hz1 : z0.cells.size = te.cells := by rw [← Array.length_toList, cells_toList]; exact hE.zsz e te z0 hte hz0
  rw [← hzr] at hz0
  split at h
  · rename_i hle
    rw [ble_iff] at hle
    split at h
    · -- the room is known, and enough
      rename_i hlim
      rw [blt_iff] at hlim
      split at h
      · rename_i ad
        split at h
        case h_2 => cases h
        rename_i s1 hs
        cases h
        cases hx with
        | @sl i0 b R o o' _ _ c' hb hsr =>
        have hcc : c' = c ∧ o' = o := by
          rcases hsr with ⟨q1, q2, q3⟩ | ⟨q1, k, q2, q3, q4, q5⟩ | ⟨q1, q2, q3, q4⟩
          · exact ⟨q2, q3⟩
          · unfold lim big at *; omega
          · omega
        obtain ⟨rfl, rfl⟩ := hcc
        obtain ⟨W', r1, r2, _⟩ := store_run (P := P) (E := E) rfl hw hb hws hs
        refine ⟨_, β, W', append_in h0 h1 hut hu hk hi hlen (hfc' W rfl) hle ?_, .sl hb (.inl ⟨hlim, rfl, rfl⟩), r2⟩
        show (storeCells (Addr.add ⟨b, o', none⟩ (n * ie.size)) ws).run P W = .ok () W'
        rw [add_mk, hsz]; exact r1
      · cases new with
        | nil =>
          cases h
          cases hws
          cases hx with
          | snil _ _ hc =>
          exact ⟨_, β, W, append_in h0 h1 hut hu hk hi hlen (hfc' W rfl) hle rfl, .snil _ _ hc, Step.refl hw⟩
        | cons q r => cases h
    · -- the tape drew the room
      rename_i hlim
      have hlim' : ¬ c < lim := fun hq => by rw [(blt_iff _ _).2 hq] at hlim; cases hlim
      split at h
      case h_2 => cases h
      rename_i ad
      split at h
      case h_2 => cases h
      rename_i hcond
      split at h
      case h_2 => cases h
      rename_i cs g hf
      split at h
      case h_2 => cases h
      rename_i hge
      split at h
      case h_2 => cases h
      rename_i old hold
      split at h
      case h_2 => cases h
      rename_i hones
      cases h
      simp only [Bool.and_eq_true, beq_iff, ble_iff] at hcond hge hones
      obtain ⟨hc1, hc2, hc3, hc4, hc5⟩ := hcond
      subst hge
      cases hx with
      | @sl i0 b R o o' _ _ c' hb hsr =>
      simp only at hc2 hc3 hf
      subst hc2
      have hcc : c' = R ∧ o' = 0 ∧ n ≤ R := by
        rcases hsr with ⟨q1, q2, q3⟩ | ⟨q1, k, q2, q3, q4, q5⟩ | ⟨q1, q2, q3, q4⟩
        · exact absurd q1 hlim'
        · unfold lim big at *; omega
        · unfold lim big at *; omega
      obtain ⟨rfl, rfl, hnR⟩ := hcc
      obtain ⟨dcs, dty, dfr, d1, d2, d3, d4⟩ := hw.rel _ _ b c' hf hb
      have hdsz := d3 _ rfl
      obtain ⟨wold, w1, w2, w3⟩ := cells_of_get d2 _ 0 old hold
      have hwl := hws.length
      have hol : old.length = n * te.cells := (getN_spec _ _ _ _ hold).1
      have hnewall : (old ++ new).length = (n + m) * te.cells := by rw [List.length_append, hol, hnl, Nat.add_mul]
      by_cases hroom : n + m ≤ c'
      · -- in place
        have hin : ∀ j, j < ws.length → n * te.cells + 0 + j < dcs.size := fun j hj => by
          rw [hdsz]
          have : (n + m) * te.cells ≤ c' * te.cells := Nat.mul_le_mul_right _ hroom
          rw [Nat.add_mul] at this
          omega
        obtain ⟨W', cs', r1, r2, r3, r4, r5, r6, r7⟩ := run_storeN (P := P) (n * te.cells) ws 0 W dcs d1 (d4 hc3) (hws.ones (ones_spec new hones.2)) hin
        refine ⟨_, upd β s.n (b, c'), W', append_in h0 h1 hut hu hk hi hlen (hfc' W rfl) hroom ?_, .sl (upd_self _ _ _) (.inr (.inl ⟨rfl, 0, by unfold lim; omega, rfl, by omega, rfl⟩)), swap_step hw hf hc3 hb ?_ r5 r6 r7⟩
        · show (storeCells (Addr.add ⟨b, 0, none⟩ (n * ie.size)) ws).run P W = .ok () W'
          rw [add_mk, hsz, Nat.zero_add]; exact r1
        · refine ⟨cs', dty, dfr, r2, ?_, fun e' he => by cases he; rw [r3]; exact hdsz, fun _ => by rw [r3]; exact d4 hc3⟩
          intro k w hk'
          rw [T.find_list] at hk'
          have hall : VRs (upd β s.n (b, c')) (old ++ new) (wold ++ ws) := (w1.append hws).mono (sub_upd _ hw.none_n)
          obtain ⟨q, q1, q2⟩ := hall.get k w hk'
          refine ⟨q, ?_, q2⟩
          rw [r4 k]
          by_cases hkn : k < n * te.cells
          · rw [if_neg (by omega)]
            rw [List.getElem?_append_left (by omega)] at q1
            rw [← q1]
            have := w3 k hkn
            rwa [Nat.zero_add] at this
          · rw [List.getElem?_append_right (by omega)] at q1
            have hlt := (List.getElem?_eq_some_iff.1 q1).1
            rw [if_pos (by omega), ← q1]
            congr 1; omega
      · -- a new block
        have hkill := kill_step hw _ hb
        have hfo : (Builtin.firstCells ie.size n (.slice (some ⟨b, 0, none⟩) n c')).run P W.drew = .ok wold.toArray W.drew := by
          rw [hsz]
          exact run_loadN (W := W.drew) d1 0 (n * te.cells) wold w2 w3
        have hout := append_out (ty := ty) h0 h1 hut hu hk hi hz0 hlen (hfc' W.drew rfl) hfo (by omega) (by rw [hbt]; exact hc4) hc5
        obtain ⟨β', g1, g2⟩ := grown_step hE hkill.wr (w1.append hws) hnewall (grownCap_ge W (n + m) c' e) (Z := Builtin.zeroCells z0.cells (grownCap W (n + m) c' e - (n + m))) (by rw [zeroCells_size, hz1]) (e := e) (W' := W.drew.alloc (.cells ((wold ++ ws).toArray ++ Builtin.zeroCells z0.cells (grownCap W (n + m) c' e - (n + m))) e)) rfl ⟨rfl, rfl⟩
        exact ⟨_, β', _, hout, g1, hkill.trans g2⟩
  · -- more than the room that is known
    rename_i hle
    have hle' : ¬ (n + m ≤ c) := fun hq => by rw [(ble_iff _ _).2 hq] at hle; cases hle
    split at h
    case h_2 => cases h
    rename_i hcond
    simp only [Bool.and_eq_true, ble_iff] at hcond
    split at h
    case h_2 => cases h
    rename_i old hold
    split at h
    case h_2 => cases h
    rename_i hol
    cases h
    rw [beq_iff] at hol
    obtain ⟨wold, w1, w2⟩ := firstX_run (P := P) hw hx (fun a k c' hq => by cases hq; exact Nat.le_refl _) hold
    have hnewall : (old ++ new).length = (n + m) * te.cells := by rw [List.length_append, hol, hnl, Nat.add_mul]
    have hx2 : ∃ base, x' = .slice base n c := by
      cases hx with
      | snil _ _ _ => exact ⟨none, rfl⟩
      | @sl i0 b R o o' _ _ c' hb hsr =>
        rcases hsr with ⟨q1, q2, q3⟩ | ⟨q1, k, q2, q3, q4, q5⟩ | ⟨q1, q2, q3, q4⟩
        · subst q2; exact ⟨_, rfl⟩
        · exfalso; unfold lim big at *; omega
        · exfalso; unfold lim at *; omega
    obtain ⟨base, rfl⟩ := hx2
    have hout := append_out (ty := ty) h0 h1 hut hu hk hi hz0 hlen (hfc' W.drew rfl) (by rw [hsz]; exact w2 W.drew rfl) (by omega) (by rw [hbt]; exact hcond.1) hcond.2
    obtain ⟨β', g1, g2⟩ := grown_step hE hw (w1.append hws) hnewall (grownCap_ge W (n + m) c e) (Z := Builtin.zeroCells z0.cells (grownCap W (n + m) c e - (n + m))) (by rw [zeroCells_size, hz1]) (e := e) (W' := W.drew.alloc (.cells ((wold ++ ws).toArray ++ Builtin.zeroCells z0.cells (grownCap W (n + m) c e - (n + m))) e)) rfl ⟨rfl, rfl⟩
    exact ⟨_, β', _, hout, g1, g2⟩
theorem appZ_run (hE : EnvOk P E) (hw : WR E.ng β s W) {ts : Array TypeId} {t ty : TypeId} {te : TI} {tx : Option TypeId} {x x' y y' v : Value} (h0 : ts[0]? = some t) (h1 : ts[1]? = tx)
    (ht : elemTI E t = some te) (hx : VR β x x') (hy : VR β y y') (h : evAppZ E te s tx x y = some (v, s')) :
    ∃ v' β' W', (Builtin.append_ ts ty #[x', y']).run P W = .ok v' W' ∧ VR β' v v' ∧ Step E.ng β s W β' s' W' := by
  obtain ⟨e, ti, hti, hd, hte, hut⟩ := elemTI_spec hE ht
  obtain ⟨ie, hi, _, hsz, hbt, hzr⟩ := hE.info hte
  unfold evAppZ at h
  split at h
  case h_2 => cases h
  rename_i u m z hm hz
  split at h
  case h_2 => cases h
  rename_i tu htu
  obtain ⟨_, _, huu, _⟩ := hE.info htu
  split at h
  case h_2 => cases h
  rename_i hk
  split at h
  case h_2 => cases h
  rename_i hcond
  cases h
  simp only [Bool.and_eq_true, beq_iff, ble_iff, blt_iff] at hcond
  obtain ⟨hc1, hc2, hc3, hc4⟩ := hcond
  obtain ⟨ky, hky⟩ := natOf_rel hy hm
  subst hky
  cases hx with
  | snil _ _ _ =>
  obtain ⟨z0, hz0, hz1, hz2⟩ := zero_rel (β := β) hE hte hz
  have hzs : z0.cells.size = te.cells := by rw [← Array.length_toList, cells_toList, hz1]; exact hc1
  have hdk : ∃ k, tu.desc = .int k := by
    cases hq : tu.desc <;> rw [hq] at hk <;> first | (cases hk; done) | exact ⟨_, rfl⟩
  obtain ⟨k, hdk⟩ := hdk
  rw [hdk] at huu
  have hout := appendz_out (W := W) (k' := ky) (ty := ty) h0 h1 hut huu hi (hzr.trans hz0) (by rw [hzs, hsz]) hc2 (by rw [hbt]; exact hc3) hc4
  rw [hz1] at hout
  obtain ⟨β', g1, g2⟩ := grown_step hE hw (VRs.rep hz2 m) (by rw [rep_length, hc1]) (grownCap_ge W m 0 e) (Z := Builtin.zeroCells z0.cells (grownCap W m 0 e - m)) (by rw [zeroCells_size, hzs]) (e := e) (W' := W.drew.alloc (.cells ((rep z m).toArray ++ Builtin.zeroCells z0.cells (grownCap W m 0 e - m)) e)) rfl ⟨rfl, rfl⟩
  exact ⟨_, β', _, hout, g1, g2⟩
end
end Go.Proofs.YtpmehdggikjkfaaGreatDoor.Rf
