/- Regions that ask the tape for their order: the induction. -/
import Derived.Test.YtpmehdggikjkfaaGreatDoorRegL
namespace Go.Proofs.YtpmehdggikjkfaaGreatDoor.Rf
open Go
theorem chain_op {E : Env} {F : FF} {o : Oper} {tm : TM} {s s1 : S} {v : Value} (hk : kind E o.op = .eff) (h : evEff E o tm s = some (v, s1)) : evOp E F o tm s = some (v, s1) := by
  unfold evOp; rw [hk]; exact h
theorem store_kind {E : Env} {o : Oper} {t : TypeId} {a x : Operand} (h : o.op = .store t a x) : kind E o.op = .eff := by rw [h]; rfl
theorem getD_none {α : Type} {x : Option α} {d : α} (h : x = none) : x.getD d = d := by rw [h]; rfl
section
variable {P : Program} {E : Env} {F : FF} {nt sz : Nat} {ds : List Deferred} {β0 : Bt} {s0 : S} {W0 : World} {tmF : TM} {sF : S} {its : List It} {ops : Array Oper} {Q : Exit → Act → World → Prop}
theorem any_wp (hE : EnvOk P E) (hF : SimF P E F) (hok : ∀ o ∈ ops.toList, operOk E.ng nt o = true) (hlat : laterOk E ops.toList [] its = true) (hspec : ∀ x ∈ its, ops.toList[x.i]? = some x.o ∧ Msk ops.toList x.o x.b)
    (hall : ∀ j, j < ops.size → ∃ x ∈ its, x.i = j)
    (hQ : ∀ (a' : Act) (β' : Bt) (W' : World) (tm' : TM) (s' : S), a'.tmps.size = sz → a'.defers = ds → TR β' tm' a' → Step E.ng β0 s0 W0 β' s' W' → Fin tm' s' tmF sF → Q .normal a' W') :
    ∀ (fuel : Nat) (listed : Array Bool) (a : Act) (W : World) (D pre : List It) (val : Nat → Value) (tmk : Nat → TM) (idk : Nat → Nat) (tm : TM) (s : S) (pd : List Pn) (β : Bt) (tm' : TM) (s' : S), listed.size = ops.size →
      Inv E ops.toList nt ds sz β0 s0 W0 pre (fun q => listed.getD q false = true) val tmk idk tm s pd β a W → LaterP E ops.toList pre D → evD E F ops.toList D tm s pd = some (tm', s') → Fin tm' s' tmF sF →
      (∀ x, x ∈ its ↔ x ∈ pre ∨ x ∈ D) → unl listed its ≤ fuel → wpAny P .any ops Q fuel listed a W := by
  have done : ∀ (listed : Array Bool) (a : Act) (W : World) (D pre : List It) (val : Nat → Value) (tmk : Nat → TM) (idk : Nat → Nat) (tm : TM) (s : S) (pd : List Pn) (β : Bt) (tm' : TM) (s' : S),
      Inv E ops.toList nt ds sz β0 s0 W0 pre (fun q => listed.getD q false = true) val tmk idk tm s pd β a W → LaterP E ops.toList pre D → evD E F ops.toList D tm s pd = some (tm', s') → Fin tm' s' tmF sF →
      (∀ x, x ∈ its ↔ x ∈ pre ∨ x ∈ D) → (∀ x ∈ its, listed.getD x.i false = true) → Q .normal a W := by
    intro listed a W D pre val tmk idk tm s pd β tm' s' h hl hev hf hmem hlisted
    cases D with
    | nil =>
      cases hev
      exact hQ a β W tm s h.szz h.dfs (fun t => h.tr t fun k hk hL => absurd (hlisted k ((hmem k).2 (.inl hk))) hL) h.step hf
    | cons j r =>
      obtain ⟨k, hk, e⟩ := h.sub _ (hlisted j ((hmem j).2 (.inr (by simp))))
      exact absurd e (hl.1 k hk).ne
  have hrdy : ∀ (listed : Array Bool), listed.size = ops.size → (∀ x ∈ its, listed.getD x.i false = true) → Region.ready .any ops listed = [] := by
    intro listed hsz h
    apply List.eq_nil_iff_forall_not_mem.2
    intro i hi
    obtain ⟨h1, o, ho, _⟩ := mem_ready.1 hi
    have hlt : i < ops.size := (Array.getElem?_eq_some_iff.1 ho).1
    obtain ⟨x, hx, rfl⟩ := hall i hlt
    have h2 := h x hx
    have hlt' : x.i < listed.size := by omega
    simp only [Array.getD_eq_getD_getElem?, Array.getElem?_eq_getElem hlt', Option.getD_some] at h1 h2
    rw [h1] at h2; cases h2
  intro fuel
  induction fuel with
  | zero =>
    intro listed a W D pre val tmk idk tm s pd β tm' s' hsz h hl hev hf hmem hfu
    have hlisted : ∀ x ∈ its, listed.getD x.i false = true := by
      intro x hx
      cases hq : listed.getD x.i false with
      | true => rfl
      | false =>
        have : x ∈ its.filter (fun x => !(listed.getD x.i false)) := List.mem_filter.2 ⟨hx, by rw [hq]; rfl⟩
        have := List.length_pos_of_mem this
        unfold unl at hfu
        omega
    exact ⟨hrdy listed hsz hlisted, done listed a W D pre val tmk idk tm s pd β tm' s' h hl hev hf hmem hlisted⟩
  | succ fuel ih =>
    intro listed a W D pre val tmk idk tm s pd β tm' s' hsz h hl hev hf hmem hfu
    refine ⟨fun hr => done listed a W D pre val tmk idk tm s pd β tm' s' h hl hev hf hmem (all_listed hsz hlat (fun x hx => (hspec x hx).1) hr), fun i hi => ?_⟩
    obtain ⟨h1, o, ho, haf⟩ := mem_ready.1 hi
    have hlt : i < ops.size := (Array.getElem?_eq_some_iff.1 ho).1
    have hlt' : i < listed.size := by omega
    have hun : listed.getD i false = false := by
      simp only [Array.getD_eq_getD_getElem?, Array.getElem?_eq_getElem hlt', Option.getD_some] at h1 ⊢
      exact h1
    obtain ⟨x, hx, rfl⟩ := hall i hlt
    obtain ⟨hxo, hxm⟩ := hspec x hx
    have hoo : o = x.o := by rw [Array.getElem?_toList, ho] at hxo; exact Option.some.inj hxo
    subst hoo
    have haf' : ∀ e ∈ x.o.after.toList, Region.binds .any e = true → listed.getD e.on false = true := fun e he hb => haf e (Array.mem_toList_iff.1 he) hb
    have hunx : ¬ (listed.getD x.i false = true) := by rw [hun]; decide
    have hnext : unl (listed.setIfInBounds x.i true) its ≤ fuel := by
      have := unl_set hlt' hun (its := its) ⟨x, hx, rfl⟩
      omega
    have hL : (fun q => listed.getD q false = true ∨ q = x.i) = (fun q => (listed.setIfInBounds x.i true).getD q false = true) := by
      funext q
      exact propext (set_iff hlt' q).symm
    -- the model goes ahead
    obtain ⟨D', pre', val', tmk', idk', tm1, s1, pd', q1, q2, q3, q4, q5⟩ := Inv.advance D h (fun y hy => hspec y ((hmem y).2 (.inr hy))) hl hev
    have hmem' : ∀ y, y ∈ its ↔ y ∈ pre' ∨ y ∈ D' := fun y => by
      rw [hmem y]
      have e1 : y ∈ pre'.reverse ++ D' ↔ y ∈ pre.reverse ++ D := by rw [q4]
      simpa using e1.symm
    clear h hl hev hmem
    -- what waits for one that is not listed is not ready
    have hwait : ∀ j : It, ¬ (listed.getD j.i false = true) → Nat.testBit x.b j.i = true → False := fun j hj hb => hj (hxm _ q1.cl haf' _ hb)
    rcases (hmem' x).1 hx with hxp | hxd
    · refine q1.late_wp hE hok hxp hunx haf' fun β' a' W' hi => ?_
      rw [hL] at hi
      exact ih _ a' W' D' pre' val' tmk' idk' tm1 s1 pd' β' tm' s' (by simpa using hsz) hi q2 q3 hf hmem' hnext
    · rcases q5 with rfl | ⟨j, r, rfl, hwj, hkj⟩
      · cases hxd
      obtain ⟨l1, l2, l3, l4⟩ := q2
      have hjun : ¬ (listed.getD j.i false = true) := fun hq => by
        obtain ⟨k, hk, e⟩ := q1.sub _ hq
        exact (l1 k hk).ne e
      have hjs := hspec j ((hmem' j).2 (.inr (by simp)))
      rcases List.mem_cons.1 hxd with e | hxr
      · -- the next of the chain
        subst e
        have hstab : ∀ v s2, stable E s2 x.b pd' = true → evOp E F x.o tm1 s1 = some (v, s2) → evD E F ops.toList r (put tm1 x.o.dst v) s2 pd' = some (tm', s') → wpOp P ops Q x.i (wpAny P .any ops Q fuel (listed.setIfInBounds x.i true)) a W := by
          intro v s2 hst hop hev
          refine q1.sync_wp hE hF hok hjs l1 haf' hwj hop (fun k hk hLk hkk _ ⟨p, hp1, hp2, hp3, hp4⟩ => ?_) fun β' a' W' hi => ?_
          · have hb : Nat.testBit x.b p.j.i = false := by
              cases hb : Nat.testBit x.b p.j.i with
              | false => rfl
              | true => rw [hp2] at hb; exact (hwait k hLk hb).elim
            have := stable_spec hst p hp1 hb
            rw [hp2, hp3, hp4] at this
            exact this
          · rw [hL] at hi
            exact ih _ a' W' r (x :: pre') val' tmk' idk' _ s2 pd' β' tm' s' (by simpa using hsz) hi l4 hev hf (fun y => by rw [hmem' y]; simp [or_comm, or_left_comm, or_assoc]) hnext
        rcases hkj with hkj | hkj
        · simp only [evD, hwj, hkj] at q3
          split at q3
          case h_2 => cases q3
          split at q3
          case h_2 => cases q3
          rename_i v s2 hv
          split at q3
          case h_2 => cases q3
          rename_i hst
          exact hstab v s2 hst (by unfold evOp; rw [hkj]; exact hv) q3
        · simp only [evD, hwj, hkj] at q3
          split at q3
          case h_2 => cases q3
          rename_i f args hc
          split at q3
          case h_2 => cases q3
          rename_i v s2 hv
          split at q3
          case h_2 => cases q3
          rename_i hst
          exact hstab v s2 hst (by unfold evOp; rw [hkj]; simp only [hc]; exact hv) q3
      · -- one behind it
        rcases l3 with l3 | ⟨z, rfl, hs1, hs2, hpure⟩
        · have hch : isChain E j.o = true := by unfold isChain; rcases hkj with e | e <;> rw [e]
          exact (hwait j hjun (l3 hch x hxr)).elim
        · have e : x = z := by simpa using hxr
          subst e
          have hbit : Nat.testBit x.b j.i = false := by
            cases hb : Nat.testBit x.b j.i with
            | false => rfl
            | true => exact (hwait j hjun hb).elim
          have hkj' : kind E j.o.op = .eff := by
            rcases hkj with e | e
            · exact e
            · unfold isStore at hs1
              split at hs1
              · rename_i hjo; rw [hjo]; rfl
              · cases hs1
          obtain ⟨m1, m2, m3, _⟩ := l4
          have hpjz : Pair ops.toList j x := m1 j (by simp)
          simp only [evD, hwj, hkj'] at q3
          split at q3
          case h_2 => cases q3
          rename_i htwo
          split at q3
          case h_2 => cases q3
          rename_i vj sj hvj
          split at q3
          case h_2 => cases q3
          split at q3
          case h_1 =>
            rename_i hwz
            unfold isStore at hs2
            split at hs2
            · rename_i hxo'
              unfold wanted at hwz
              rw [hxo'] at hwz
              cases hwz
            · cases hs2
          have hkx : kind E x.o.op = .eff := by
            unfold isStore at hs2
            split at hs2
            · rename_i hjo; rw [hjo]; rfl
            · cases hs2
          simp only [hkx] at q3
          split at q3
          case h_2 => cases q3
          split at q3
          case h_2 => cases q3
          rename_i vz sjz hvz
          split at q3
          case h_2 => cases q3
          cases q3
          simp only [twoStores, hbit] at htwo
          split at htwo
          case h_2 => cases htwo
          rename_i bj bz hbj hbz
          split at htwo
          case h_1 => cases htwo
          rename_i hbb
          have hne : bj ≠ bz := fun e => by rw [beq_of e] at hbb; cases hbb
          obtain ⟨sz1, sz2, w1, w2, w3⟩ := swap hpjz hbit hbj hbz hne hvj hvz
          have hguard : ∀ (o : Oper) tm, isStore o = true → wanted o ops.toList tm = true := fun o tm h => by
            unfold isStore at h
            split at h
            · rfl
            · cases h
          refine q1.sync_wp hE hF hok (hspec x hx) (fun k hk => m1 k (by simp [hk])) haf' (hguard _ _ hs2) (chain_op hkx w1) (fun k hk hLk hkk _ _ => ?_) fun β' a' W' hi => ?_
          · rcases hpure k hk with hq | hq
            · unfold isPure at hq; rw [hkk] at hq; cases hq
            · exact (hwait k hLk hq.1).elim
          · rw [hL] at hi
            refine ih _ a' W' [j] (x :: pre') val' tmk' idk' _ sz1 pd' β' _ sz2 (by simpa using hsz) hi ?_ ?_ (w3.trans hf) (fun y => by rw [hmem' y]; simp [or_comm, or_left_comm, or_assoc]) hnext
            · refine ⟨fun k hk => ?_, fun e he hb => ?_, .inl fun _ y hy => by (cases hy), trivial⟩
              · rcases List.mem_cons.1 hk with rfl | hk
                · refine ⟨Ne.symm hpjz.ne, fun d hd hd' => hpjz.dst d hd' hd, fun d hd hd' => ?_, fun d hd hd' => ?_⟩
                  · rw [hpjz.wr d hd hd'] at hbit; cases hbit
                  · rw [hpjz.rd d hd hd'] at hbit; cases hbit
                · exact l1 k hk
              · obtain ⟨k, hk1, hk2⟩ := l2 e he hb
                exact ⟨k, by simp [hk1], hk2⟩
            · have hst : stable E sz2 j.b pd' = true := by
                have : ∀ (l : List Pn), (∀ p ∈ l, p ∈ pd') → stable E sz2 j.b l = true := by
                  intro l
                  induction l with
                  | nil => intro _; rfl
                  | cons p l ihl =>
                    intro hl
                    obtain ⟨p1, p2⟩ := q1.pdm p (hl p (by simp))
                    rcases hpure _ p1 with hq | hq
                    · rw [hq] at p2; cases p2
                    · simp only [stable, hq.2]
                      exact ihl fun q hq => hl q (by simp [hq])
                exact this pd' fun _ h => h
              simp only [evD, hguard _ _ hs1, hkj', twoStores, w2, hst]
end
/- a region that asks the tape -/
theorem draw_wp {P : Program} {E : Env} (hE : EnvOk P E) (hm : P.follows .mixedOrders = true) {F : FF} (hF : SimF P E F) {nt id : Nat} {ops : Array Oper} {Q : Exit → Act → World → Prop} {β : Bt} {s s' : S} {W : World} {tm tm' : TM} {a : Act}
    (hok : ∀ o ∈ ops.toList, operOk E.ng nt o = true) (hreg : regOk E ops.toList = true) (hn : nt ≤ a.tmps.size) (hw : WR E.ng β s W) (ht : TR β tm a) (h : evD E F ops.toList (ordOf E ops.toList) tm s [] = some (tm', s'))
    (hQ : ∀ a' β' W', a'.tmps.size = a.tmps.size → a'.defers = a.defers → TR β' tm' a' → Step E.ng β s W β' s' W' → Q .normal a' W') : (Code.region id ops true).wp P Q a W := by
  simp only [regOk, Bool.and_eq_true] at hreg
  obtain ⟨⟨hlen, hlat⟩, _⟩ := hreg
  obtain ⟨o1, o2⟩ := ord_spec E ops.toList
  have e0 : (fun q => (Array.replicate ops.size false).getD q false = true) = fun _ : Nat => False := by
    funext q
    refine propext ⟨fun e => ?_, False.elim⟩
    simp only [Array.getD_eq_getD_getElem?, Array.getElem?_replicate] at e
    split at e <;> cases e
  refine wp_region_any hm ?_
  refine any_wp (sz := a.tmps.size) (ds := a.defers) (β0 := β) (s0 := s) (W0 := W) (tmF := tm') (sF := s') (its := ordOf E ops.toList) (nt := nt) hE hF hok hlat o1 (fun j hj => o2 j (by simpa using hj)) ?_ ops.size _ a _ (ordOf E ops.toList) [] (fun _ => undef) (fun _ => tm) (fun _ => 0) tm s [] β tm' s' (by simp) ?_ (laterP_of _ hlat) h (Fin.refl _ _) (fun x => by simp) ?_
  · intro a' β' W' tm1 s1 e1 e2 e3 e4 e5
    refine hQ a' β' W' e1 e2 (fun t => ?_) (e4.congr e5.2.1 e5.2.2)
    rw [← e5.1 t]; exact e3 t
  · rw [e0]
    exact { sub := fun _ h => h.elim
            cl := fun _ _ _ h => h.elim
            pw := .nil
            pcl := fun k hk => by cases hk
            mem := fun k hk => by cases hk
            step := (Step.refl hw).of_heap rfl ⟨rfl, rfl⟩
            size := hn
            szz := rfl
            dfs := rfl
            tr := fun t _ => ht t
            vd := fun k hk => by cases hk
            V := fun k hk => by cases hk
            O := fun k hk => by cases hk
            rc := fun k hk => by cases hk
            ids := fun k hk => by cases hk
            pdm := fun p hp => by cases hp }
  · have hq := Nat.eq_of_beq_eq_true hlen
    have := List.length_filter_le (fun x : It => !((Array.replicate ops.size false).getD x.i false)) (ordOf E ops.toList)
    unfold unl
    simp only [Array.length_toList] at hq
    omega
end Go.Proofs.YtpmehdggikjkfaaGreatDoor.Rf
