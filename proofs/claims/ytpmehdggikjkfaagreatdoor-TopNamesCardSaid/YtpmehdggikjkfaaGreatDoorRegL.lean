/- Regions that ask the tape for their order: the chain's operations, in the run; two stores in either order. -/
import Derived.Test.YtpmehdggikjkfaaGreatDoorRegK
namespace Go.Proofs.YtpmehdggikjkfaaGreatDoor.Rf
open Go
section
variable {P : Program} {E : Env} {nt sz : Nat} {ds : List Deferred} {β0 β β' : Bt} {s0 s s1 s' : S} {W0 W W' : World} {pre : List It} {L : Nat → Prop} {val : Nat → Value} {tmk : Nat → TM} {idk : Nat → Nat} {tm : TM} {pd : List Pn} {a : Act}
theorem op_wp2 (hE : EnvOk P E) {F : FF} (hF : SimF P E F) (hw : WR E.ng β s W) {o : Oper} (ha : ∀ x ∈ o.op.operands.toList, VR β (evalO tm x) (a.eval x)) {v : Value} (h : evOp E F o tm s = some (v, s'))
    {K : Act → World → Prop} {Q : Exit → Act → World → Prop} (hK : ∀ v' β' W', VR β' v v' → Step E.ng β s W β' s' W' → K (a.put o.dst v') W') : o.wp P a W K Q := by
  unfold evOp at h
  unfold Oper.wp
  have hlook : (match evLook E o tm s with | some v => some (v, s) | none => none) = some (v, s') → o.upon P a K Q ((execOp a.eval o).run P W) := fun h => by
    split at h
    case h_2 => cases h
    rename_i u hu
    cases h
    obtain ⟨v', r1, r2⟩ := look_run (P := P) (W := W) hE hw ha hu
    rw [r1]
    exact hK v' β W r2 (Step.refl hw)
  split at h
  · exact hlook h
  · exact hlook h
  · split at h
    case h_2 => cases h
    rename_i m av hm
    cases h
    obtain ⟨R, ob, v', W', r1, r2, r3⟩ := alloc_run (P := P) hE ha hm W
    rw [r1]
    obtain ⟨q1, q2⟩ := r3 s.n hw.none_n
    exact hK v' _ W' q2 (Step.alloc hw q1 r2.1 r2.2)
  · obtain ⟨nx, v', β', W', r1, r2, r3, r4⟩ := eff_run (P := P) hE hw ha h
    rw [r1]
    rcases r2 with rfl | ⟨rfl, rfl⟩
    · exact hK v' β' W' r3 r4
    · exact hK undef β' W' r3 r4
  · split at h
    case h_2 => cases h
    rename_i f args hc
    obtain ⟨hfn, hcall⟩ := hF f args s v s' h
    obtain ⟨args', r1, r2⟩ := evCall_run (W := W) ha hfn hc
    rw [r1]
    refine (hcall β W args' r2 hw).mono fun e W' ⟨v', β', he, hv, hst⟩ => ?_
    subst he
    exact hK v' β' W' hv hst
  · cases h
theorem Inv.opnd_next {ops : List Oper} (h : Inv E ops nt ds sz β0 s0 W0 pre L val tmk idk tm s pd β a W) {j : It} (hj : ops[j.i]? = some j.o ∧ Msk ops j.o j.b) (hp : ∀ k ∈ pre, Pair ops k j)
    (haf : ∀ e ∈ j.o.after.toList, Region.binds .any e = true → L e.on) : ∀ t ∈ names ops j.o, VR β (evalO tm (.tmp t)) (a.eval (.tmp t)) := fun t ht =>
  h.tr t fun k hk hL hd => hL (hj.2 L h.cl haf _ ((hp k hk).rd t hd ht))
theorem Inv.sync_wp (hE : EnvOk P E) {F : FF} (hF : SimF P E F) {ops : Array Oper} {Q : Exit → Act → World → Prop} (h : Inv E ops.toList nt ds sz β0 s0 W0 pre L val tmk idk tm s pd β a W) (hok : ∀ o ∈ ops.toList, operOk E.ng nt o = true)
    {j : It} (hj : ops.toList[j.i]? = some j.o ∧ Msk ops.toList j.o j.b) (hp : ∀ k ∈ pre, Pair ops.toList k j) (haf : ∀ e ∈ j.o.after.toList, Region.binds .any e = true → L e.on) {v : Value} (hwant : wanted j.o ops.toList tm = true) (hop : evOp E F j.o tm s = some (v, s1))
    (hlook : ∀ k ∈ pre, ¬ L k.i → kind E k.o.op = .look → evLook E k.o (tmk k.i) s = some (val k.i) → (∃ p ∈ pd, p.j = k ∧ p.tm = tmk k.i ∧ p.v = val k.i) → evLook E k.o (tmk k.i) s1 = some (val k.i))
    {K : Act → World → Prop} (hK : ∀ β' a' W', Inv E ops.toList nt ds sz β0 s0 W0 (j :: pre) (fun q => L q ∨ q = j.i) val tmk idk (put tm j.o.dst v) s1 pd β' a' W' → K a' W') : wpOp P ops Q j.i K a W := by
  have hmem := hj.1
  rw [Array.getElem?_toList] at hmem
  have ho := hok j.o (List.mem_of_getElem? hj.1)
  have hnm := h.opnd_next hj hp haf
  unfold wpOp
  rw [hmem]
  simp only
  rw [← wanted_at hnm, if_pos hwant]
  left
  exact op_wp2 hE hF h.step.wr (opnds h.step.wr ho hnm) hop fun v' β' W' hv hst => hK β' _ W' (h.sync hj hp haf hv hst hlook (oper_dst ho h.size))
end
/- two stores in either order -/
theorem storeN_iff {E : Env} {s s' : S} {b off : Nat} {l : List Value} : storeN E s b off l = some s' ↔ Nat.ble E.ng b = true ∧ ∃ c g, s.h.find b = some (.row c g) ∧ has c off l = true ∧ ones l = true ∧ s' = { s with h := s.h.ins b (some (.row (setN c off l) g)) } := by
  constructor
  · intro h
    unfold storeN at h
    split at h
    case h_2 => cases h
    rename_i h1
    split at h
    case h_2 => cases h
    rename_i c g hf
    split at h
    case h_2 => cases h
    rename_i h2
    split at h
    case h_2 => cases h
    rename_i h3
    cases h
    exact ⟨h1, c, g, hf, h2, h3, rfl⟩
  · rintro ⟨h1, c, g, hf, h2, h3, rfl⟩
    simp only [storeN, h1, hf, h2, h3]
theorem storeAt_spec {o : Oper} {tm : TM} {b : Nat} (h : storeAt o tm = some b) : ∃ t a x, o.op = .store t a x ∧ o.guard = none ∧ ∃ ad, evalO tm a = .pointer (some ad) ∧ ad.block = b := by
  unfold storeAt at h
  split at h
  · split at h
    · rename_i ad ha
      cases h
      exact ⟨_, _, _, rfl, rfl, ad, ha, rfl⟩
    · cases h
  · cases h
theorem eff_store {E : Env} {o : Oper} {t : TypeId} {a x : Operand} (ho : o.op = .store t a x) {tm : TM} {s s' : S} {v : Value} : evEff E o tm s = some (v, s') ↔
    v = undef ∧ ∃ ad ti, evalO tm a = .pointer (some ad) ∧ E.tys.find t = some ti ∧ Nat.beq (asL (evalO tm x)).length ti.cells = true ∧ storeN E s ad.block ad.off (asL (evalO tm x)) = some s' := by
  obtain ⟨dst, op, type, pos, after, guard⟩ := o
  simp only at ho
  subst ho
  constructor
  · intro h
    simp only [evEff] at h
    split at h
    case h_2 => cases h
    rename_i ad ti ha hti
    split at h
    case h_2 => cases h
    rename_i hl
    split at h
    case h_2 => cases h
    rename_i s2 hs
    cases h
    exact ⟨rfl, ad, ti, ha, hti, hl, hs⟩
  · rintro ⟨rfl, ad, ti, ha, hti, hl, hs⟩
    simp only [evEff, ha, hti, hl, hs]
def Fin (tm : TM) (s : S) (tm' : TM) (s' : S) : Prop := (∀ t, evalO tm (.tmp t) = evalO tm' (.tmp t)) ∧ s.n = s'.n ∧ ∀ i, s.h.find i = s'.h.find i
theorem Fin.refl (tm : TM) (s : S) : Fin tm s tm s := ⟨fun _ => rfl, rfl, fun _ => rfl⟩
theorem Fin.trans {tm tm' tm'' : TM} {s s' s'' : S} (h : Fin tm s tm' s') (h' : Fin tm' s' tm'' s'') : Fin tm s tm'' s'' :=
  ⟨fun t => (h.1 t).trans (h'.1 t), h.2.1.trans h'.2.1, fun i => (h.2.2 i).trans (h'.2.2 i)⟩
theorem Step.congr {ng : Nat} {β β' : Bt} {s s' s'' : S} {W W' : World} (h : Step ng β s W β' s' W') (hn : s'.n = s''.n) (hf : ∀ i, s'.h.find i = s''.h.find i) : Step ng β s W β' s'' W' where
  wr := {
    dom := fun i x e => by rw [← hn]; exact h.wr.dom i x e
    live := fun i m e => by rw [← hn]; rw [← hf] at e; exact h.wr.live i m e
    blk := h.wr.blk
    rel := fun i m b R e hb => by rw [← hf] at e; exact h.wr.rel i m b R e hb
    inj := fun i j m m' b R R' e e' => by rw [← hf] at e e'; exact h.wr.inj i j m m' b R R' e e'
    glob := h.wr.glob
    ngn := by rw [← hn]; exact h.wr.ngn }
  sub := h.sub
  old := h.old
  n_le := by rw [← hn]; exact h.n_le
  mfr i hi hb := by rw [← hf]; exact h.mfr i hi hb
  rfr := h.rfr
  fresh i m b R e := by rw [← hf] at e; exact h.fresh i m b R e
  size_le := h.size_le
  io := h.io
theorem evalO_put_opnd {tm : TM} {dst : Option Tmp} {v : Value} {x : Operand} (h : ∀ d, dst = some d → x ≠ .tmp d) : evalO (put tm dst v) x = evalO tm x := by
  cases x with
  | tmp t => exact evalO_put_ne v (fun e => h t e rfl)
  | _ => rfl
theorem swap {E : Env} {ops : List Oper} {j z : It} {tm : TM} {s sj sjz : S} {vj vz : Value} (hp : Pair ops j z) (hbit : Nat.testBit z.b j.i = false)
    {bj bz : Nat} (hj : storeAt j.o tm = some bj) (hz : storeAt z.o tm = some bz) (hne : bj ≠ bz) (h1 : evEff E j.o tm s = some (vj, sj)) (h2 : evEff E z.o (put tm j.o.dst vj) sj = some (vz, sjz)) :
    ∃ s1 s2, evEff E z.o tm s = some (undef, s1) ∧ evEff E j.o (put tm z.o.dst undef) s1 = some (undef, s2) ∧ Fin (put (put tm z.o.dst undef) j.o.dst undef) s2 (put (put tm j.o.dst vj) z.o.dst vz) sjz := by
  obtain ⟨tj, aj, xj, oj, _, adj, ej, ebj⟩ := storeAt_spec hj
  obtain ⟨tz, az, xz, oz, _, adz, ez, ebz⟩ := storeAt_spec hz
  have nz : ∀ x, x = az ∨ x = xz → ∀ v, evalO (put tm j.o.dst v) x = evalO tm x := fun x hx v => evalO_put_opnd fun d hd e => by
    have : d ∈ names ops z.o := by
      unfold names
      refine List.mem_append_left _ (List.mem_filterMap.2 ⟨.tmp d, ?_, rfl⟩)
      rw [oz]
      rcases hx with hx | hx <;> rw [← e, hx] <;> simp [Op.operands]
    rw [hp.rd d hd this] at hbit
    cases hbit
  have nj : ∀ x, x = aj ∨ x = xj → ∀ v, evalO (put tm z.o.dst v) x = evalO tm x := fun x hx v => evalO_put_opnd fun d hd e => by
    have : d ∈ names ops j.o := by
      unfold names
      refine List.mem_append_left _ (List.mem_filterMap.2 ⟨.tmp d, ?_, rfl⟩)
      rw [oj]
      rcases hx with hx | hx <;> rw [← e, hx] <;> simp [Op.operands]
    rw [hp.wr d hd this] at hbit
    cases hbit
  obtain ⟨rfl, ad1, ti1, q1, q2, q3, q4⟩ := (eff_store oj).1 h1
  obtain ⟨rfl, ad2, ti2, p1, p2, p3, p4⟩ := (eff_store oz).1 h2
  rw [ej] at q1; cases q1
  rw [nz az (.inl rfl), ez] at p1; cases p1
  rw [nz xz (.inr rfl)] at p3 p4
  subst ebj; subst ebz
  obtain ⟨g1, c1, k1, f1, f2, f3, rfl⟩ := storeN_iff.1 q4
  obtain ⟨g2, c2, k2, f4, f5, f6, rfl⟩ := storeN_iff.1 p4
  rw [T.find_ins_ne _ _ (Ne.symm hne)] at f4
  refine ⟨_, _, (eff_store oz).2 ⟨rfl, adz, ti2, ez, p2, p3, storeN_iff.2 ⟨g2, c2, k2, f4, f5, f6, rfl⟩⟩,
    (eff_store oj).2 ⟨rfl, adj, ti1, by rw [nj aj (.inl rfl)]; exact ej, q2, by rw [nj xj (.inr rfl)]; exact q3, storeN_iff.2 ⟨g1, c1, k1, by rw [T.find_ins_ne _ _ hne]; exact f1, by rw [nj xj (.inr rfl)]; exact f2, by rw [nj xj (.inr rfl)]; exact f3, rfl⟩⟩, ?_⟩
  refine ⟨fun t => ?_, rfl, fun i => ?_⟩
  · by_cases h : j.o.dst = some t
    · have hz' : z.o.dst ≠ some t := hp.dst t h
      rw [evalO_put_ne _ hz', h, evalO_put, evalO_put, if_pos rfl, if_pos rfl]
    · rw [evalO_put_ne _ h]
      by_cases h' : z.o.dst = some t
      · rw [h', evalO_put, evalO_put, if_pos rfl, if_pos rfl]
      · rw [evalO_put_ne _ h', evalO_put_ne _ h', evalO_put_ne _ h]
  · show ((s.h.ins _ _).ins _ _).find i = ((s.h.ins _ _).ins _ _).find i
    rw [nj xj (.inr rfl)]
    rw [T.find_ins, T.find_ins, T.find_ins, T.find_ins]
    by_cases h : i = adj.block
    · rw [if_pos h, if_neg (by rw [h]; exact hne), if_pos h]
    · rw [if_neg h, if_neg h]
end Go.Proofs.YtpmehdggikjkfaaGreatDoor.Rf
