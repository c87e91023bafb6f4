/- The evaluator, made for the kernel: regions, control, functions; it is the evaluator. -/
import Derived.Test.YtpmehdggikjkfaaGreatDoorFastA
namespace Go.Proofs.YtpmehdggikjkfaaGreatDoor.Rf
open Go
noncomputable def wantG (ops : List Oper) (tm : TM) (g : Option (Nat × Bool)) : Bool := Option.rec (motive := fun _ => Bool) true (fun jw => match yl ops tm jw.1 with | some b => b == jw.2 | none => false) g
theorem wantG_eq (ops : List Oper) (tm : TM) (o : Oper) : wantG ops tm o.guard = wanted o ops tm := by
  unfold wantG wanted
  cases o.guard with
  | none => rfl
  | some jw => rfl
noncomputable def evOpsF (E : Env) (F : FF) (ops : List Oper) (l : List Oper) : TM → S → Option (TM × S) :=
  List.rec (motive := fun _ => TM → S → Option (TM × S)) (fun tm s => some (tm, s))
    (fun o _ ih tm s => Bool.rec (motive := fun _ => Option (TM × S)) (ih (put tm o.dst undef) s)
      (Option.rec (motive := fun _ => Option (TM × S)) none (fun p => ih (put tm o.dst p.1) p.2) (opDo o.op E F tm s)) (wantG ops tm o.guard)) l
theorem evOpsF_eq (E : Env) (F : FF) (ops : List Oper) : ∀ (l : List Oper) (tm : TM) (s : S), evOpsF E F ops l tm s = evOps E F ops l tm s
  | [], _, _ => rfl
  | o :: r, tm, s => by
    show Bool.rec (motive := fun _ => Option (TM × S)) (evOpsF E F ops r (put tm o.dst undef) s) (Option.rec (motive := fun _ => Option (TM × S)) none (fun p => evOpsF E F ops r (put tm o.dst p.1) p.2) (opDo o.op E F tm s)) (wantG ops tm o.guard) = _
    simp only [evOps]
    rw [wantG_eq, opDo_eq]
    cases wanted o ops tm with
    | false => exact evOpsF_eq E F ops r _ _
    | true =>
      cases evOp E F o tm s with
      | none => rfl
      | some p => exact evOpsF_eq E F ops r _ _
noncomputable def stableF (E : Env) (s : S) (b : Nat) (l : List Pn) : Bool :=
  List.rec (motive := fun _ => Bool) true (fun p _ ih => Bool.rec (motive := fun _ => Bool) (Option.rec (motive := fun _ => Bool) false (fun v => Bool.rec (motive := fun _ => Bool) false ih (same v p.v)) (lkDo p.j.o.op E p.tm s)) ih (Nat.testBit b p.j.i)) l
theorem stableF_eq (E : Env) (s : S) (b : Nat) : ∀ l : List Pn, stableF E s b l = stable E s b l
  | [] => rfl
  | p :: r => by
    show Bool.rec (motive := fun _ => Bool) (Option.rec (motive := fun _ => Bool) false (fun v => Bool.rec (motive := fun _ => Bool) false (stableF E s b r) (same v p.v)) (lkDo p.j.o.op E p.tm s)) (stableF E s b r) (Nat.testBit b p.j.i) = _
    simp only [stable]
    rw [lkDo_eq, stableF_eq E s b r]
    cases Nat.testBit b p.j.i with
    | true => rfl
    | false =>
      cases evLook E p.j.o p.tm s with
      | none => rfl
      | some v =>
        simp only
        cases same v p.v <;> rfl
abbrev DK := TM → S → List Pn → Option (TM × S)
noncomputable def dPure (E : Env) (_ : FF) (j : It) (_ : List It) (ih : DK) (tm : TM) (s : S) (pd : List Pn) : Option (TM × S) :=
  Option.rec (motive := fun _ => Option (TM × S)) none (fun v => ih (put tm j.o.dst v) s pd) (lkDo j.o.op E tm s)
noncomputable def dLook (E : Env) (_ : FF) (j : It) (_ : List It) (ih : DK) (tm : TM) (s : S) (pd : List Pn) : Option (TM × S) :=
  Option.rec (motive := fun _ => Option (TM × S)) none (fun v => ih (put tm j.o.dst v) s (⟨j, tm, v⟩ :: pd)) (lkDo j.o.op E tm s)
noncomputable def dAlloc (E : Env) (_ : FF) (j : It) (_ : List It) (ih : DK) (tm : TM) (s : S) (pd : List Pn) : Option (TM × S) :=
  Option.rec (motive := fun _ => Option (TM × S)) none (fun p => ih (put tm j.o.dst (p.2.at s.n)) (newB s p.1) pd) (alDo j.o.op E tm)
noncomputable def dEff (E : Env) (_ : FF) (j : It) (r : List It) (ih : DK) (tm : TM) (s : S) (pd : List Pn) : Option (TM × S) :=
  Bool.rec (motive := fun _ => Option (TM × S)) none (Option.rec (motive := fun _ => Option (TM × S)) none (fun p => Bool.rec (motive := fun _ => Option (TM × S)) none (ih (put tm j.o.dst p.1) p.2 pd) (stableF E p.2 j.b pd)) (efDo j.o.op E tm s)) (twoStores j tm r)
noncomputable def dCall (E : Env) (F : FF) (j : It) (_ : List It) (ih : DK) (tm : TM) (s : S) (pd : List Pn) : Option (TM × S) :=
  Option.rec (motive := fun _ => Option (TM × S)) none (fun q => Option.rec (motive := fun _ => Option (TM × S)) none (fun p => Bool.rec (motive := fun _ => Option (TM × S)) none (ih (put tm j.o.dst p.1) p.2 pd) (stableF E p.2 j.b pd)) (F q.1 q.2 s)) (evCall j.o tm)
noncomputable def dBad (_ : Env) (_ : FF) (_ : It) (_ : List It) (_ : DK) (_ : TM) (_ : S) (_ : List Pn) : Option (TM × S) := none
noncomputable def dDo (k : K) : Env → FF → It → List It → DK → DK := K.rec (motive := fun _ => Env → FF → It → List It → DK → DK) dPure dLook dAlloc dEff dCall dBad k
noncomputable def evDF (E : Env) (F : FF) (ops : List Oper) (l : List It) : DK :=
  List.rec (motive := fun _ => DK) (fun tm s _ => some (tm, s))
    (fun j r ih tm s pd => Bool.rec (motive := fun _ => Option (TM × S)) (ih (put tm j.o.dst undef) s pd) (dDo (kdDo j.o.op E) E F j r ih tm s pd) (wantG ops tm j.o.guard)) l
theorem evDF_eq (E : Env) (F : FF) (ops : List Oper) : ∀ (l : List It) (tm : TM) (s : S) (pd : List Pn), evDF E F ops l tm s pd = evD E F ops l tm s pd
  | [], _, _, _ => rfl
  | j :: r, tm, s, pd => by
    have ih := evDF_eq E F ops r
    have ih' : evDF E F ops r = evD E F ops r := by funext tm s pd; exact ih tm s pd
    show Bool.rec (motive := fun _ => Option (TM × S)) (evDF E F ops r (put tm j.o.dst undef) s pd) (dDo (kdDo j.o.op E) E F j r (evDF E F ops r) tm s pd) (wantG ops tm j.o.guard) = _
    simp only [evD]
    rw [wantG_eq, kdDo_eq, ih']
    cases wanted j.o ops tm with
    | false => rfl
    | true =>
      cases kind E j.o.op with
      | pure =>
        show dPure E F j r _ tm s pd = _
        unfold dPure
        rw [lkDo_eq]
        cases evLook E j.o tm s <;> rfl
      | look =>
        show dLook E F j r _ tm s pd = _
        unfold dLook
        rw [lkDo_eq]
        cases evLook E j.o tm s <;> rfl
      | alloc =>
        show dAlloc E F j r _ tm s pd = _
        unfold dAlloc
        rw [alDo_eq]
        cases evAlloc E j.o tm <;> rfl
      | eff =>
        show dEff E F j r _ tm s pd = _
        unfold dEff
        rw [efDo_eq]
        cases twoStores j tm r with
        | false => rfl
        | true =>
          cases evEff E j.o tm s with
          | none => rfl
          | some p =>
            simp only
            rw [stableF_eq]
            cases stable E p.2 j.b pd <;> rfl
      | call =>
        show dCall E F j r _ tm s pd = _
        unfold dCall
        cases evCall j.o tm with
        | none => rfl
        | some q =>
          simp only
          cases F q.1 q.2 s with
          | none => rfl
          | some p =>
            simp only
            rw [stableF_eq]
            cases stable E p.2 j.b pd <;> rfl
      | bad => rfl
abbrev CR := Option (Ex × TM × S)
abbrev CL := Code → TM → S → CR
abbrev CF := Env → FF → CL → TM → S → CR
noncomputable def opsR (r : Option (TM × S)) : CR := Option.rec (motive := fun _ => CR) none (fun p => some (.normal, p.1, p.2)) r
noncomputable def exSeq (e : Ex) : (TM → S → CR) → TM → S → CR := Ex.rec (motive := fun _ => (TM → S → CR) → TM → S → CR) (fun k tm s => k tm s) (fun i _ tm s => some (.exit i, tm, s)) (fun _ tm s => some (.ret, tm, s)) e
noncomputable def exBlk (e : Ex) : Nat → TM → S → CR := Ex.rec (motive := fun _ => Nat → TM → S → CR) (fun _ tm s => some (.normal, tm, s)) (fun j i tm s => Bool.rec (motive := fun _ => CR) (some (.exit j, tm, s)) (some (.normal, tm, s)) (Nat.beq j i)) (fun _ tm s => some (.ret, tm, s)) e
noncomputable def seqR (r : CR) (k : TM → S → CR) : CR := Option.rec (motive := fun _ => CR) none (fun p => exSeq p.1 k p.2.1 p.2.2) r
noncomputable def blkR (r : CR) (i : Nat) : CR := Option.rec (motive := fun _ => CR) none (fun p => exBlk p.1 i p.2.1 p.2.2) r
noncomputable def cSkip (_ : Env) (_ : FF) (_ : CL) (tm : TM) (s : S) : CR := some (.normal, tm, s)
noncomputable def cRegion (_ : Nat) (ops : Array Oper) (dr : Bool) (E : Env) (F : FF) (_ : CL) (tm : TM) (s : S) : CR :=
  Bool.rec (motive := fun _ => CR) (opsR (evOpsF E F ops.toList ops.toList tm s)) (Bool.rec (motive := fun _ => CR) (opsR (evDF E F ops.toList (ordOf E ops.toList) tm s [])) none (Nat.beq ops.size 33)) dr
noncomputable def cSeq (_ _ : Code) (x y : CF) (E : Env) (F : FF) (L : CL) (tm : TM) (s : S) : CR := seqR (x E F L tm s) (y E F L)
noncomputable def cCond (c : Operand) (_ _ : Code) (x y : CF) (E : Env) (F : FF) (L : CL) (tm : TM) (s : S) : CR := match evalO tm c with
  | .bool b => Bool.rec (motive := fun _ => CR) (y E F L tm s) (x E F L tm s) b
  | _ => none
noncomputable def cBlock (i : Nat) (_ : Code) (x : CF) (E : Env) (F : FF) (L : CL) (tm : TM) (s : S) : CR := blkR (x E F L tm s) i
noncomputable def cLoop (c : Code) (x : CF) (E : Env) (F : FF) (L : CL) (tm : TM) (s : S) : CR := seqR (x E F L tm s) (L c)
noncomputable def cExit (i : Nat) (_ : Env) (_ : FF) (_ : CL) (tm : TM) (s : S) : CR := some (.exit i, tm, s)
noncomputable def cRet (_ : Env) (_ : FF) (_ : CL) (tm : TM) (s : S) : CR := some (.ret, tm, s)
noncomputable def evCF (c : Code) : CF :=
  Code.rec (motive := fun _ => CF) cSkip cRegion cSeq cCond cBlock cLoop (fun _ _ _ _ _ _ _ _ _ _ _ => none) cExit (fun _ x => x) (fun _ => cSkip) (fun _ _ _ _ _ _ => none) cRet (fun _ _ _ _ _ _ => none) c
theorem opsR_eq (r : Option (TM × S)) : opsR r = (match r with | some (tm, s) => some (.normal, tm, s) | none => none) := by cases r <;> rfl
theorem evCF_eq (E : Env) (F : FF) (L : CL) : ∀ (c : Code) (tm : TM) (s : S), evCF c E F L tm s = evC E F L c tm s
  | .skip, _, _ => rfl
  | .label _, _, _ => rfl
  | .region i ops dr, tm, s => by
    show cRegion i ops dr E F L tm s = _
    unfold cRegion
    simp only [evC]
    rw [opsR_eq, opsR_eq, evOpsF_eq, evDF_eq]
    cases dr with
    | false => rfl
    | true => cases Nat.beq ops.size 33 <;> rfl
  | .seq x y, tm, s => by
    show seqR (evCF x E F L tm s) (evCF y E F L) = _
    have e : evCF y E F L = evC E F L y := by funext tm s; exact evCF_eq E F L y tm s
    rw [evCF_eq E F L x tm s, e]
    simp only [evC]
    cases evC E F L x tm s with
    | none => rfl
    | some p =>
      obtain ⟨ex, tm', s'⟩ := p
      cases ex <;> rfl
  | .cond c x y, tm, s => by
    show cCond c x y (evCF x) (evCF y) E F L tm s = _
    unfold cCond
    simp only [evC]
    rw [evCF_eq E F L x tm s, evCF_eq E F L y tm s]
    cases evalO tm c with
    | bool b => cases b <;> rfl
    | _ => rfl
  | .block i c, tm, s => by
    show blkR (evCF c E F L tm s) i = _
    rw [evCF_eq E F L c tm s]
    simp only [evC]
    cases evC E F L c tm s with
    | none => rfl
    | some p =>
      obtain ⟨ex, tm', s'⟩ := p
      cases ex with
      | exit j =>
        show Bool.rec (motive := fun _ => CR) _ _ (Nat.beq j i) = _
        simp only
        cases Nat.beq j i <;> rfl
      | _ => rfl
  | .loop c, tm, s => by
    show seqR (evCF c E F L tm s) (L c) = _
    rw [evCF_eq E F L c tm s]
    simp only [evC]
    cases evC E F L c tm s with
    | none => rfl
    | some p =>
      obtain ⟨ex, tm', s'⟩ := p
      cases ex <;> rfl
  | .scope c, tm, s => by
    show evCF c E F L tm s = _
    rw [evCF_eq E F L c tm s]
    simp only [evC]
  | .exit _, _, _ => rfl
  | .ret, _, _ => rfl
  | .rangeFunc .., _, _ => rfl
  | .goto _, _, _ => rfl
  | .refuse _, _, _ => rfl
noncomputable def evLF (E : Env) (F : FF) (n : Nat) : CL :=
  Nat.rec (motive := fun _ => CL) (fun _ _ _ => none) (fun _ ih c tm s => seqR (evCF c E F ih tm s) (ih c)) n
theorem evLF_eq (E : Env) (F : FF) : ∀ (n : Nat), evLF E F n = evL E F n
  | 0 => rfl
  | n + 1 => by
    funext c tm s
    show seqR (evCF c E F (evLF E F n) tm s) (evLF E F n c) = _
    rw [evLF_eq E F n, evCF_eq]
    simp only [evL]
    cases evC E F (evL E F n) c tm s with
    | none => rfl
    | some p =>
      obtain ⟨ex, tm', s'⟩ := p
      cases ex <;> rfl
noncomputable def exRes (e : Ex) : Env → Func → TM → S → Option (Value × S) := Ex.rec (motive := fun _ => Env → Func → TM → S → Option (Value × S)) (fun E fn tm s => res E fn tm s) (fun _ _ _ _ _ => none) (fun E fn tm s => res E fn tm s) e
noncomputable def bodyF (E : Env) (F : FF) (fn : Func) (args : List Value) (s : S) : Option (Value × S) :=
  Option.rec (motive := fun _ => Option (Value × S)) none (fun c => Option.rec (motive := fun _ => Option (Value × S)) none (fun p => exRes p.1 E fn p.2.1 p.2.2) (evCF c E F (evLF E F 1000) (T.ofList args 0 .nil) s)) fn.body
noncomputable def evFF (E : Env) (G : GG) (n : Nat) : FF :=
  Nat.rec (motive := fun _ => FF) (fun _ _ _ => none)
    (fun _ ih f args s => Option.rec (motive := fun _ => Option (Value × S)) (Option.rec (motive := fun _ => Option (Value × S)) none (fun fn => bodyF E ih fn args s) (E.fns.find f)) (fun r => r) (G f args s)) n
theorem evFF_eq (E : Env) (G : GG) : ∀ n, evFF E G n = evF E G n
  | 0 => rfl
  | n + 1 => by
    funext f args s
    show Option.rec (motive := fun _ => Option (Value × S)) (Option.rec (motive := fun _ => Option (Value × S)) none (fun fn => bodyF E (evFF E G n) fn args s) (E.fns.find f)) (fun r => r) (G f args s) = _
    rw [evFF_eq E G n]
    simp only [evF]
    cases G f args s with
    | some r => rfl
    | none =>
      simp only
      cases E.fns.find f with
      | none => rfl
      | some fn =>
        simp only [bodyF]
        cases fn.body with
        | none => rfl
        | some c =>
          simp only
          rw [evLF_eq, evCF_eq]
          cases evC E (evF E G n) (evL E (evF E G n) 1000) c (T.ofList args 0 .nil) s with
          | none => rfl
          | some p =>
            obtain ⟨ex, tm', s'⟩ := p
            cases ex <;> rfl
end Go.Proofs.YtpmehdggikjkfaaGreatDoor.Rf
