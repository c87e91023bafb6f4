/- Values built of parts. -/
import Derived.Test.YtpmehdggikjkfaaGreatDoorOpC
import Derived.Laws.Tables
namespace Go.Proofs.YtpmehdggikjkfaaGreatDoor.Rf
open Go
theorem cells_toList (v : Value) : v.cells.toList = asL v := by cases v <;> rfl
theorem cells_eq (v : Value) : v.cells = (asL v).toArray := by rw [← cells_toList]
theorem fillL_cons : ∀ (l : List Value) (n : Nat) (v : Value) (r q : List Value), fillL l n (v :: r) = some q → n < l.length ∧ fillL (l.set n v) (n + 1) r = some q := by
  intro l
  induction l with
  | nil => intro n v r q h; cases n <;> cases h
  | cons x l ih =>
    intro n v r q h
    cases n with
    | zero =>
      simp only [fillL] at h
      split at h
      · rename_i q' hq
        cases h
        refine ⟨by simp, ?_⟩
        simp only [List.set_cons_zero]
        cases r with
        | nil => cases l <;> simp_all [fillL]
        | cons y r => simp [fillL, hq]
      · cases h
    | succ n =>
      simp only [fillL] at h
      split at h
      · rename_i q' hq
        cases h
        obtain ⟨h1, h2⟩ := ih n v r q' hq
        refine ⟨by simp; exact h1, ?_⟩
        simp [fillL, h2]
      · cases h
theorem fillL_nil : ∀ (l : List Value) (n : Nat) (q : List Value), fillL l n [] = some q → q = l ∧ n ≤ l.length
  | l, 0, q, h => by cases l <;> simp only [fillL, Option.some.injEq] at h <;> exact ⟨h.symm, Nat.zero_le _⟩
  | [], n + 1, q, h => by cases h
  | x :: l, n + 1, q, h => by
    simp only [fillL] at h
    split at h
    · rename_i q' hq
      cases h
      obtain ⟨h1, h2⟩ := fillL_nil l n q' hq
      subst h1
      exact ⟨rfl, by simp; exact h2⟩
    · cases h
theorem fillL_len : ∀ (r l : List Value) (n : Nat) (q : List Value), fillL l n r = some q → n + r.length ≤ l.length ∧ q.length = l.length
  | [], l, n, q, h => by obtain ⟨h1, h2⟩ := fillL_nil l n q h; subst h1; exact ⟨h2, rfl⟩
  | v :: r, l, n, q, h => by
    obtain ⟨h1, h2⟩ := fillL_cons l n v r q h
    obtain ⟨h3, h4⟩ := fillL_len r _ _ q h2
    simp only [List.length_set] at h3 h4
    simp only [List.length_cons]
    exact ⟨by omega, h4⟩
theorem fold_fill (off : Nat) : ∀ (r l : List Value) (j : Nat) (q : List Value), fillL l (off + j) r = some q →
    (r.zipIdx j).foldl (fun (cs : Array Value) (x : Value × Nat) => cs.setIfInBounds (off + x.2) x.1) l.toArray = q.toArray
  | [], l, j, q, h => by obtain ⟨h1, _⟩ := fillL_nil l _ q h; subst h1; rfl
  | v :: r, l, j, q, h => by
    obtain ⟨h1, h2⟩ := fillL_cons l _ v r q h
    simp only [List.zipIdx_cons, List.foldl_cons]
    have : l.toArray.setIfInBounds (off + j) v = (l.set (off + j) v).toArray := by simp
    rw [this]
    exact fold_fill off r (l.set (off + j) v) (j + 1) q h2
theorem fill_one {place : Nat → Option (Nat × Nat)} {i off size : Nat} {v : Value} {rest : List (Nat × Value)} {l q : List Value} (hp : place i = some (off, size)) (hs : (asL v).length = size)
    (h : fillL l off (asL v) = some q) : Instr.fill place l.toArray ((i, v) :: rest) = Instr.fill place q.toArray rest := by
  obtain ⟨h1, h2⟩ := fillL_len _ _ _ _ h
  have hc : v.cells.size = size := by rw [cells_eq]; simpa using hs
  simp only [Instr.fill, hp]
  rw [if_neg (by
    simp only [hc, ne_eq, not_true_eq_false, decide_false, Bool.false_or, decide_eq_true_eq]
    simp only [List.size_toArray]
    omega)]
  have := fold_fill off (asL v) l 0 q (by simpa using h)
  have e : v.cells.zipIdx.foldl (fun cs (c, j) => cs.setIfInBounds (off + j) c) l.toArray = q.toArray := by
    rw [cells_eq, ← this]
    simp [← Array.foldl_toList]
  rw [← e]
theorem fillL_rel {β : Bt} : ∀ {l l' r r' : List Value} {n : Nat} {q : List Value}, VRs β l l' → VRs β r r' → fillL l n r = some q → ∃ q', fillL l' n r' = some q' ∧ VRs β q q' := by
  intro l
  induction l with
  | nil =>
    intro l' r r' n q hl hr h
    cases hl
    cases n with
    | zero => cases hr with
      | nil => cases h; exact ⟨[], rfl, .nil⟩
      | cons _ _ => cases h
    | succ n => cases hr <;> cases h
  | cons x l ih =>
    intro l' r r' n q hl hr h
    cases hl with
    | cons hx hl =>
      cases n with
      | zero => cases hr with
        | nil => simp only [fillL, Option.some.injEq] at h; subst h; exact ⟨_, rfl, .cons hx hl⟩
        | cons hv hr =>
          simp only [fillL] at h
          split at h
          · rename_i q' hq
            cases h
            obtain ⟨q2, h1, h2⟩ := ih hl hr hq
            exact ⟨_, by simp [fillL, h1], .cons hv h2⟩
          · cases h
      | succ n =>
        have h' : (match fillL l n r with | some q => some (x :: q) | none => none) = some q := by cases hr <;> exact h
        split at h'
        · rename_i q' hq
          cases h'
          obtain ⟨q2, h1, h2⟩ := ih hl hr hq
          refine ⟨_, ?_, .cons hx h2⟩
          cases hr <;> simp [fillL, h1]
        · cases h'
section
variable {P : Program} {E : Env} {W : World} {β : Bt} {tm : TM} {ρ : Operand → Value}
def pairsOf (ρ : Operand → Value) (ps : List (Nat × Operand)) : List (Nat × Value) := ps.map fun (i, x) => (i, ρ x)
theorem partsA_run {place : Nat → Option (Nat × Nat)} {sz : Nat} (hp : ∀ i, place i = some (i * sz, sz)) : ∀ (ps : List (Nat × Operand)) {l l' q : List Value}, (∀ x ∈ ps.map (·.2), VR β (evalO tm x) (ρ x)) → VRs β l l' →
    partsA tm sz ps l = some q → ∃ q', Instr.fill place l'.toArray (pairsOf ρ ps) = some q'.toArray ∧ VRs β q q'
  | [], l, l', q, _, hl, h => by cases h; exact ⟨l', rfl, hl⟩
  | (i, x) :: ps, l, l', q, ha, hl, h => by
    simp only [partsA] at h
    split at h
    case h_2 => cases h
    rename_i hb
    split at h
    case h_2 => cases h
    rename_i q1 hq
    have hx := ha x (by simp)
    obtain ⟨q1', h1, h2⟩ := fillL_rel hl hx.asL hq
    obtain ⟨q', h3, h4⟩ := partsA_run hp ps (fun y hy => ha y (by simp only [List.map_cons, List.mem_cons]; exact .inr hy)) h2 h
    refine ⟨q', ?_, h4⟩
    show Instr.fill place l'.toArray ((i, ρ x) :: pairsOf ρ ps) = _
    rw [fill_one (hp i) (by rw [← hx.asL.length]; exact (beq_iff _ _).1 hb) h1, h3]
theorem partsS_run {place : Nat → Option (Nat × Nat)} {fs : Array Field} (hp : ∀ (i : Nat) f tf, fs[i]? = some f → E.tys.find f.type = some tf → place i = some (f.offset, tf.cells)) : ∀ (ps : List (Nat × Operand)) {l l' q : List Value}, (∀ x ∈ ps.map (·.2), VR β (evalO tm x) (ρ x)) → VRs β l l' →
    partsS E tm fs ps l = some q → ∃ q', Instr.fill place l'.toArray (pairsOf ρ ps) = some q'.toArray ∧ VRs β q q'
  | [], l, l', q, _, hl, h => by cases h; exact ⟨l', rfl, hl⟩
  | (i, x) :: ps, l, l', q, ha, hl, h => by
    simp only [partsS] at h
    split at h
    case h_2 => cases h
    rename_i f hf
    split at h
    case h_2 => cases h
    rename_i tf ht
    split at h
    case h_2 => cases h
    rename_i hb
    split at h
    case h_2 => cases h
    rename_i q1 hq
    have hx := ha x (by simp)
    obtain ⟨q1', h1, h2⟩ := fillL_rel hl hx.asL hq
    obtain ⟨q', h3, h4⟩ := partsS_run hp ps (fun y hy => ha y (by simp only [List.map_cons, List.mem_cons]; exact .inr hy)) h2 h
    refine ⟨q', ?_, h4⟩
    show Instr.fill place l'.toArray ((i, ρ x) :: pairsOf ρ ps) = _
    rw [fill_one (hp i f tf hf ht) (by rw [← hx.asL.length]; exact (beq_iff _ _).1 hb) h1, h3]
theorem sizesOk_places (hE : EnvOk P E) : ∀ (fs : List Field), sizesOk E fs = true → ∃ places, fs.mapM (fun f => (P.info? f.type).map fun i => (f.offset, i.size)) = some places ∧
    ∀ (i : Nat) f tf, fs[i]? = some f → E.tys.find f.type = some tf → places[i]? = some (f.offset, tf.cells)
  | [], _ => ⟨[], rfl, fun i f tf h => by simp at h⟩
  | f :: r, h => by
    simp only [sizesOk] at h
    split at h
    · rename_i ti ht
      obtain ⟨i, h1, h2, h3, _⟩ := hE.info ht
      obtain ⟨ps, h4, h5⟩ := sizesOk_places hE r h
      refine ⟨(f.offset, i.size) :: ps, by simp [List.mapM_cons, h1, h4], fun k g tg hk hg => ?_⟩
      cases k with
      | zero =>
        simp only [List.getElem?_cons_zero, Option.some.injEq] at hk ⊢
        subst hk
        rw [ht] at hg; cases hg
        rw [h3]
      | succ k => rw [List.getElem?_cons_succ] at hk ⊢; exact h5 k g tg hk hg
    · cases h
theorem zero_rel (hE : EnvOk P E) {t : TypeId} {ti : TI} {z : List Value} (ht : E.tys.find t = some ti) (hz : zeroL ti = some z) : ∃ z0, ti.zero = some z0 ∧ asL z0 = z ∧ VRs β z z := by
  unfold zeroL at hz
  split at hz
  · rename_i z0 h0
    cases hz
    exact ⟨z0, h0, rfl, (VR.plain (hE.zero t ti z0 ht h0)).asL⟩
  · cases hz
theorem build_run (hE : EnvOk P E) {t : TypeId} {ti : TI} {ps : Array (Nat × Operand)} {z : List Value} {v : Value} (ht : E.tys.find t = some ti) (hz : zeroL ti = some z) (ha : ∀ x ∈ ps.toList.map (·.2), VR β (evalO tm x) (ρ x))
    (h : (match (generalizing := false) ti.desc with
        | .struct fs => match (generalizing := false) sizesOk E fs.toList with
          | true => match (generalizing := false) partsS E tm fs ps.toList z with
            | some l => some (Value.agg ⟨l⟩)
            | none => none
          | false => none
        | .array _ e => match (generalizing := false) E.tys.find e with
          | some te => match (generalizing := false) partsA tm te.cells ps.toList z with
            | some l => some (Value.agg ⟨l⟩)
            | none => none
          | none => none
        | _ => none) = some v) : ∃ v', (Instr.build t (ps.map fun (i, x) => (i, ρ x))).run P W = .ok v' W ∧ VR β v v' := by
  obtain ⟨it, hi, hu, _, _, hiz⟩ := hE.info ht
  obtain ⟨z0, hz0, hz1, hz2⟩ := zero_rel (β := β) hE ht hz
  have hpl : (ps.map fun (i, x) => (i, ρ x)).toList = pairsOf ρ ps.toList := by simp [pairsOf]
  split at h
  · rename_i fs hd
    split at h
    case h_2 => cases h
    rename_i hso
    split at h
    case h_2 => cases h
    rename_i l hl
    cases h
    obtain ⟨places, p1, p2⟩ := sizesOk_places hE _ hso
    obtain ⟨q', q1, q2⟩ := partsS_run (place := (places.toArray[·]?)) (fun i f tf hf ht => by simpa using p2 i f tf (by simpa using hf) ht) ps.toList ha hz2 hl
    refine ⟨.agg q'.toArray, run_build W t _ _ ?_, .agg q2⟩
    unfold Program.built
    rw [hpl]
    simp only [hi, hu, hd, hiz, hz0, p1]
    rw [cells_eq, hz1]; exact q1
  · rename_i n e hd
    split at h
    case h_2 => cases h
    rename_i te hte
    split at h
    case h_2 => cases h
    rename_i l hl
    cases h
    obtain ⟨ie, hie, _, hsz, _⟩ := hE.info hte
    obtain ⟨q', q1, q2⟩ := partsA_run (place := fun i => some (i * te.cells, te.cells)) (fun i => rfl) ps.toList ha hz2 hl
    refine ⟨.agg q'.toArray, run_build W t _ _ ?_, .agg q2⟩
    unfold Program.built
    rw [hpl]
    simp only [hi, hu, hd, hiz, hz0, hie, hsz]
    rw [cells_eq, hz1]; exact q1
  · cases h
end
end Go.Proofs.YtpmehdggikjkfaaGreatDoor.Rf
