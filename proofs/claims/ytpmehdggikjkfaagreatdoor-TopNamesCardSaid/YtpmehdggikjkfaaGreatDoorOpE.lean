/- Operations that change nothing: loads, addresses, parts, lengths. -/
import Derived.Test.YtpmehdggikjkfaaGreatDoorOpD
import Derived.Laws.IdiomStrings
namespace Go.Proofs.YtpmehdggikjkfaaGreatDoor.Rf
open Go
section
variable {P : Program} {E : Env} {W : World} {β : Bt} {s : S}
theorem natOf_spec {v : Value} {n : Nat} (h : natOf v = some n) : ∃ k, v = .int k (n : Int) := by
  unfold natOf at h
  split at h
  · cases h; exact ⟨_, rfl⟩
  · cases h
theorem natOf_rel {v v' : Value} (hv : VR β v v') {n : Nat} (h : natOf v = some n) : ∃ k, v' = .int k (n : Int) := by
  obtain ⟨k, rfl⟩ := natOf_spec h
  cases hv; exact ⟨k, rfl⟩
theorem loadAt_run (hE : EnvOk P E) (hw : WR E.ng β s W) {t : TypeId} {a a' v : Value} (ha : VR β a a')
    (h : (match (generalizing := false) a with
    | .pointer (some ad) => match (generalizing := false) E.tys.find t with
      | some ti => match (generalizing := false) isAgg ti.desc with
        | true => match (generalizing := false) loadN s ad ti.cells with
          | some l => some (Value.agg ⟨l⟩)
          | none => none
        | false => match (generalizing := false) loadN s ad 1 with
          | some [v] => some v
          | _ => none
      | none => none
    | _ => none) = some v) : ∃ v', (Instr.loadAt t a').run P W = .ok v' W ∧ VR β v v' := by
  split at h
  case h_2 => cases h
  rename_i ad
  cases ha with
  | ptr o hb =>
  split at h
  case h_2 => cases h
  rename_i ti ht
  have hrun : ∀ x : Addr, (Instr.loadAt t (.pointer (some x))).run P W = (loadVar t x).run P W := fun x => by simp [Instr.loadAt, Instr.sureAddr]
  rw [hrun]
  unfold loadVar
  rw [Sem.run_bind, hE.agg ht, Result.andThen_ok]
  split at h
  · rename_i hag
    split at h
    case h_2 => cases h
    rename_i l hl
    cases h
    obtain ⟨ws, h1, h2, h3⟩ := load_run (P := P) hw hb hl
    refine ⟨.agg ws.toArray, ?_, .agg h1⟩
    rw [if_pos hag, Sem.run_bind, hE.size ht, Result.andThen_ok, Sem.run_bind, h3 W rfl, Result.andThen_ok]
    rfl
  · rename_i hag
    split at h
    case h_2 => cases h
    rename_i v0 hl
    cases h
    obtain ⟨w, h1, h2⟩ := load_one (P := P) hw hb hl
    exact ⟨w, by rw [if_neg (by rw [hag]; decide)]; exact h2, h1⟩
theorem unOp_run {op : UnOp} {x x' v : Value} (hx : VR β x x') (h : (match (generalizing := false) op, x with
    | .not, .bool b => some (Value.bool (!b))
    | .neg, .int k n => some (.int k (wr k (0 - n)))
    | .xor, .int k n => intOp .xor k (allOnes k) n
    | _, _ => none) = some v) : (Op.unary op x').run P W = .ok v W ∧ VR β v v := by
  split at h
  · skip; cases hx; cases h; exact ⟨rfl, .bool _⟩
  · skip; cases hx; cases h; exact ⟨by simp [Op.unary, Op.intArith, wr_eq], .int _ _⟩
  · rename_i k n
    cases hx
    have hk : (if k.signed then -1 else k.max) = allOnes k := by cases k <;> decide
    obtain ⟨h1, h2⟩ := intOp_run (P := P) (W := W) (β := β) h ⟨by decide, by decide⟩ 0 (.const undef) (.const undef)
    refine ⟨?_, h2⟩
    have hg : eqGuard .xor 0 (.const undef) (.const undef) (.int k (allOnes k)) (.int k n) = pure () := rfl
    rw [hg] at h1
    simp only [pure_bind] at h1
    show (Op.intBits .xor k (if k.signed then -1 else k.max) n).run P W = _
    rw [hk, ← h1]
    simp [binOp]
  · cases h
theorem makeInterface_run (hE : EnvOk P E) {t : TypeId} {x x' v : Value} (hx : VR β x x') (h : (match (generalizing := false) E.tys.find t with
    | some ti => match (generalizing := false) ti.desc with
      | .interface _ => none
      | _ => some (Value.iface t x)
    | none => none) = some v) : ∃ v', (Instr.makeInterface t x').run P W = .ok v' W ∧ VR β v v' := by
  split at h
  case h_2 => cases h
  rename_i ti ht
  split at h
  · cases h
  · rename_i hd
    cases h
    refine ⟨.iface t x', ?_, .iface t hx⟩
    rw [Instr.makeInterface, Sem.run_bind, hE.und ht, Result.andThen_ok]
    split
    · rename_i ms hms; exact absurd hms (hd ms)
    · rfl
theorem fieldAt_run (hE : EnvOk P E) {t : TypeId} {x x' v : Value} {i : Nat} (hx : VR β x x') (h : (match (generalizing := false) E.tys.find t, x with
    | some ti, .pointer (some a) => match (generalizing := false) ti.desc with
      | .struct fs => match (generalizing := false) fs[i]? with
        | some f => match (generalizing := false) E.tys.find f.type with
          | some tf => match (generalizing := false) Nat.beq tf.cells 0 with
            | true => none
            | false => some (Value.pointer (some (a.add f.offset)))
          | none => none
        | none => none
      | _ => none
    | _, _ => none) = some v) : ∃ v', (Instr.fieldAt t x' i).run P W = .ok v' W ∧ VR β v v' := by
  split at h
  case h_2 => cases h
  rename_i ti a ht
  cases hx with
  | ptr o hb =>
  split at h
  case h_2 => cases h
  rename_i fs hd
  split at h
  case h_2 => cases h
  rename_i f hf
  split at h
  case h_2 => cases h
  rename_i tf htf
  split at h
  case h_1 => cases h
  rename_i hz
  cases h
  refine ⟨_, ?_, by rw [add_mk]; exact .ptr _ hb⟩
  · have hne : ¬ tf.cells = 0 := fun e => by rw [e] at hz; cases hz
    rw [Instr.fieldAt, Sem.run_bind, hE.und ht, Result.andThen_ok, hd]
    simp only [hf]
    simp [Instr.sureAddr, fieldPlace, hE.size htf, hne, add_mk]
theorem part_run (hE : EnvOk P E) {t : TypeId} {l l' : List Value} {off : Nat} {v : Value} (hl : VRs β l l') (h : partOf E t l off = some v) : ∃ v', (part t l'.toArray off).run P W = .ok v' W ∧ VR β v v' := by
  unfold partOf at h
  split at h
  case h_2 => cases h
  rename_i tf ht
  rw [part, Sem.run_bind, hE.agg ht, Result.andThen_ok]
  split at h
  · rename_i hag
    cases h
    refine ⟨.agg ((l'.drop off).take tf.cells).toArray, ?_, .agg ((hl.drop off).take _)⟩
    rw [if_pos hag, Sem.run_bind, hE.size ht, Result.andThen_ok]
    have : l'.toArray.extract off (off + tf.cells) = ((l'.drop off).take tf.cells).toArray := by
      simp [List.extract_toArray]
    rw [this]; rfl
  · rename_i hag
    obtain ⟨w, h1, h2⟩ := hl.get off v h
    refine ⟨w, ?_, h2⟩
    rw [if_neg (by rw [hag]; decide)]
    simp [h1]
theorem field_run (hE : EnvOk P E) {t : TypeId} {x x' v : Value} {i : Nat} (hx : VR β x x') (h : (match (generalizing := false) E.tys.find t, x with
    | some ti, .agg ⟨l⟩ => match (generalizing := false) ti.desc with
      | .struct fs => match (generalizing := false) fs[i]? with
        | some f => partOf E f.type l f.offset
        | none => none
      | _ => none
    | _, _ => none) = some v) : ∃ v', (Instr.field t x' i).run P W = .ok v' W ∧ VR β v v' := by
  split at h
  case h_2 => cases h
  rename_i ti l ht
  cases hx with
  | agg hl =>
  split at h
  case h_2 => cases h
  rename_i fs hd
  split at h
  case h_2 => cases h
  rename_i f hf
  obtain ⟨w, h1, h2⟩ := part_run (W := W) hE hl h
  refine ⟨w, ?_, h2⟩
  rw [Instr.field, Sem.run_bind, hE.und ht, Result.andThen_ok, hd]
  simp only [hf]
  rw [Sem.run_bind]
  simp only [asAgg, Sem.run_pure, Result.andThen_ok]
  exact h1
theorem indexAt_run (hE : EnvOk P E) {t : TypeId} {x x' i i' v : Value} (hx : VR β x x') (hi : VR β i i') (h : (match (generalizing := false) E.tys.find t, natOf i with
    | some ti, some n => match (generalizing := false) ti.desc, x with
      | .slice e, .slice (some a) len _ => match (generalizing := false) E.tys.find e with
        | some te => match (generalizing := false) Nat.blt n len with
          | true => some (Value.pointer (some (a.add (n * te.cells))))
          | false => none
        | none => none
      | .array len e, .pointer (some a) => match (generalizing := false) E.tys.find e with
        | some te => match (generalizing := false) Nat.blt n len with
          | true => some (.pointer (some (a.add (n * te.cells))))
          | false => none
        | none => none
      | _, _ => none
    | _, _ => none) = some v) : ∃ v', (Instr.indexAt t x' i').run P W = .ok v' W ∧ VR β v v' := by
  split at h
  case h_2 => cases h
  rename_i ti n ht hn
  obtain ⟨k, rfl⟩ := natOf_rel hi hn
  split at h
  · rename_i e a len c hd
    split at h
    case h_2 => cases h
    rename_i te hte
    split at h
    case h_2 => cases h
    rename_i hlt
    cases h
    rw [blt_iff] at hlt
    cases hx with
    | @sl i0 b R o o' _ _ c' hb hs =>
    have ho : o' = o := by rcases hs with ⟨_, _, e⟩ | ⟨e, _⟩ | ⟨_, _, e, _⟩ <;> first | exact e | omega
    subst ho
    refine ⟨.pointer (some ⟨b, o' + n * te.cells, none⟩), ?_, by rw [add_mk]; exact .ptr _ hb⟩
    have hle : ¬ len ≤ n := by omega
    simp [Instr.indexAt, asIntOf, hE.und ht, hd, hle, hE.size hte, add_mk]
  · rename_i len e a hd
    split at h
    case h_2 => cases h
    rename_i te hte
    split at h
    case h_2 => cases h
    rename_i hlt
    cases h
    rw [blt_iff] at hlt
    cases hx with
    | @ptr i0 b R o hb =>
    refine ⟨.pointer (some ⟨b, o + n * te.cells, none⟩), ?_, by rw [add_mk]; exact .ptr _ hb⟩
    have hle : ¬ len ≤ n := by omega
    simp [Instr.indexAt, asIntOf, Instr.sureAddr, hE.und ht, hd, hle, hE.size hte, add_mk]
  · cases h
theorem index_run (hE : EnvOk P E) {t : TypeId} {x x' i i' v : Value} (hx : VR β x x') (hi : VR β i i') (h : (match (generalizing := false) E.tys.find t, natOf i with
    | some ti, some n => match (generalizing := false) ti.desc, x with
      | .string, .string b => match (generalizing := false) b.data.toList[n]? with
        | some c => some (Value.int .u8 c.toNat)
        | none => none
      | .array len e, .agg ⟨l⟩ => match (generalizing := false) E.tys.find e with
        | some te => match (generalizing := false) Nat.blt n len with
          | true => partOf E e l (n * te.cells)
          | false => none
        | none => none
      | _, _ => none
    | _, _ => none) = some v) : ∃ v', (Instr.index t x' i').run P W = .ok v' W ∧ VR β v v' := by
  split at h
  case h_2 => cases h
  rename_i ti n ht hn
  obtain ⟨k, rfl⟩ := natOf_rel hi hn
  split at h
  · rename_i b hd
    cases hx
    split at h
    case h_2 => cases h
    rename_i c hc
    cases h
    refine ⟨_, ?_, .int _ _⟩
    have h1 : b[n]? = some c := by
      have hlt : n < b.data.toList.length := (List.getElem?_eq_some_iff.1 hc).1
      have hlt' : n < b.size := by rw [size_data]; exact hlt
      rw [ByteArray.getElem?_lt' b n hlt']
      have := (List.getElem?_eq_some_iff.1 hc).2
      rw [← this]; rfl
    have h0 : (0 : Int) ≤ (n : Int) := by omega
    simp [Instr.index, asIntOf, hE.und ht, hd, h0, h1]
  · rename_i len e l hd
    split at h
    case h_2 => cases h
    rename_i te hte
    split at h
    case h_2 => cases h
    rename_i hlt
    rw [blt_iff] at hlt
    cases hx with
    | agg hl =>
    obtain ⟨w, h1, h2⟩ := part_run (W := W) hE hl h
    refine ⟨w, ?_, h2⟩
    have h0 : (0 : Int) ≤ (n : Int) ∧ (n : Int) < (len : Int) := by omega
    simp only [Instr.index, asIntOf, Sem.run_bind, Sem.run_pure, Result.andThen_ok, hE.und ht, hd, h0, and_self, if_true, hE.size hte, Int.toNat_natCast]
    exact h1
  · cases h
theorem extract_run {x x' v : Value} {i : Nat} (hx : VR β x x') (h : (match (generalizing := false) x with
    | .tuple ⟨l⟩ => l[i]?
    | _ => none) = some v) : ∃ v', (Instr.extract x' i).run P W = .ok v' W ∧ VR β v v' := by
  split at h
  case h_2 => cases h
  rename_i l
  cases hx with
  | tuple hl =>
  obtain ⟨w, h1, h2⟩ := hl.get i v h
  exact ⟨w, by simp [Instr.extract, h1], h2⟩
end
end Go.Proofs.YtpmehdggikjkfaaGreatDoor.Rf
