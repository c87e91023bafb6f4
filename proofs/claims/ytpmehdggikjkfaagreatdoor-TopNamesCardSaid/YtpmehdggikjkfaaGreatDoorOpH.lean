/- Operations that change nothing: maps' lookups, lengths; and all of them together. -/
import Derived.Test.YtpmehdggikjkfaaGreatDoorOpG
namespace Go.Proofs.YtpmehdggikjkfaaGreatDoor.Rf
open Go
section
variable {P : Program} {E : Env} {W : World} {β : Bt} {s : S} {tm : TM} {ρ : Operand → Value}
def keyHit (key : ByteArray) (x : Value) : Bool := match x with | .string q => u8Eq q.data.toList key.data.toList | _ => true
theorem ba_ext {a b : ByteArray} (h : a.data.toList = b.data.toList) : a = b := by
  cases a with | mk a => cases b with | mk b => cases a; cases b; simp at h; subst h; rfl
theorem findNow_none {key : ByteArray} : ∀ (es : List MapEntry) (i : Nat), (es.map (·.key)).any (keyHit key) = false → Instr.findNow .string (.string key) es i = some none
  | [], _, _ => rfl
  | e :: es, i, h => by
    simp only [List.map_cons, List.any_cons, Bool.or_eq_false_iff] at h
    obtain ⟨h1, h2⟩ := h
    simp only [Instr.findNow]
    cases hk : e.key with
    | string q =>
      rw [hk] at h1
      have hne : (key == q) = false := by
        rw [beq_toListBytes, ByteArray.toList_eq, ByteArray.toList_eq, beq_eq_false_iff_ne]
        intro e0
        simp only [keyHit] at h1
        rw [(u8Eq_iff _ _).2 e0.symm] at h1; cases h1
      simp only [Instr.sameNow, hne]
      exact findNow_none es (i + 1) h2
    | _ => rw [hk] at h1; cases h1
theorem checkKey_run {k : TypeId} (hu : P.underlying k = some .string) (empty : Bool) (key : ByteArray) : (Instr.checkKey empty 10000 k (.string key)).run P W = .ok () W := by
  show (Instr.checkKey empty (9999 + 1) k (.string key)).run P W = .ok () W
  generalize 9999 = d
  rw [Instr.checkKey, Sem.run_bind, run_underlying hu, Result.andThen_ok]
  rfl
theorem getObj_run {b : Nat} {es : Array MapEntry} {ck : Nat} (h : W.heap[b]? = some (.map es ck)) : (getObj b).run P W = .ok (.map es ck) W := by
  simp [getObj, Sem.run, h]
theorem findKey_none {k : TypeId} (hu : P.underlying k = some .string) {key : ByteArray} {es : Array MapEntry} (h : (es.toList.map (·.key)).any (keyHit key) = false) :
    (Instr.findKey k (.string key) es.toList).run P W = .ok none W := by
  rw [Instr.findKey, Sem.run_bind, run_underlying hu, Result.andThen_ok, findNow_none es.toList 0 h]
  rfl
theorem lookup_run (hE : EnvOk P E) (hw : WR E.ng β s W) {t : TypeId} {x x' k k' v : Value} {ok : Bool} (hx : VR β x x') (hk : VR β k k') (h : (match (generalizing := false) E.tys.find t, x, k with
    | some ti, .map (some m), .string key => match (generalizing := false) s.h.find m with
      | some (.map ks) => match (generalizing := false) ti.desc with
        | .map kt e => match (generalizing := false) E.tys.find kt, E.tys.find e, ok with
          | some tk, some te, true => match (generalizing := false) tk.desc with
            | .string => match (generalizing := false) ks.any (fun x => match (generalizing := false) x.1 with | .string q => u8Eq q.data.toList key.data.toList | _ => true) with
              | true => none
              | false => match (generalizing := false) te.zero with
                | some z => some (Value.tuple #[z, .bool false])
                | none => none
            | _ => none
          | _, _, _ => none
        | _ => none
      | _ => none
    | _, _, _ => none) = some v) : ∃ v', (Instr.lookup t x' k' ok).run P W = .ok v' W ∧ VR β v v' := by
  split at h
  case h_2 => cases h
  rename_i ti m key hti
  cases hx with
  | @map i0 b R hb =>
  cases hk
  split at h
  case h_2 => cases h
  rename_i ks hf
  obtain ⟨es, ck, hes, hks, _⟩ := hw.rel m _ b R hf hb
  split at h
  case h_2 => cases h
  rename_i kt e hd
  split at h
  case h_2 => cases h
  rename_i tk te htk hte
  split at h
  case h_2 => cases h
  rename_i hkd
  split at h
  case h_1 => cases h
  rename_i hany
  split at h
  case h_2 => cases h
  rename_i z hz
  cases h
  obtain ⟨_, _, huk, _⟩ := hE.info htk
  rw [hkd] at huk
  have hany' : (es.toList.map (·.key)).any (keyHit key) = false := by rw [← hks, List.any_map]; exact hany
  refine ⟨.tuple #[z, .bool false], ?_, .tuple (.cons (VR.plain (hE.zero e te z hte hz)) (.cons (.bool _) .nil))⟩
  simp only [Instr.lookup, Sem.run_bind, hE.und hti, Result.andThen_ok, hd, getObj_run hes, Sem.run_pure, checkKey_run huk, findKey_none huk hany', hE.zeroRun hte hz, if_true]
theorem len_run (hE : EnvOk P E) (hw : WR E.ng β s W) {t : TypeId} {rest : List TypeId} {ty : TypeId} {x x' v : Value} (hx : VR β x x') (h : (match (generalizing := false) E.tys.find t with
      | some ti => match (generalizing := false) ti.desc, x with
        | .string, .string b => some (Value.int .i64 (b.data.toList.length : Int))
        | .array n _, _ => some (.int .i64 (n : Int))
        | .slice _, .slice _ n _ => some (.int .i64 (n : Int))
        | .map _ _, .map none => some (.int .i64 0)
        | .map _ _, .map (some m) => match (generalizing := false) s.h.find m with
          | some (.map ks) => some (.int .i64 (ks.length : Int))
          | _ => none
        | .pointer p, _ => match (generalizing := false) E.tys.find p with
          | some tp => match (generalizing := false) tp.desc with
            | .array n _ => some (.int .i64 (n : Int))
            | _ => none
          | none => none
        | _, _ => none
      | none => none) = some v) : (Builtin.len_ (t :: rest).toArray ty #[x']).run P W = .ok v W ∧ VR β v v := by
  split at h
  case h_2 => cases h
  rename_i ti hti
  have hlen : ∀ u : Value, (match (ti.desc, x') with | q => True) → True := fun _ _ => trivial
  have ht0 : (t :: rest).toArray[0]? = some t := by simp
  split at h
  · rename_i b hd; cases hx; cases h
    exact ⟨by simp [Builtin.len_, hE.und hti, hd, goInt, ← size_data], .int _ _⟩
  · rename_i n e hd; cases h
    exact ⟨by simp [Builtin.len_, hE.und hti, hd, goInt], .int _ _⟩
  · rename_i e a n c hd
    cases h
    refine ⟨?_, .int _ _⟩
    cases hx <;> simp [Builtin.len_, hE.und hti, hd, goInt]
  · rename_i hd; cases hx; cases h
    exact ⟨by simp [Builtin.len_, hE.und hti, hd, goInt], .int _ _⟩
  · rename_i k e m hd
    cases hx with
    | @map i0 b R hb =>
    split at h
    case h_2 => cases h
    rename_i ks hf
    cases h
    obtain ⟨es, ck, hes, hks, _⟩ := hw.rel m _ b R hf hb
    have hlen : ks.length = es.size := by simpa using congrArg List.length hks
    refine ⟨?_, .int _ _⟩
    simp [Builtin.len_, hE.und hti, hd, goInt, getObj_run hes, hlen]
  · rename_i p hd
    split at h
    case h_2 => cases h
    rename_i tp htp
    split at h
    case h_2 => cases h
    rename_i n e hpd
    cases h
    refine ⟨?_, .int _ _⟩
    simp [Builtin.len_, hE.und hti, hd, goInt, hE.und htp, hpd]
  · cases h
theorem cap_run (hE : EnvOk P E) {t : TypeId} {rest : List TypeId} {ty : TypeId} {x x' v : Value} (hx : VR β x x') (h : (match (generalizing := false) E.tys.find t with
      | some ti => match (generalizing := false) ti.desc, x with
        | .slice _, .slice _ _ n => match (generalizing := false) Nat.blt n lim with
          | true => some (Value.int .i64 (n : Int))
          | false => none
        | _, _ => none
      | none => none) = some v) : (Builtin.cap_ (t :: rest).toArray ty #[x']).run P W = .ok v W ∧ VR β v v := by
  split at h
  case h_2 => cases h
  rename_i ti hti
  split at h
  case h_2 => cases h
  rename_i e a n c hd
  split at h
  case h_2 => cases h
  rename_i hlt
  cases h
  rw [blt_iff] at hlt
  refine ⟨?_, .int _ _⟩
  cases hx with
  | snil n c hc => simp [Builtin.cap_, hE.und hti, hd, goInt]
  | sl hb hs =>
    have : ∀ (a : Addr) c', c' = c → (Builtin.cap_ (t :: rest).toArray ty #[.slice (some a) n c']).run P W = .ok (.int .i64 (c : Int)) W := fun a c' e => by
      subst e; simp [Builtin.cap_, hE.und hti, hd, goInt]
    apply this
    rcases hs with ⟨_, e, _⟩ | ⟨_, l, h1, h2, _⟩ | ⟨h1, _⟩
    · exact e
    · unfold lim big at *; omega
    · omega
theorem min_run {ts : Array TypeId} {ty : TypeId} {x x' y y' v : Value} (hx : VR β x x') (hy : VR β y y') (h : (match (generalizing := false) x, y with
      | .int k a, .int _ b => some (Value.int k (match (generalizing := false) ile a b with | true => a | false => b))
      | _, _ => none) = some v) : (Builtin.min_ ts ty #[x', y']).run P W = .ok v W ∧ VR β v v := by
  split at h
  case h_2 => cases h
  rename_i k a k' b
  cases hx; cases hy; cases h
  refine ⟨?_, .int _ _⟩
  rw [ile_eq]
  by_cases hab : a ≤ b
  · have : ¬ b < a := by omega
    simp [Builtin.min_, Builtin.min2, hab, this]
  · have : b < a := by omega
    simp [Builtin.min_, Builtin.min2, hab, this]
theorem max_run {ts : Array TypeId} {ty : TypeId} {x x' y y' v : Value} (hx : VR β x x') (hy : VR β y y') (h : (match (generalizing := false) x, y with
      | .int k a, .int _ b => some (Value.int k (match (generalizing := false) ile b a with | true => a | false => b))
      | _, _ => none) = some v) : (Builtin.max_ ts ty #[x', y']).run P W = .ok v W ∧ VR β v v := by
  split at h
  case h_2 => cases h
  rename_i k a k' b
  cases hx; cases hy; cases h
  refine ⟨?_, .int _ _⟩
  rw [ile_eq]
  by_cases hab : b ≤ a
  · have : ¬ a < b := by omega
    simp [Builtin.max_, Builtin.max2, hab, this]
  · have : a < b := by omega
    simp [Builtin.max_, Builtin.max2, hab, this]
end
end Go.Proofs.YtpmehdggikjkfaaGreatDoor.Rf
