/- Operations that make a block. -/
import Derived.Test.YtpmehdggikjkfaaGreatDoorOpI
import Derived.Laws.AppendOwn
namespace Go.Proofs.YtpmehdggikjkfaaGreatDoor.Rf
open Go
section
variable {P : Program} {E : Env} {W W' : World} {β : Bt} {s : S} {tm : TM} {ρ : Operand → Value}
theorem mkRow_rel {l ws : List Value} (h : VRs β l ws) {ng i R : Nat} (g : Option Nat) {ty : TypeId} {fr : Nat × Nat} {x : Array Value} (hx : ∀ (k : Nat) v, ws[k]? = some v → x[k]? = some v) (hg : ∀ e, g = some e → x.size = R * e) (hf : fr = (0, 0) ∨ x.size ≤ fr.1) :
    objRel β ng i R (mkRow l g) (some (.cells x ty fr)) := by
  refine ⟨x, ty, fr, rfl, ?_, hg, fun _ => hf⟩
  intro k v hk
  rw [T.find_list] at hk
  obtain ⟨w, h1, h2⟩ := h.get k v hk
  exact ⟨w, hx k w h1, h2⟩
theorem mkRow_plain {l ws : List Value} (h : VRs β l ws) {ng i R : Nat} {ty : TypeId} : objRel β ng i R (mkRow l none) (some (.cells ws.toArray ty (0, 0))) :=
  mkRow_rel h none (fun k v hk => by simpa using hk) (fun e he => by cases he) (.inl rfl)
theorem rep_length (z : List Value) : ∀ n, (rep z n).length = n * z.length
  | 0 => by simp [rep]
  | n + 1 => by simp only [rep, List.length_append, rep_length z n]; rw [Nat.succ_mul]; omega
theorem rep_get (z : List Value) : ∀ (n k : Nat), k < n * z.length → (rep z n)[k]? = z[k % z.length]?
  | 0, k, h => by simp at h
  | n + 1, k, h => by
    simp only [rep]
    by_cases hk : k < z.length
    · rw [List.getElem?_append_left hk, Nat.mod_eq_of_lt hk]
    · rw [List.getElem?_append_right (by omega), rep_get z n (k - z.length) (by rw [Nat.succ_mul] at h; omega)]
      congr 1
      exact (Nat.mod_eq_sub_mod (by omega)).symm
theorem range_rep (z : Array Value) (n : Nat) : ((Array.range (n * z.size)).map (fun i => z[i % z.size]!)) = (rep z.toList n).toArray := by
  apply Array.ext'
  apply List.ext_getElem?
  intro k
  simp only [Array.toList_map, Array.toList_range, List.getElem?_map]
  by_cases hk : k < n * z.size
  · rw [List.getElem?_range hk]
    rw [rep_get z.toList n k (by simpa using hk)]
    have hz : 0 < z.size := by
      rcases Nat.eq_zero_or_pos z.size with h | h
      · rw [h] at hk; simp at hk
      · exact h
    have hlt : k % z.size < z.size := Nat.mod_lt _ hz
    simp [hlt]
  · rw [List.getElem?_eq_none (by simpa using Nat.le_of_not_lt hk), List.getElem?_eq_none (by rw [rep_length]; simpa using Nat.le_of_not_lt hk)]
    rfl
/- the zero cells of so many elements -/
theorem zero_cells {z0 : Value} {sz n : Nat} (hz : (asL z0).length = sz) : ((Array.range (n * sz)).map (fun i => z0.cells[i % z0.cells.size]!)) = (rep (asL z0) n).toArray := by
  have h1 : z0.cells.size = sz := by rw [cells_eq]; simpa using hz
  have := range_rep z0.cells n
  rw [cells_toList] at this
  rw [← this, h1]
def Made (β : Bt) (ng : Nat) (W : World) (m : MO) (av : AV) (R : Nat) (ob : Obj) (v' : Value) : Prop :=
  ∀ id, β id = none → objRel (upd β id (W.heap.size, R)) ng id R m (some ob) ∧ VR (upd β id (W.heap.size, R)) (av.at id) v'
theorem ptr_made {l ws : List Value} (h : VRs β l ws) {ng R : Nat} (ty : TypeId) : Made β ng W (mkRow l none) .ptr R (.cells ws.toArray ty (0, 0)) (.pointer (some ⟨W.heap.size, 0, none⟩)) := fun id hid =>
  ⟨mkRow_plain (h.mono (sub_upd _ hid)), .ptr 0 (upd_self _ _ _)⟩
theorem slice_made {l ws : List Value} (h : VRs β l ws) {ng R n c : Nat} (hc : c < lim) (ty : TypeId) : Made β ng W (mkRow l none) (.slice n c) R (.cells ws.toArray ty (0, 0)) (.slice (some ⟨W.heap.size, 0, none⟩) n c) := fun id hid =>
  ⟨mkRow_plain (h.mono (sub_upd _ hid)), .sl (upd_self _ _ _) (.inl ⟨hc, rfl, rfl⟩)⟩
theorem grow_made {l ws : List Value} (h : VRs β l ws) {ng R n e : Nat} {ty : TypeId} {fr : Nat × Nat} {x : Array Value} (hx : ∀ (k : Nat) v, ws[k]? = some v → x[k]? = some v) (hg : x.size = R * e) (hf : fr = (0, 0) ∨ x.size ≤ fr.1) (hn : n ≤ R) :
    Made β ng W (mkRow l (some e)) (.slice n big) R (.cells x ty fr) (.slice (some ⟨W.heap.size, 0, none⟩) n R) := fun id hid =>
  ⟨mkRow_rel (h.mono (sub_upd _ hid)) (some e) hx (fun e' he => by cases he; exact hg) hf, .sl (upd_self _ _ _) (.inr (.inl ⟨rfl, 0, by unfold lim; omega, rfl, by omega, rfl⟩))⟩
theorem alloc_run (hE : EnvOk P E) {o : Oper} {m : MO} {av : AV} (ha : ∀ x ∈ o.op.operands.toList, VR β (evalO tm x) (ρ x)) (h : evAlloc E o tm = some (m, av)) (W : World) :
    ∃ R ob v' W', (execOp ρ o).run P W = .ok (.value v') W' ∧ (W'.heap = W.heap.push ob ∧ SameIO W W') ∧ Made β E.ng W m av R ob v' := by
  obtain ⟨dst, op, type, pos, after, guard⟩ := o
  cases op with
  | alloc t =>
    simp only [evAlloc] at h
    split at h
    case h_2 => cases h
    rename_i ti ht
    split at h
    case h_2 => cases h
    rename_i z hz
    cases h
    obtain ⟨z0, hz0, hz1, hz2⟩ := zero_rel (β := β) hE ht hz
    refine ⟨0, _, _, { W with heap := W.heap.push (.cells z.toArray t) }, vrun (v := .pointer (some ⟨W.heap.size, 0, none⟩)) ?_, ⟨rfl, rfl, rfl⟩, ptr_made hz2 t⟩
    rw [Instr.alloc, Sem.run_bind, hE.zeroRun ht hz0, Result.andThen_ok]
    simp [newVar, newRow, cells_eq, hz1]
  | box t x =>
    cases h
    have hx := ha x (by simp [Op.operands])
    refine ⟨0, _, _, { W with heap := W.heap.push (.cells (asL (ρ x)).toArray t) }, vrun (v := .pointer (some ⟨W.heap.size, 0, none⟩)) ?_, ⟨rfl, rfl, rfl⟩, ptr_made hx.asL t⟩
    simp [Instr.box, newVar, newRow, cells_eq]
  | buildSlice t n ps =>
    simp only [evAlloc] at h
    split at h
    case h_2 => cases h
    rename_i ti ht
    split at h
    case h_2 => cases h
    rename_i e hd
    split at h
    case h_2 => cases h
    rename_i te hte
    split at h
    case h_2 => cases h
    rename_i z hz
    split at h
    case h_2 => cases h
    rename_i hc
    split at h
    case h_2 => cases h
    rename_i l hl
    cases h
    simp only [Bool.and_eq_true, beq_iff, ble_iff, blt_iff] at hc
    obtain ⟨z0, hz0, hz1, hz2⟩ := zero_rel (β := β) hE hte hz
    obtain ⟨q', q1, q2⟩ := partsA_run (place := fun i => some (i * te.cells, te.cells)) (fun i => rfl) ps.toList (fun x hx => ha x (by simpa [Op.operands] using hx)) (VRs.rep hz2 n) hl
    refine ⟨0, _, _, { W with heap := W.heap.push (.cells q'.toArray e) }, vrun (v := .slice (some ⟨W.heap.size, 0, none⟩) n n) ?_, ⟨rfl, rfl, rfl⟩, slice_made q2 hc.2.2 e⟩
    have hpl : (ps.map fun (i, x) => (i, ρ x)).toList = pairsOf ρ ps.toList := by simp [pairsOf]
    rw [Instr.buildSlice, Sem.run_bind, hE.und ht, Result.andThen_ok, hd]
    simp only []
    rw [Sem.run_bind, hE.size hte, Result.andThen_ok]
    have hno : ¬ (n * te.cells > 2 ^ 24) := by have := hc.2.1; omega
    rw [if_neg hno]
    by_cases h0 : n * te.cells = 0
    · rw [if_pos h0]
      have hr : (Array.range (n * te.cells)).map (fun x => (#[] : Array Value)[x % (#[] : Array Value).size]!) = (rep z n).toArray := by
        rw [h0]
        have : rep z n = [] := List.length_eq_zero_iff.1 (by rw [rep_length, hc.1]; exact h0)
        simp [this]
      simp only [pure_bind]
      rw [hr, hpl, q1]
      simp [newRow]
    · rw [if_neg h0, Sem.run_bind, hE.zeroRun hte hz0, Result.andThen_ok]
      have hr : (Array.range (n * te.cells)).map (fun x => z0.cells[x % z0.cells.size]!) = (rep z n).toArray := by
        rw [← hz1]; exact zero_cells (by rw [hz1]; exact hc.1)
      simp only [pure_bind]
      rw [hr, hpl, q1]
      simp [newRow]
  | makeSlice t l c =>
    have hl := ha l (by simp [Op.operands])
    have hcc := ha c (by simp [Op.operands])
    simp only [evAlloc] at h
    split at h
    case h_2 => cases h
    rename_i ti n m ht hn hm
    split at h
    case h_2 => cases h
    rename_i e hd
    split at h
    case h_2 => cases h
    rename_i te hte
    split at h
    case h_2 => cases h
    rename_i z hz
    split at h
    case h_2 => cases h
    rename_i hc
    cases h
    simp only [Bool.and_eq_true, beq_iff, ble_iff, blt_iff] at hc
    obtain ⟨hc1, hc2, hc3, hc4⟩ := hc
    obtain ⟨kn, hkn⟩ := natOf_rel hl hn
    obtain ⟨km, hkm⟩ := natOf_rel hcc hm
    obtain ⟨z0, hz0, hz1, hz2⟩ := zero_rel (β := β) hE hte hz
    obtain ⟨ie, hti, _, hib, _⟩ := hE.tinfo hte
    refine ⟨0, _, _, { W with heap := W.heap.push (.cells (rep z m).toArray e) }, vrun (v := .slice (some ⟨W.heap.size, 0, none⟩) n m) ?_, ⟨rfl, rfl, rfl⟩, slice_made (VRs.rep hz2 m) (by unfold lim; omega) e⟩
    have hwn : IntKind.i64.wrap (n : Int) = (n : Int) := by rw [IntKind.wrap_i64]; omega
    have hwm : IntKind.i64.wrap (m : Int) = (m : Int) := by rw [IntKind.wrap_i64]; omega
    rw [hkn, hkm]
    simp only [Instr.makeSlice, Sem.run_bind, hE.und ht, Result.andThen_ok, hd, asInt, asIntOf, Sem.run_pure, hti, hwn, hwm]
    have hb : (ie.bytes : Int) * (m : Int) ≤ 281474976710656 := by rw [hib, ← Int.natCast_mul]; exact Int.ofNat_le.2 hc3
    have e48 : (2 : Int) ^ 48 = 281474976710656 := by decide
    rw [e48, decide_eq_false (p := (m : Int) < 0) (by omega), decide_eq_false (p := (ie.bytes : Int) * (m : Int) > 281474976710656) (by omega), decide_eq_false (p := (n : Int) < 0) (by omega), decide_eq_false (p := (n : Int) > (m : Int)) (by omega)]
    simp only [Bool.or_self, Bool.false_eq_true, if_false, Sem.run_bind, run_askRoom, Result.andThen_ok, hE.size hte, Int.toNat_natCast]
    by_cases h0 : m * te.cells = 0
    · rw [if_pos h0]
      have hr : (Array.range (m * te.cells)).map (fun x => (#[] : Array Value)[x % (#[] : Array Value).size]!) = (rep z m).toArray := by
        rw [h0]
        have : rep z m = [] := List.length_eq_zero_iff.1 (by rw [rep_length, hc1]; exact h0)
        simp [this]
      simp only [pure_bind]
      rw [hr]
      simp [newRow]
    · rw [if_neg h0, Sem.run_bind, hE.zeroRun hte hz0, Result.andThen_ok]
      have hr : (Array.range (m * te.cells)).map (fun x => z0.cells[x % z0.cells.size]!) = (rep z m).toArray := by
        rw [← hz1]; exact zero_cells (by rw [hz1]; exact hc1)
      simp only [pure_bind]
      rw [hr]
      simp [newRow]
  | makeMap t r =>
    cases r with
    | some x => cases h
    | none =>
      cases h
      refine ⟨0, .map #[] 0, .map (some W.heap.size), { W with heap := W.heap.push (.map #[] 0) }, vrun ?_, ⟨rfl, rfl, rfl⟩, fun id hid => ⟨⟨#[], 0, rfl, rfl, .nil, fun x hx => by (cases hx), .nil⟩, .map (upd_self _ _ _)⟩⟩
      simp [Instr.makeMap]
  | convert src dst x =>
    have hx := ha x (by simp [Op.operands])
    simp only [evAlloc] at h
    split at h
    case h_2 => cases h
    rename_i ts ti hts hti
    split at h
    case h_2 => cases h
    rename_i e b hsd hd hex
    rw [hex] at hx
    split at h
    case h_2 => cases h
    rename_i te hte
    split at h
    case h_2 => cases h
    rename_i hed
    cases h
    obtain ⟨_, _, hus, _⟩ := hE.info hts
    obtain ⟨_, _, hud, _⟩ := hE.info hti
    obtain ⟨_, _, hue, _⟩ := hE.info hte
    rw [hd] at hud
    rw [hsd] at hus
    rw [hed] at hue
    have hq : ρ x = .string b := by generalize ρ x = q at hx; cases hx; rfl
    have hrun := run_bytes_of_string W src dst e b hus hud hue
    rw [← hq] at hrun
    refine ⟨grownCap W b.size 0 e, _, _, _, vrun hrun, ⟨rfl, rfl, rfl⟩, ?_⟩
    have hge := grownCap_ge W b.size 0 e
    have hsz : (bytesRow b (grownCap W b.size 0 e)).size = grownCap W b.size 0 e := by
      simp only [bytesRow, Array.size_append, Array.size_map, Array.size_replicate]
      show b.size + _ = _
      omega
    rw [size_data] at hge ⊢
    refine grow_made (ws := bytesL b.data.toList) ?_ ?_ ?_ (.inr (by simp)) hge
    · rw [bytesL_eq]; exact VRs.plain (by rw [List.all_eq_true]; intro v hv; obtain ⟨c, _, rfl⟩ := List.mem_map.1 hv; rfl)
    · intro k v hk
      have hlt : k < b.data.toList.length := by
        have := (List.getElem?_eq_some_iff.1 hk).1
        rw [bytesL_eq] at this; simpa using this
      have hlt' : k < b.data.size := by simpa using hlt
      rw [bytesRow_at b _ k hlt']
      rw [bytesL_eq, List.getElem?_map, List.getElem?_eq_getElem hlt] at hk
      rw [← hk]; rfl
    · rw [size_data] at hsz; rw [hsz]; omega
  | _ => cases h
end
end Go.Proofs.YtpmehdggikjkfaaGreatDoor.Rf
