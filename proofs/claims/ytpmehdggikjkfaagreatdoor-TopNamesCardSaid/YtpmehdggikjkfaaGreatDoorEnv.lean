/- The program, as the evaluator takes it. -/
import Derived.Test.YtpmehdggikjkfaaGreatDoorFastB
import Derived.Test.YtpmehdggikjkfaaGreatDoorProg
import Derived.KernelRfl
namespace Go.Proofs.YtpmehdggikjkfaaGreatDoor.Rf
open Go
noncomputable def tyOk (P : Program) (t : Nat) : Bool := match tyOf P t with
  | some ti => match ti.zero with
    | some z => plainV z && Nat.beq (asL z).length ti.cells
    | none => true
  | none => true
noncomputable def goodTys (P : Program) : List Nat → List Nat
  | [] => []
  | t :: r => match tyOk P t with
    | true => t :: goodTys P r
    | false => goodTys P r
noncomputable def envG (P : Program) : Env := ⟨tysOf P (goodTys P (List.range P.types.size)) .nil, (T.ofList P.funcs.toList 0 .nil).ins 206 none, 6⟩
theorem envG_fns (P : Program) : (envG P).fns = (T.ofList P.funcs.toList 0 .nil).ins 206 none := rfl
theorem envG_tys (P : Program) : (envG P).tys = tysOf P (goodTys P (List.range P.types.size)) .nil := rfl
theorem envG_ng (P : Program) : (envG P).ng = 6 := rfl
noncomputable def E0 : Env := envG Tryz.prog
noncomputable def G0 : GG := pruneG 175 (joinG 154 fun _ _ _ => none)
/- The program's functions and types are as the evaluator wants them: what is to be asked of each. -/
noncomputable def fnOk (E : Env) (fn : Func) : Bool := !(fn.name == "runtime.NumGoroutine") && (match fn.body with | some c => codeOk E fn.ntmps c | none => true)
noncomputable def fnsOk (E : Env) : List Func → Bool
  | [] => true
  | fn :: r => fnOk E fn && fnsOk E r
theorem fnsOk_mem {E : Env} : ∀ {l : List Func}, fnsOk E l = true → ∀ fn ∈ l, fnOk E fn = true
  | [], _, fn, h => by cases h
  | x :: r, hh, fn, h => by
    simp only [fnsOk, Bool.and_eq_true] at hh
    rcases List.mem_cons.1 h with e | e
    · rw [e]; exact hh.1
    · exact fnsOk_mem hh.2 fn e
end Go.Proofs.YtpmehdggikjkfaaGreatDoor.Rf
