/- The program's functions and types are as the evaluator wants them: what is to be asked of each. -/
import Derived.Test.YtpmehdggikjkfaaGreatDoorEnv
namespace Go.Proofs.YtpmehdggikjkfaaGreatDoor.Rf
open Go
noncomputable def fnOk (E : Env) (fn : Func) : Bool := !(fn.name == "runtime.NumGoroutine") && (match fn.body with | some c => codeOk E fn.ntmps c | none => true)
noncomputable def fnsOk (E : Env) : List Func → Bool
  | [] => true
  | fn :: r => fnOk E fn && fnsOk E r
theorem fnsOk_mem {E : Env} : ∀ {l : List Func}, fnsOk E l = true → ∀ fn ∈ l, fnOk E fn = true
  | [], _, fn, h => by cases h
  | x :: r, hh, fn, h => by
    simp only [fnsOk, Bool.and_eq_true] at hh
    rcases List.mem_cons.1 h with e | e
    · rw [e]; exact hh.1
    · exact fnsOk_mem hh.2 fn e
end Go.Proofs.YtpmehdggikjkfaaGreatDoor.Rf
