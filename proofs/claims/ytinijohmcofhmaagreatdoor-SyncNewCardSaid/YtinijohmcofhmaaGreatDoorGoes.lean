/- No function of the program starts another goroutine: what the card asks of the road. -/
import Derived.Test.YtinijohmcofhmaaGreatDoorRows
import GoSem.ClaimGoes
import Derived.KernelRfl
namespace Go.Proofs.YtinijohmcofhmaaGreatDoor.sy
open Go
set_option maxRecDepth 100000
/-- No function of the program starts another goroutine. -/
theorem noGoes : (Tryz.prog.funcs.toList.all fun fn => !fn.goes) = true := by kernel_rfl
theorem goes_of {P : Program} (h : (P.funcs.toList.all fun fn => !fn.goes) = true) (c : OpenClaim) (hs : c.start = .entering) : false = c.goesBy P := by
  have h1 : ∀ fn ∈ P.funcs.toList, fn.goes = false := fun fn hf => by simpa using List.all_eq_true.1 h fn hf
  have h2 : ∀ g : Nat, (P.funcs[g]?).any Func.goes = false := fun g => by
    cases e : P.funcs[g]? with
    | none => rfl
    | some fn => exact h1 fn (by simpa using Array.mem_of_getElem? e)
  have h3 : P.funcs.any Func.goes = false := by
    rw [Array.any_eq_false]
    intro i hi
    simpa using h1 P.funcs[i] (by simp)
  unfold OpenClaim.goesBy Program.goesAt Program.goesFrom
  rw [hs]
  simp only [Bool.or_false]
  have h4 : ∀ f, P.goes f = false := fun f => by
    unfold Program.goes
    rw [h3, Bool.and_false, Bool.or_false, List.any_eq_false]
    intro g _
    simp [h2 g]
  cases P.funcNamed c.func with
  | none => rfl
  | some f => simp [h4]
theorem goes : false = Rows.syncNewRow.goesBy Tryz.prog := goes_of noGoes _ rfl
end Go.Proofs.YtinijohmcofhmaaGreatDoor.sy
