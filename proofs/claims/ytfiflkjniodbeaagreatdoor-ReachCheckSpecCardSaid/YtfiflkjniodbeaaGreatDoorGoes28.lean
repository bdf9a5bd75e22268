/-
  No function of the translation has a go statement: the row's cell 'goes'.
-/
import Derived.Test.YtfiflkjniodbeaaGreatDoorRows
import GoSem.ClaimGoes
import Derived.KernelRfl
namespace Go.Proofs.YtfiflkjniodbeaaGreatDoor.goes28
open Go
set_option maxRecDepth 100000
theorem no_goes : Tryz.prog.funcs.any Func.goes = false := by kernel_rfl
theorem none_goes (f : Nat) : Tryz.prog.goes f = false := by
  have h : ∀ g : Nat, (Tryz.prog.funcs[g]?).any Func.goes = false := by
    intro g
    cases hg : Tryz.prog.funcs[g]? with
    | none => rfl
    | some x =>
      have := Array.any_eq_false.1 no_goes
      obtain ⟨hlt, hx⟩ := Array.getElem?_eq_some_iff.1 hg
      have := this g hlt
      rw [hx] at this
      simpa using this
  unfold Program.goes
  simp only [h, no_goes, Bool.and_false, Bool.or_false, List.any_eq_false]
  simp
theorem goes_at (c : OpenClaim) (h : c.start = .entering) : false = c.goesBy Tryz.prog := by
  unfold OpenClaim.goesBy Program.goesAt Program.goesFrom
  rw [h]
  cases Tryz.prog.funcNamed c.func with
  | none => rfl
  | some f => simp [none_goes]
end Go.Proofs.YtfiflkjniodbeaaGreatDoor.goes28
