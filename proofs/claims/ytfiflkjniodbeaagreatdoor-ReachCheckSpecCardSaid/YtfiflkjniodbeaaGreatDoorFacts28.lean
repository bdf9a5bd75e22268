/-
  The closed facts of the row of ReachCheckSpec, each by itself (together they pass the kernel's memory).
-/
import Derived.Test.YtfiflkjniodbeaaGreatDoorRows
import Derived.JoinedOf
import Derived.KernelRfl
namespace Go.Proofs.YtfiflkjniodbeaaGreatDoor.facts28
open Go
set_option maxRecDepth 100000
theorem and2 {a b : Bool} (h : a = true) (k : b = true) : (a && b) = true := by rw [h, k]; rfl
theorem g10 : (Rows.reachCheckSpecRow.inPlace == Tryz.prog.inPlace 3) = true := by kernel_rfl
theorem g11 : (Rows.reachCheckSpecRow.unfollowed == Tryz.prog.unfollowed 3) = true := by kernel_rfl
theorem g12 : (Rows.reachCheckSpecRow.recurses == Tryz.prog.recurses 3) = true := by kernel_rfl
theorem g13 : (Rows.reachCheckSpecRow.named == Tryz.prog.varsNamed 3) = true := by kernel_rfl
theorem closed : joinedFacts Tryz.prog 3 Tryz.f3 Rows.reachCheckSpecSpec Rows.reachCheckSpecRow = true := by
  unfold joinedFacts
  exact and2 (and2 (and2 (and2 (and2 (and2 (and2 (and2 (and2 (and2 (and2 (and2 (and2 (and2 (and2 (and2 (and2 (and2 (and2 (and2 (and2 (and2 (and2 (and2 (and2 (and2 (and2 (and2 (and2 (and2 (and2
    (by kernel_rfl) (by kernel_rfl)) (by kernel_rfl)) (by kernel_rfl)) (by kernel_rfl)) (by kernel_rfl)) (by kernel_rfl)) (by kernel_rfl)) (by kernel_rfl))
    g10) g11) g12) g13)
    (by kernel_rfl)) (by kernel_rfl)) (by kernel_rfl)) (by kernel_rfl)) (by kernel_rfl)) (by kernel_rfl)) (by kernel_rfl)) (by kernel_rfl)) (by kernel_rfl)) (by kernel_rfl)) (by kernel_rfl)) (by kernel_rfl)) (by kernel_rfl)) (by kernel_rfl)) (by kernel_rfl)) (by kernel_rfl)) (by kernel_rfl)) (by kernel_rfl)) (by kernel_rfl)
end Go.Proofs.YtfiflkjniodbeaaGreatDoor.facts28
