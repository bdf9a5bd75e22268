/-
  ReachCheckSpec (layer 28): for every race and every list of outcomes, valid or not, Check, Exact and Finals answer as the specification does, and the arguments are left as they were: the tied card.
-/
import Derived.Test.YtfiflkjniodbeaaGreatDoorRow28
import Derived.Test.YtfiflkjniodbeaaGreatDoorGoes28
import Derived.SevenTiedAt
namespace Go.Proofs.YtfiflkjniodbeaaGreatDoor
open Go
set_option maxRecDepth 100000
theorem reachCheckSpec_card : Rows.ReachCheckSpecCardSaid :=
  Claim7.holds_tied_plain_at .later [] [.data, .data, .data, .widerDeep] true (true, "dfa59dfd37c459f8ce856072ff6fb5f5aaf296b0c79e25e50ce51e8977896b3f") true
    reachCheck.over (fun _ h => by cases h) (by kernel_rfl) (fun _ h => by cases h) reachCheckSpec_row_tie rfl ⟨rfl, rfl⟩ (by kernel_rfl) rfl
    (fun f fn hf hfn => by
      obtain rfl : f = 3 := Option.some.inj ((show Tryz.prog.funcNamed "assize/assizelaw28.ReachCheckSpec" = some 3 by kernel_rfl).symm.trans hf) |>.symm
      obtain rfl : fn = Tryz.f3 := (Option.some.inj (Tryz.func3.symm.trans hfn)).symm
      exact ⟨by kernel_rfl, fun j t ht => by
        rw [Tryz.params3] at ht
        have hm : t ∈ [25, 22] := by simpa using Array.mem_of_getElem? ht
        have hall : ([25, 22].all fun u => !Tryz.prog.wantsStandIn u) = true := by kernel_rfl
        exact (show Tryz.prog.wantsStandIn t = false by simpa using List.all_eq_true.1 hall t hm)⟩)
    (goes28.goes_at _ rfl)
#print axioms reachCheckSpec_card
end Go.Proofs.YtfiflkjniodbeaaGreatDoor
