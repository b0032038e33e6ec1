/-
  LAWS: known() answers true, by the kernel.
-/
import Derived.Test.YthbcdilmfgfndaaGreatDoorZf
set_option linter.unusedSimpArgs false
set_option linter.unusedVariables false
namespace Go.Den.Kn
open Go
def knownA : Ans := ⟨13, [], .bool true⟩
set_option maxRecDepth 1000000
theorem known : AnsOK Go.Proofs.Tryz.prog knownA := ans_of (A := []) (fun _ h => by cases h) (n := 3000) (by kernel_rfl)
end Go.Den.Kn
