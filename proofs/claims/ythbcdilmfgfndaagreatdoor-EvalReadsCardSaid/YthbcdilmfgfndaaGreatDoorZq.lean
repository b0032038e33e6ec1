/-
  EVALREADS: the symbols of the source, by the kernel.
-/
import Derived.Test.YthbcdilmfgfndaaGreatDoorZp
set_option linter.unusedSimpArgs false
set_option linter.unusedVariables false
namespace Go.Den.Reads
open Go
set_option maxRecDepth 1000000
theorem scan : AnsOK Go.Proofs.Tryz.prog scanA := ans_of (A := []) (fun _ h => by cases h) (n := 3000) (by kernel_rfl)
end Go.Den.Reads
