/-
  EVALREADS: the tree of the source, by the kernel.
-/
import Derived.Test.YthbcdilmfgfndaaGreatDoorZq
set_option linter.unusedSimpArgs false
set_option linter.unusedVariables false
namespace Go.Den.Reads
open Go
set_option maxRecDepth 1000000
theorem comp : AnsOK Go.Proofs.Tryz.prog compA := ans_of (A := [scanA]) (fun a h => by
  obtain rfl := List.mem_singleton.1 h
  exact scan) (n := 3000) (by kernel_rfl)
end Go.Den.Reads
