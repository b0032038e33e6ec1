/-
  EVALTYPES: the symbols of source 2, by the kernel.
-/
import Derived.Test.YthbcdilmfgfndaaGreatDoorXa
namespace Go.Den.Types
open Go
set_option maxRecDepth 1000000
theorem scan2 : AnsOK Go.Proofs.Tryz.prog (scanA S2 T2) := ans_of (A := []) (fun _ h => by cases h) (n := 3000) (by kernel_rfl)
end Go.Den.Types

/-
  EVALTYPES: the tree of source 2, by the kernel; it runs as is told.
-/
namespace Go.Den.Types
open Go
set_option maxRecDepth 1000000
theorem comp2 : AnsOK Go.Proofs.Tryz.prog (compA S2 M2) := ans_of (A := [scanA S2 T2]) (fun a h => by
  obtain rfl := List.mem_singleton.1 h
  exact scan2) (n := 3000) (by kernel_rfl)
theorem told2 : AnsOK Go.Proofs.Tryz.prog (toldA S2 W2) := ans_of (A := [compA S2 M2]) (fun a h => by
  obtain rfl := List.mem_singleton.1 h
  exact comp2) (n := 3000) (by kernel_rfl)
end Go.Den.Types
