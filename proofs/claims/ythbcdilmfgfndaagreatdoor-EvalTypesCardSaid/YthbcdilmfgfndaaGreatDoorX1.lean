/-
  EVALTYPES: the symbols of source 1, by the kernel.
-/
import Derived.Test.YthbcdilmfgfndaaGreatDoorXa
namespace Go.Den.Types
open Go
set_option maxRecDepth 1000000
theorem scan1 : AnsOK Go.Proofs.Tryz.prog (scanA S1 T1) := ans_of (A := []) (fun _ h => by cases h) (n := 3000) (by kernel_rfl)
end Go.Den.Types

/-
  EVALTYPES: the tree of source 1, by the kernel; it runs as is told.
-/
namespace Go.Den.Types
open Go
set_option maxRecDepth 1000000
theorem comp1 : AnsOK Go.Proofs.Tryz.prog (compA S1 M1) := ans_of (A := [scanA S1 T1]) (fun a h => by
  obtain rfl := List.mem_singleton.1 h
  exact scan1) (n := 3000) (by kernel_rfl)
theorem told1 : AnsOK Go.Proofs.Tryz.prog (toldA S1 W1) := ans_of (A := [compA S1 M1]) (fun a h => by
  obtain rfl := List.mem_singleton.1 h
  exact comp1) (n := 3000) (by kernel_rfl)
end Go.Den.Types
