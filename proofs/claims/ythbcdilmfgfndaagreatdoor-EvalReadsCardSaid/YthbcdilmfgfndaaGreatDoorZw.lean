/-
  EVALREADS: for every slice of bytes the law returns true, and its argument reads as it did (the tied card). No condition but the row's own: the listed package-level variables start as the program's text lays them.
-/
import Derived.Test.YthbcdilmfgfndaaGreatDoorCards
import Derived.Test.YthbcdilmfgfndaaGreatDoorTie
import Derived.WalkKit
import Derived.ProofKit
import Derived.OpenShut
import Derived.Carry
import Derived.Deep.Slices
import Derived.Deep.DeepHandedRow
import Derived.Lay
import Derived.Test.YthbcdilmfgfndaaGreatDoorZv
set_option linter.unusedSimpArgs false
set_option linter.unusedVariables false
namespace Go.Proofs.YthbcdilmfgfndaaGreatDoor.evalReads
open Go.ChangeShapes Go.WideShapes Go.ChangeAt Go.RowKit
set_option maxRecDepth 1000000
theorem fact2 : mapsRowed Tryz.prog = true := by kernel_rfl
theorem fact3 : (Rows.evalReadsRow.inPlace == Tryz.prog.inPlace 6) = true := by kernel_rfl
theorem fact4 : (Rows.evalReadsRow.unfollowed == Tryz.prog.unfollowed 6) = true := by kernel_rfl
theorem fact5 : (Rows.evalReadsRow.recurses == Tryz.prog.recurses 6) = true := by kernel_rfl
theorem fact6 : (Rows.evalReadsRow.named == Tryz.prog.varsNamed 6) = true := by kernel_rfl
theorem fact7 : Tryz.prog.mayEnter = true := by kernel_rfl
theorem fact8 : (Rows.evalReadsRow.lifted == Tryz.prog.liftsFinal) = true := by kernel_rfl
theorem fact9 : (Tryz.prog.make == some Rows.evalReadsRow.make) = true := by kernel_rfl
theorem facts : joinedFacts Tryz.prog 6 Tryz.f6 (OpenSpec.ofChange Rows.evalReadsSpec).bare Rows.evalReadsRow = true := by
  unfold joinedFacts
  simp only [Bool.and_eq_true]
  with_reducible repeat' apply And.intro
  all_goals first
    | with_reducible exact fact1 | with_reducible exact fact2 | with_reducible exact fact3 | with_reducible exact fact4 | with_reducible exact fact5 | with_reducible exact fact6 | with_reducible exact fact7 | with_reducible exact fact8 | with_reducible exact fact9 | kernel_rfl
theorem own : ownKnob Tryz.prog.godebug = none := by kernel_rfl
noncomputable def lw (os : Os) : World := World.laidAll Tryz.prog os Rows.evalReadsRow.laid
theorem laid_met (os : Os) : laidMet Tryz.prog Rows.evalReadsRow.laid ((lw os).forCall (fun _ _ => 0) ⟨#[], #[.slice none 0 0], []⟩).memory :=
  laidMet_laidAll #[.slice none 0 0] (by kernel_rfl) (by kernel_rfl)
theorem reads (os : Os) {H : Type} (enc : TypeId × Value → H) : ∃ places, DataW.whole enc Tryz.prog ((lw os).forCall (fun _ _ => 0) ⟨#[], #[.slice none 0 0], []⟩).memory Tryz.f6.params.toList Rows.evalReadsSpec.vars false #[Value.slice none 0 0].toList 8 = some ([.nil], [], places) :=
  ⟨[], by kernel_rfl⟩
set_option maxRecDepth 100000 in
theorem lifted (os : Os) (started : os.Started) (H : Type) (enc : TypeId × Value → H) (F : Stop.Interp) :
    ReturnsInHanded {} Tryz.checked os 6 .any ((OpenSpec.ofChange Rows.evalReadsSpec).preRow enc Tryz.prog Tryz.f6 Rows.evalReadsRow.domain false Rows.evalReadsRow.laid) (((OpenSpec.ofChange Rows.evalReadsSpec).at F).post enc Tryz.prog Tryz.f6 false true false false) := by
  obtain ⟨places, hx⟩ := reads os enc
  refine returnsInHanded_of_row (C := Tryz.checked) (s := OpenSpec.ofChange Rows.evalReadsSpec) own started (by kernel_rfl) Tryz.func6
    (witness_row_at (enc := enc) (C := Tryz.checked) false (lw os) #[.slice none 0 0] (World.laidAll_os _ _ _) (by kernel_rfl) (by kernel_rfl) (by kernel_rfl)
      (OpenSpec.preRow_of_cond 8 hx (by kernel_rfl) (fun k hk => by cases hk) (by kernel_rfl) (laid_met os))) ?_
  intro W base args ds gs before hval hW _ _ _ hL _ _
  exact contract H enc W base args ds gs before hval hW (tab_of_laid hL)
theorem said : Rows.EvalReadsSaid :=
  OpenClaim.holds_of_cond 6 Tryz.f6 rfl rfl rfl rfl rfl rfl rfl ⟨rfl, rfl, rfl, rfl, rfl⟩ rfl rfl rfl rfl rfl (by kernel_rfl) Tryz.func6 facts
    (of_decide_eq_true (by kernel_rfl)) (by unfold Func.isWrapper; first | (rw [if_pos (by decide +kernel)]; kernel_rfl) | (rw [if_neg (by decide +kernel)]; exact ⟨rfl, rfl⟩))
    (fun os started H enc _ F => by rw [OpenClaim.pre_eq_preRow]; exact lifted os started H enc F)
theorem plain (f : FuncId) (fn : Func) (hf : Tryz.pinned.checked.prog.funcNamed "wafer/waferlaw23.EvalReads" = some f) (hfn : Tryz.pinned.checked.prog.funcs[f]? = some fn) :
    true = Tryz.pinned.checked.prog.looks [] ∧ ∀ (j : Nat) t, fn.params[j]? = some t → Tryz.pinned.checked.prog.wantsStandIn t = false := by
  obtain rfl : f = 6 := Option.some.inj ((show Tryz.prog.funcNamed "wafer/waferlaw23.EvalReads" = some 6 by kernel_rfl).symm.trans hf) |>.symm
  obtain rfl : fn = Tryz.f6 := (Option.some.inj (Tryz.func6.symm.trans hfn)).symm
  refine ⟨by kernel_rfl, fun j t ht => ?_⟩
  rw [Tryz.params6] at ht
  obtain rfl : t = 23 := by simpa using Array.mem_of_getElem? ht
  exact (show Tryz.prog.wantsStandIn 23 = false by kernel_rfl)
theorem card : Rows.EvalReadsCardSaid :=
  Claim7.holds_tied_plain_at .later [] _ _ _ _ said (fun _ h => by cases h) (by kernel_rfl) (fun _ h => by cases h) evalReads_row_tie rfl ⟨rfl, rfl⟩ (by kernel_rfl) rfl plain (by kernel_rfl)
#print axioms card
end Go.Proofs.YthbcdilmfgfndaaGreatDoor.evalReads
