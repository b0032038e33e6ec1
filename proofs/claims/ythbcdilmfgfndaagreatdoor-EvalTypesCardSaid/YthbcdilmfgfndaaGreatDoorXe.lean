/-
  EVALTYPES: for every k the law returns true, and its argument reads as it did (the tied card). No condition but the row's own: the listed package-level variables start as the program's text lays them.
-/
import Derived.Test.YthbcdilmfgfndaaGreatDoorCards
import Derived.Test.YthbcdilmfgfndaaGreatDoorTie
import Derived.WalkKit
import Derived.ProofKit
import Derived.OpenShut
import Derived.Deep.DeepHandedRow
import Derived.Lay
import Derived.Test.YthbcdilmfgfndaaGreatDoorX0
import Derived.Test.YthbcdilmfgfndaaGreatDoorX1
import Derived.Test.YthbcdilmfgfndaaGreatDoorX2
import Derived.Test.YthbcdilmfgfndaaGreatDoorXk
import Derived.Test.YthbcdilmfgfndaaGreatDoorXc
namespace Go.Proofs.YthbcdilmfgfndaaGreatDoor.evalTypes
open Go.ChangeShapes Go.WideShapes Go.ChangeAt Go.RowKit

set_option maxRecDepth 1000000
theorem fact1 : laidOutB Tryz.prog = true := by kernel_rfl
theorem fact2 : mapsRowed Tryz.prog = true := by kernel_rfl
theorem fact3 : (Rows.evalTypesRow.inPlace == Tryz.prog.inPlace 12) = true := by kernel_rfl
theorem fact4 : (Rows.evalTypesRow.unfollowed == Tryz.prog.unfollowed 12) = true := by kernel_rfl
theorem fact5 : (Rows.evalTypesRow.recurses == Tryz.prog.recurses 12) = true := by kernel_rfl
theorem fact6 : (Rows.evalTypesRow.named == Tryz.prog.varsNamed 12) = true := by kernel_rfl
theorem fact7 : Tryz.prog.mayEnter = true := by kernel_rfl
theorem fact8 : (Rows.evalTypesRow.lifted == Tryz.prog.liftsFinal) = true := by kernel_rfl
theorem fact9 : (Tryz.prog.make == some Rows.evalTypesRow.make) = true := by kernel_rfl
theorem facts : joinedFacts Tryz.prog 12 Tryz.f12 (OpenSpec.ofChange Rows.evalTypesSpec).bare Rows.evalTypesRow = true := by
  unfold joinedFacts
  simp only [Bool.and_eq_true]
  with_reducible repeat' apply And.intro
  all_goals first
    | with_reducible exact fact1 | with_reducible exact fact2 | with_reducible exact fact3 | with_reducible exact fact4 | with_reducible exact fact5 | with_reducible exact fact6 | with_reducible exact fact7 | with_reducible exact fact8 | with_reducible exact fact9 | kernel_rfl
theorem own : ownKnob Tryz.prog.godebug = none := by kernel_rfl

open Go.Den Go.Den.Types in
theorem walk (a0 : Int) (w0 : (Lit.int .u8 a0).wf = true) (w : World) :
    Calls Tryz.prog 12 #[.int .u8 a0] w fun e w' => e = .returned (.bool true) ∧ Kept w w' := by
  have hr : 0 ≤ a0 ∧ a0 < 256 := by
    have h := w0
    simp only [Lit.wf, Bool.and_eq_true, decide_eq_true_eq] at h
    have e1 : IntKind.u8.min = 0 := by decide
    have e2 : IntKind.u8.max = 255 := by decide
    rw [e1, e2] at h
    omega
  obtain ⟨n, rfl⟩ : ∃ n : Nat, a0 = .ofNat n := ⟨a0.toNat, by simp; omega⟩
  have hn : n < 256 := by
    have := hr.2
    simp at this
    omega
  have hok : okAt n = true := by
    have q : n = 0 + n ∨ True := .inr trivial
    by_cases h1 : n < 64
    · have := rounds_at quarter0 n h1
      rwa [Nat.zero_add] at this
    · by_cases h2 : n < 128
      · have := rounds_at quarter1 (n - 64) (by omega)
        rwa [show 64 + (n - 64) = n by omega] at this
      · by_cases h3 : n < 192
        · have := rounds_at quarter2 (n - 128) (by omega)
          rwa [show 128 + (n - 128) = n by omega] at this
        · have := rounds_at quarter3 (n - 192) (by omega)
          rwa [show 192 + (n - 192) = n by omega] at this
  obtain ⟨h', hrun⟩ := okAt_run hok
  have hA : ∀ a ∈ lawA, AnsOK Tryz.prog a := by
    intro a ha
    simp only [lawA, List.mem_cons, List.not_mem_nil, or_false] at ha
    rcases ha with rfl | rfl | rfl | rfl
    · exact known
    · exact told0
    · exact told1
    · exact told2
  refine call_true (simA hA 1000) hrun ⟨rfl, fun j v x hv hx => ?_⟩
  cases j with
  | zero =>
    simp at hv hx
    subst hv; subst hx
    exact ⟨.int _ _, .of_strip rfl⟩
  | succ j => simp at hv

set_option maxRecDepth 100000 in
theorem contract (H : Type) (enc : TypeId × Value → H) (W : World) (base : Nat) (args : Array Value) (ds gs : List (DataW H)) (before : List MemPlace)
    (hval : ∀ (j : Nat) t v, Tryz.f12.params[j]? = some t → args[j]? = some v → Value.okWide Tryz.prog W .any base t v)
    (hW : DataW.Whole enc Tryz.prog Tryz.f12.params.toList Rows.evalTypesSpec.vars false W args.toList ds gs before) :
    Calls Tryz.prog 12 args W fun e W' => ∃ v, e = .returned v ∧ Rows.evalTypesSpec.post enc Tryz.prog Tryz.f12 false true false false W args v W' := by
  have hW' := hW
  obtain ⟨p, q, hA0, hV, rfl, hfz, hnd⟩ := hW
  have hA : DataW.TrodAll enc Tryz.prog W 0 (fun _ => true) true Tryz.f12.params.toList args.toList ds p := hA0
  rw [Tryz.params12] at hA hval
  obtain ⟨v0, vs0, d0, ds0, p0, q0, hargs, rfl, rfl, h0, r0⟩ := trodAll_cons hA
  obtain ⟨rfl, rfl, rfl⟩ := trodAll_nil r0
  obtain rfl : args = #[v0] := by cases args; simp_all
  obtain ⟨rfl, rfl⟩ := trodVars_none hV
  obtain ⟨a0, rfl, rfl, rfl, w0⟩ := open_int Tryz.underlying5 (hval 0 5 v0 rfl rfl) h0
  clear hA0
  simp only [List.append_nil] at hW'
  refine (walk a0 w0 W).mono fun e W' ⟨he, hg⟩ => ?_
  subst he
  exact ⟨_, rfl, Go.Den.post_kept (pa := []) (pv := []) hW' (fun _ _ _ => (trodAll_cons_mk (shut_bool Tryz.underlying4 _) trodAll_mk0)) (fun sp _ => (trodAll_cons_mk (shut_int Tryz.underlying5 w0) trodAll_mk0)) (fun _ _ => rfl) rfl (hg.keptBut _)⟩

noncomputable def lw (os : Os) : World := World.laidAll Tryz.prog os Rows.evalTypesRow.laid
theorem laid_met (os : Os) : laidMet Tryz.prog Rows.evalTypesRow.laid ((lw os).forCall (fun _ _ => 0) ⟨#[], #[.int .u8 0], []⟩).memory :=
  laidMet_laidAll #[.int .u8 0] (by kernel_rfl) (by kernel_rfl)
theorem reads (os : Os) {H : Type} (enc : TypeId × Value → H) : ∃ places, DataW.whole enc Tryz.prog ((lw os).forCall (fun _ _ => 0) ⟨#[], #[.int .u8 0], []⟩).memory Tryz.f12.params.toList Rows.evalTypesSpec.vars false #[Value.int .u8 0].toList 8 = some ([.lit (.int .u8 0)], [], places) :=
  ⟨[], by kernel_rfl⟩

set_option maxRecDepth 100000 in
theorem lifted (os : Os) (started : os.Started) (H : Type) (enc : TypeId × Value → H) (F : Stop.Interp) :
    ReturnsInHanded {} Tryz.checked os 12 .any ((OpenSpec.ofChange Rows.evalTypesSpec).preRow enc Tryz.prog Tryz.f12 Rows.evalTypesRow.domain false Rows.evalTypesRow.laid) (((OpenSpec.ofChange Rows.evalTypesSpec).at F).post enc Tryz.prog Tryz.f12 false true false false) := by
  obtain ⟨places, hx⟩ := reads os enc
  refine returnsInHanded_of_row (C := Tryz.checked) (s := OpenSpec.ofChange Rows.evalTypesSpec) own started (by kernel_rfl) Tryz.func12
    (witness_row_at (enc := enc) (C := Tryz.checked) false (lw os) #[.int .u8 0] (World.laidAll_os _ _ _) (by kernel_rfl) (by kernel_rfl) (by kernel_rfl)
      (OpenSpec.preRow_of_cond 8 hx (by kernel_rfl) (fun k hk => by cases hk) (by kernel_rfl) (laid_met os))) ?_
  intro W base args ds gs before hval hW _ _ _ hL _ _
  exact contract H enc W base args ds gs before hval hW

theorem said : Rows.EvalTypesSaid :=
  OpenClaim.holds_of_cond 12 Tryz.f12 rfl rfl rfl rfl rfl rfl rfl ⟨rfl, rfl, rfl, rfl, rfl⟩ rfl rfl rfl rfl rfl (by kernel_rfl) Tryz.func12 facts
    (of_decide_eq_true (by kernel_rfl)) (by unfold Func.isWrapper; first | (rw [if_pos (by decide +kernel)]; kernel_rfl) | (rw [if_neg (by decide +kernel)]; exact ⟨rfl, rfl⟩))
    (fun os started H enc _ F => by rw [OpenClaim.pre_eq_preRow]; exact lifted os started H enc F)

theorem plain (f : FuncId) (fn : Func) (hf : Tryz.pinned.checked.prog.funcNamed "wafer/waferlaw23.EvalTypes" = some f) (hfn : Tryz.pinned.checked.prog.funcs[f]? = some fn) :
    true = Tryz.pinned.checked.prog.looks [] ∧ ∀ (j : Nat) t, fn.params[j]? = some t → Tryz.pinned.checked.prog.wantsStandIn t = false := by
  obtain rfl : f = 12 := Option.some.inj ((show Tryz.prog.funcNamed "wafer/waferlaw23.EvalTypes" = some 12 by kernel_rfl).symm.trans hf) |>.symm
  obtain rfl : fn = Tryz.f12 := (Option.some.inj (Tryz.func12.symm.trans hfn)).symm
  refine ⟨by kernel_rfl, fun j t ht => ?_⟩
  rw [Tryz.params12] at ht
  obtain rfl : t = 5 := by simpa using Array.mem_of_getElem? ht
  exact (show Tryz.prog.wantsStandIn 5 = false by kernel_rfl)

theorem card : Rows.EvalTypesCardSaid :=
  Claim7.holds_tied_plain_at .later [] _ _ _ _ said (fun _ h => by cases h) (by kernel_rfl) (fun _ h => by cases h) evalTypes_row_tie rfl ⟨rfl, rfl⟩ (by kernel_rfl) rfl plain (by kernel_rfl)
#print axioms card
end Go.Proofs.YthbcdilmfgfndaaGreatDoor.evalTypes

