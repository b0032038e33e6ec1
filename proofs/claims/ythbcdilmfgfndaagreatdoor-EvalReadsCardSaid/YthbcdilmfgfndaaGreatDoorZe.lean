/-
  TEST of the kernel's speed.
-/
import Derived.Test.YthbcdilmfgfndaaGreatDoorZa
import Derived.Test.YthbcdilmfgfndaaGreatDoorProg
import Derived.Test.YthbcdilmfgfndaaGreatDoorZd
import Derived.Test.YthbcdilmfgfndaaGreatDoorChecked
import Derived.Lib.Strings
import Derived.Lib.Slices
import Derived.Lib.Walk
import Derived.Lib.Bytealg
import Derived.ChangeSame
import Derived.RowKit3
set_option linter.unusedSimpArgs false
set_option linter.unusedVariables false
namespace Go.Den
open Go
def heapyT : List (Nat × List Nat) := [(17, [8, 9, 32]), (18, [23]), (19, [9]), (22, [24]), (26, [7]), (62, [4]), (125, [11]), (208, [7]), (229, [1])]
def linT : List (Nat × List Nat) := [(14, [28, 25]), (17, [25, 31]), (28, [7, 5]), (36, [48, 45, 34, 27]), (53, [26, 20]), (57, [53, 50]), (58, [53, 47]), (59, [65, 59]), (60, [73, 67, 20, 15]), (62, [206, 203, 131, 123, 89, 85, 82, 78]), (63, [15, 12]), (81, [128, 126, 117, 113, 97, 94]), (83, [104, 98]), (112, [161, 158, 119, 111, 74, 70, 67, 63]), (116, [70, 61, 22, 18, 15, 11]), (134, [0, 7, 10, 6]), (135, [52, 48, 19, 16]), (160, [44, 34]), (164, [33, 29, 21, 17, 10, 6]), (165, [21, 17, 10, 6]), (168, [107, 103, 93, 85]), (177, [41, 33]), (179, [14, 12, 0, 17, 20, 6]), (180, [45, 42]), (197, [24, 20]), (202, [39, 36]), (208, [27, 24, 17, 13, 0, 6]), (227, [31, 28]), (230, [20, 16]), (241, [98, 95]), (242, [28, 25, 22, 18, 12, 13])]
def memL : List Nat → Nat → Bool
  | [], _ => false
  | x :: xs, n => Nat.beq x n || memL xs n
def findT : List (Nat × List Nat) → Nat → List Nat
  | [], _ => []
  | (f, l) :: r, g => cond (Nat.beq f g) l (findT r g)
def inF (L : List (Nat × List Nat)) (f t : Nat) : Bool := memL (findT L f) t
def inT : List (Nat × List Nat) → Nat → Nat → Bool
  | [], _, _ => false
  | (f, l) :: r, g, t => cond (Nat.beq f g) (memL l t) (cond (Nat.ble g f) false (inT r g t))
def cfgK : Cfg where
  lin := inF linT
  heapy := inF heapyT
  mutB f t := inF [(17, [25]), (84, [70]), (128, [4]), (195, [23, 48])] f t
  mutA f t := inF [(60, [20]), (90, [57]), (93, [20, 49, 60, 73, 108]), (133, [35]), (197, [24])] f t
  freeze f := memL [18, 195, 197] f
  pureF f := memL [134, 179, 208] f
  defers f := memL [17] f
noncomputable def XK : Ctx := ⟨Go.Proofs.Tryz.prog, cfgK⟩
def prefL : List UInt8 → List UInt8 → Bool
  | [], _ => true
  | _ :: _, [] => false
  | a :: l, b :: bs => Nat.beq a.toNat b.toNat && prefL l bs
def contL : List UInt8 → List UInt8 → Bool
  | t, [] => prefL t []
  | t, b :: bs => prefL t (b :: bs) || contL t bs
def primsK : Prims := fun f => cond (Nat.beq f 171) (some fun args h => match args with
  | [.str s, .str t] => some (.ret (.bool (contL t s)), h)
  | _ => none) none
end Go.Den
namespace Go.Proofs
set_option maxHeartbeats 1000000 in
set_option maxRecDepth 100000 in
theorem Tryz.stringslite_IndexByte (s : ByteArray) (c : Int) (w : World) :
    Calls Tryz.prog 246 #[.string s, .int .u8 c] w fun e w' => e = .returned (.int .i64 (Lib.indexByte s.data.toList c.toNat.toUInt8)) ∧ w' = w := by
  go_enter Tryz.func246, Tryz.ntmps246
  go_wp2
  rw [run_callFunc_extern Tryz.func271 (by kernel_rfl) (by kernel_rfl) (by kernel_rfl) (e := Extern.BytealgIndexByte.indexByte) (by kernel_rfl), Lib.run_indexByteString]
  simp only [Result.andThen]
  rw [Oper.upon_value]
  go_wp2
  go_ret
  exact ⟨rfl, rfl⟩
set_option maxHeartbeats 2000000 in
set_option maxRecDepth 100000 in
theorem Tryz.stringslite_Index_one (s : ByteArray) (c : UInt8) (w : World) :
    Calls Tryz.prog 228 #[.string s, .string ⟨#[c]⟩] w fun e w' => e = .returned (.int .i64 (Lib.indexByte s.data.toList c)) ∧ w' = w := by
  go_enter Tryz.func228, Tryz.ntmps228
  go_wp2_with (go_at_call 246; refine (Tryz.stringslite_IndexByte _ _ _).mono ?_; rintro e w' ⟨rfl, rfl⟩)
  · have h : ([c] == s.toList) = true := by assumption
    go_ret
    refine ⟨?_, rfl⟩
    have e : s.data.toList = [c] := by rw [← Lib.toList_data]; exact (beq_iff_eq.1 h).symm
    rw [e]
    simp [Lib.indexByte]
  · go_ret
    exact ⟨rfl, rfl⟩
set_option maxHeartbeats 1000000 in
theorem Tryz.strings_Index_one (s : ByteArray) (c : UInt8) (w : World) :
    Calls Tryz.prog 201 #[.string s, .string ⟨#[c]⟩] w fun e w' => e = .returned (.int .i64 (Lib.indexByte s.data.toList c)) ∧ w' = w := by
  go_enter Tryz.func201, Tryz.ntmps201
  go_wp2_with (go_at_call 228; refine (Tryz.stringslite_Index_one _ _ _).mono ?_; rintro e w' ⟨rfl, rfl⟩)
  go_ret
  exact ⟨rfl, rfl⟩
set_option maxHeartbeats 1000000 in
theorem Tryz.strings_Contains_one (s : ByteArray) (c : UInt8) (w : World) :
    Calls Tryz.prog 171 #[.string s, .string ⟨#[c]⟩] w fun e w' => e = .returned (.bool (decide (0 ≤ Lib.indexByte s.data.toList c))) ∧ w' = w := by
  go_enter Tryz.func171, Tryz.ntmps171
  go_wp2_with (go_at_call 201; refine (Tryz.strings_Index_one _ _ _).mono ?_; rintro e w' ⟨rfl, rfl⟩)
  go_ret
  exact ⟨rfl, rfl⟩
end Go.Proofs
namespace Go.Den
open Go
noncomputable def hasB (c : UInt8) : List UInt8 → Bool := @List.rec UInt8 (fun _ => Bool) false (fun b _ ih => cb (Nat.beq b.toNat c.toNat) true ih)
theorem hasB_eq (c : UInt8) : ∀ l, hasB c l = decide (0 ≤ Lib.indexByte l c)
  | [] => by simp [hasB, Lib.indexByte]
  | b :: l => by
    show cb (Nat.beq b.toNat c.toNat) true (hasB c l) = _
    rw [hasB_eq c l, cb_eq]
    have e : Lib.indexByte (b :: l) c = if b == c then 0 else if Lib.indexByte l c == -1 then -1 else Lib.indexByte l c + 1 := rfl
    rw [e]
    by_cases h : b = c
    · subst h; simp
    · have h1 : Nat.beq b.toNat c.toNat = false := by
        cases e : Nat.beq b.toNat c.toNat with
        | false => rfl
        | true => exact (h (UInt8.toNat_inj.1 (Nat.eq_of_beq_eq_true e))).elim
      have h2 : (b == c) = false := by simpa using h
      have h3 : ∀ l : List UInt8, -1 ≤ Lib.indexByte l c := by
        intro l
        induction l with
        | nil => simp [Lib.indexByte]
        | cons a l ih =>
          unfold Lib.indexByte
          split
          · omega
          · split <;> omega
      rw [h1, h2]
      simp only [cond_false, Bool.false_eq_true, if_false]
      have := h3 l
      by_cases h4 : Lib.indexByte l c = -1
      · simp [h4]
      · have : (Lib.indexByte l c == -1) = false := by simpa using h4
        rw [this]
        rw [Bool.eq_iff_iff]; simp; omega
noncomputable def primC : List AVal → Heap → Option (ARes × Heap) := fun args h => match args with
  | [.str s, .str [c]] => some (.ret (.bool (hasB c s)), h)
  | _ => none
noncomputable def primsC : Prims := fun f => cb (Nat.beq f 171) (some primC) none
theorem primsC_sim : PrimSim Go.Proofs.Tryz.prog primsC := by
  intro f p hp args h r h' hr E w cargs hH hA
  unfold primsC at hp
  rw [cb_eq] at hp
  cases hf : Nat.beq f 171 with
  | false => rw [hf] at hp; cases hp
  | true =>
    rw [hf] at hp
    obtain rfl : f = 171 := Nat.eq_of_beq_eq_true hf
    cases hp
    unfold primC at hr
    split at hr
    · rename_i s c
      cases hr
      obtain ⟨hs, hv⟩ := hA
      have hs : cargs.size = 2 := hs
      obtain ⟨x, y, rfl⟩ : ∃ x y, cargs = #[x, y] := by
        rcases cargs with ⟨l⟩
        match l, hs with
        | [x, y], _ => exact ⟨x, y, rfl⟩
      have h1 := (hv 0 _ x rfl rfl).1.str_eq
      have h2 := (hv 1 _ y rfl rfl).1.str_eq
      subst h1; subst h2
      refine (Go.Proofs.Tryz.strings_Contains_one _ c w).mono ?_
      rintro e w' ⟨rfl, rfl⟩
      refine ⟨E, Ext.refl _ _, hH, ?_, ?_⟩
      · rw [hasB_eq]; exact .bool _
      · exact .of_strip rfl
    · cases hr
def Kept (w w' : World) : Prop := w'.os = w.os ∧ w'.output = w.output ∧ w.heap.size ≤ w'.heap.size ∧ ∀ B, B < w.heap.size → w'.heap[B]? = w.heap[B]?
def emb0 : Emb := { ρ := fun _ => none, kind := fun _ => .foreign, tag := fun _ _ => .junk }
def heap0 : Heap := { objs := [], ro := 0 }
theorem hrel0 {hp : HP} (ht : ∃ e z, hp[tabG]? = some (Obj.cells tabC e z)) : HRel emb0 hp heap0 := ⟨⟨rfl, ht⟩, fun b o h => by simp [heap0] at h, fun b B h => by cases h⟩
theorem call_true {P : Program} {call : Call} (hs : CallSim P call) {f : FuncId} {args : List AVal} {h' : Heap} (hr : call f args heap0 = some (.ret (.bool true), h')) {cargs : Array Value} {w : World} (ht : ∃ e z, w.heap[tabG]? = some (Obj.cells tabC e z))
    (ha : ArgsRel emb0 w.heap args cargs) : Calls P f cargs w fun e w' => e = .returned (.bool true) ∧ Kept w w' := by
  refine (hs f args heap0 _ h' hr emb0 w cargs (hrel0 ht) ha).mono ?_
  rintro e w' ⟨E', hx, hH, he⟩
  cases e with
  | returned x =>
    obtain ⟨h1, _⟩ := he
    exact ⟨by rw [h1.bool_eq], hx.os, hx.output, hx.size, fun B hB => (hx.foreign B hB rfl).2⟩
  | _ => exact he.elim
theorem Kept.keptBut {w w' : World} (h : Kept w w') (may : MemPlace → Prop) : w.keptBut w' may := by
  refine ⟨h.1, h.2.1, fun i hi => ?_⟩
  rw [h.2.2.2 i hi]
  cases w.heap[i]? with
  | none => rfl
  | some o => cases o with
    | cells c t fr => exact ⟨rfl, rfl, rfl, fun _ _ => rfl⟩
    | map es cl => exact .inr ⟨rfl, rfl⟩
    | _ => rfl
variable {H : Type} {enc : TypeId × Value → H} {P : Program}
theorem post_kept {f : Func} {s : ChangeSpec} {apart fresh handsOn : Bool} {W W' : World} {args : Array Value} {v : Value} {ds gs : List (DataW H)} {before pa pv : List MemPlace}
    (hW : DataW.Whole enc P f.params.toList s.vars apart W args.toList ds gs before)
    (hres : ∀ (b : Nat) (sp : Nat → Bool) (hd : Bool), DataW.TrodAll enc P W' b sp hd f.resultTypes.toList (v.resultList f.resultTypes.size) (s.fn H (ds ++ gs)).results [])
    (hargs : ∀ sp : Nat → Bool, (∀ p ∈ before, sp p.block = true) → DataW.TrodAll enc P W' 0 sp true f.params.toList args.toList (s.fn H (ds ++ gs)).args pa)
    (hvars : ∀ sp : Nat → Bool, (∀ p ∈ before, sp p.block = true) → DataW.TrodVars enc P W' sp s.vars (s.fn H (ds ++ gs)).vars pv)
    (hps : before = pa ++ pv) (hk : W.keptBut W' (· ∈ before)) : s.post enc P f apart fresh handsOn false W args v W' := by
  have hold : ∀ p ∈ before, (fun b => decide (b < W.heap.size)) p.block = true := fun p hp => by simpa using hW.lt p hp
  refine ⟨ds, gs, before, [], pa, pv, hW, hres _ _ _, hargs _ hold, hvars _ hold, World.keptBut_mono (fun p hp => ⟨hp, ?_⟩) hk, fun h => by cases h⟩
  rw [hps, List.mem_append] at hp
  exact Or.inr hp
end Go.Den
