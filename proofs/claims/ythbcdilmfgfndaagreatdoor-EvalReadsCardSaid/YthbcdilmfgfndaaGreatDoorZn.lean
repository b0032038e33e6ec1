/-
  EVAL, PART XB: numbers: what fold and arith compute.
-/
import Derived.Test.YthbcdilmfgfndaaGreatDoorZl
import Derived.Test.YthbcdilmfgfndaaGreatDoorZj
import Derived.Test.YthbcdilmfgfndaaGreatDoorZx
import Derived.Test.YthbcdilmfgfndaaGreatDoorZf
import Derived.Shelf.Slices.Clone
import Derived.Test.YthbcdilmfgfndaaGreatDoorZm
import Derived.DataReads
import Derived.Below
set_option linter.unusedSimpArgs false
set_option linter.unusedVariables false
namespace Go.Wf
open Go Go.Den
variable {P : Prims} {H : Heap}
theorem in32_iff' {v : Int} : in32 v = true ↔ -2147483648 ≤ v ∧ v ≤ 2147483647 := by simp [in32]
theorem k_elem (hp : P 178 = none) (n : Int) (H : Heap) : Ev P 178 [.int .i32 n] H (.ret (.bool (elemB n))) H := by
  by_cases h : n ≥ 0
  · have e : elemB n = decide (n < 32) := by simp [elemB]; omega
    rw [e]; exact r178_0 hp h
  · have e : elemB n = false := by simp [elemB]; omega
    rw [e]; exact r178_1 hp h
theorem k_num (h1 : P 231 = none) (h2 : P 206 = none) (f v : Int) (H : Heap) : Ev P 206 [.int .i64 f, .int .i32 v] H (.ret (.agg (litC f v))) H := r206_0 h2 (r231_0 h1)
theorem k_isC (hp : P 205 = none) (f v : Int) (H : Heap) : Ev P 205 [.agg (litC f v)] H (.ret (.bool (decide (1 ≤ f) && decide (f ≤ 4)))) H := by
  by_cases h : f ≥ 1
  · have e : (decide (1 ≤ f) && decide (f ≤ 4)) = decide (f ≤ 4) := by simp; omega
    rw [e]; exact r205_0 hp h
  · have e : (decide (1 ≤ f) && decide (f ≤ 4)) = false := by simp; omega
    rw [e]; exact r205_1 hp h
theorem wrapU64_of {x : Int} (h : 0 ≤ x) (h2 : x ≤ 2147483647) : IntKind.wrap .u64 x = x := by
  have e : IntKind.wrap .u64 x = x % 18446744073709551616 := by
    unfold IntKind.wrap
    simp [IntKind.signed, IntKind.bits]
  rw [e]; omega
theorem k_spanL (x1 : Int) (hx : 0 ≤ x1 ∧ x1 < 32) : ∀ (k : Nat) (a s : Int), 0 ≤ a → a ≤ x1 + 1 → (x1 + 1 - a).toNat = k → ∀ H,
    LoopEv P 204 k204_0 28 [] [(1, .int .i32 x1), (6, .int .i32 s), (7, .int .i32 a)] ⟨[], false⟩ H (.exit 0) [] [(6, .int .i32 (spanFrom a k s))] ⟨[], false⟩ H
  | 0, a, s, h0, h1, hk, H => loop_exit (by simp) (b204_0_1 (by omega))
  | k + 1, a, s, h0, h1, hk, H => by
    have hle : a ≤ x1 := by omega
    have hm : min a.toNat 32 = a.toNat := by omega
    have e1 : IntKind.wrap .i32 (1 * 2 ^ min a.toNat 32) = bitOf a := by rw [hm, Int.one_mul]; rfl
    have e2 : IntKind.wrap .i32 (a + 1) = a + 1 := by
      have e : IntKind.wrap .i32 (a + 1) = (a + 1 + 2147483648) % 4294967296 - 2147483648 := by
        unfold IntKind.wrap
        simp [IntKind.signed, IntKind.bits]
        omega
      rw [e]; omega
    exact loop_next (by rfl) (b204_0_0 hle (wrapU64_of h0 (by omega)) (i0 := a.toNat) (by omega) e1 rfl e2) (k_spanL x1 hx k (a + 1) (or32 s (bitOf a)) (by omega) (by omega) (by omega) H)
theorem k_span (h1 : P 178 = none) (h2 : P 204 = none) (a b : Int) (H : Heap) : Ev P 204 [.int .i32 a, .int .i32 b] H (.ret (.tup [.int .i32 (cond (elemB a && elemB b) (spanOf a b) 0), .bool (elemB a && elemB b)])) H := by
  cases ha : elemB a with
  | false => exact r204_0 h2 (k_elem h1 a H) ha
  | true =>
    cases hb : elemB b with
    | false => exact r204_1 h2 (k_elem h1 a H) ha (k_elem h1 b H) hb
    | true =>
      simp only [elemB, Bool.and_eq_true, decide_eq_true_eq] at ha hb
      refine l204_0 h2 (k_elem h1 a H) (by simp [elemB]; omega) (k_elem h1 b H) (by simp [elemB]; omega) ?_
      by_cases h : a ≤ b + 1
      · exact k_spanL b hb _ a 0 ha.1 h rfl H
      · have e : (b + 1 - a).toNat = 0 := by omega
        show LoopEv P 204 k204_0 28 [] _ _ H _ [] [(6, .int .i32 (spanFrom a (b + 1 - a).toNat 0))] _ H
        rw [e]
        exact loop_exit (by simp) (b204_0_1 (by omega))
theorem k_all1 (h : ∀ f ∈ [205, 254, 273, 251, 235], P f = none) {f a : Int} (h1 : 1 ≤ f) (h4 : f ≤ 4) (H : Heap) : Ev P 235 [.isl false 1 (litC f a)] H (.ret (.bool true)) H := by
  have e254 := r254_0 (h 254 (by simp)) (k_isC (h 205 (by simp)) f a H)
  have hb : (decide (1 ≤ f) && decide (f ≤ 4)) = true := by simp; omega
  rw [hb] at e254
  have rd : readRow true 8 (litC f a) (0 * 8) = some (.agg (litC f a)) := rfl
  have l := l273_0 (P := P) (n0 := 1) (cs0 := litC f a) (h 273 (by simp)) (loop_next (by rfl) (b273_0_1 (k0 := 0) (by decide) (by decide) rfl rd e254 rfl (y0 := ((1 : Nat) : Int)) rfl) (loop_exit (by simp) (b273_0_2 (by decide))))
  have e251 := r251_0 (h 251 (by simp)) l
  exact r235_0 (h 235 (by simp)) e251
theorem k_all2 (h : ∀ f ∈ [205, 254, 273, 251, 235], P f = none) {f a g b : Int} (h1 : 1 ≤ f) (h4 : f ≤ 4) (g1 : 1 ≤ g) (g4 : g ≤ 4) (H : Heap) : Ev P 235 [.isl false 2 (litC f a ++ litC g b)] H (.ret (.bool true)) H := by
  have e254 := r254_0 (h 254 (by simp)) (k_isC (h 205 (by simp)) f a H)
  have hb : (decide (1 ≤ f) && decide (f ≤ 4)) = true := by simp; omega
  rw [hb] at e254
  have e254' := r254_0 (h 254 (by simp)) (k_isC (h 205 (by simp)) g b H)
  have hb' : (decide (1 ≤ g) && decide (g ≤ 4)) = true := by simp; omega
  rw [hb'] at e254'
  have rd : readRow true 8 (litC f a ++ litC g b) (0 * 8) = some (.agg (litC f a)) := rfl
  have rd' : readRow true 8 (litC f a ++ litC g b) (1 * 8) = some (.agg (litC g b)) := rfl
  have l := l273_0 (P := P) (n0 := 2) (cs0 := litC f a ++ litC g b) (h 273 (by simp)) (loop_next (by rfl) (b273_0_1 (k0 := 0) (by decide) (by decide) rfl rd e254 rfl (y0 := ((1 : Nat) : Int)) rfl)
    (loop_next (by rfl) (b273_0_1 (k0 := 1) (by decide) (by decide) rfl rd' e254' rfl (y0 := ((2 : Nat) : Int)) rfl) (loop_exit (by simp) (b273_0_2 (by decide)))))
  have e251 := r251_0 (h 251 (by simp)) l
  exact r235_0 (h 235 (by simp)) e251
end Go.Wf
namespace Go.Wf
open Go Go.Den
variable {P : Prims} {H : Heap}
theorem wrap32' {n : Int} (h1 : -2147483648 ≤ n) (h2 : n ≤ 2147483647) : IntKind.wrap .i32 n = n := by
  have e : IntKind.wrap .i32 n = (n + 2147483648) % 4294967296 - 2147483648 := by
    unfold IntKind.wrap
    simp [IntKind.signed, IntKind.bits]
    omega
  rw [e]; omega
def Told (o : Option Int) (r : Int) (b : Bool) : Prop := match o with
  | some x => b = true ∧ r = x
  | none => b = false
theorem k_flag (hp : P 255 = none) (b : Bool) (H : Heap) : Ev P 255 [.bool b] H (.ret (.int .i32 (flag b))) H := by
  cases b with
  | true => exact r255_0 hp rfl
  | false => exact r255_1 hp rfl
theorem k_one (h : ∀ f ∈ [130, 131, 255, 236], P f = none) (op f a : Int) (o : Option Int) (hu : un op f a = some o) (H : Heap) : ∃ r b, Ev P 236 [.int .i64 op, .agg (litC f a)] H (.ret (.tup [.int .i32 r, .bool b])) H ∧ Told o r b := by
  have hp := h 236 (by simp)
  unfold un at hu
  by_cases h7 : op = 7
  · rw [if_pos h7] at hu
    cases hu
    by_cases hf : f = 4
    · rw [if_pos hf]
      exact ⟨_, _, r236_0 hp h7 hf rfl, rfl, rfl⟩
    · rw [if_neg hf]
      exact ⟨_, _, r236_1 hp h7 hf (r131_0 (h 131 (by simp)) rfl), rfl, rfl⟩
  rw [if_neg h7] at hu
  by_cases h8 : op = 8
  · rw [if_pos h8] at hu
    cases hu
    exact ⟨_, _, r236_2 hp h8 (k_flag (h 255 (by simp)) _ H), rfl, rfl⟩
  rw [if_neg h8] at hu
  by_cases h27 : op = 27
  · rw [if_pos h27] at hu
    cases hu
    by_cases ha : a < 0
    · rw [if_pos ha]
      exact ⟨_, _, r236_3 hp h27 ha (r131_0 (h 131 (by simp)) rfl), rfl, rfl⟩
    · rw [if_neg ha]
      exact ⟨_, _, r236_4 hp h27 ha, rfl, rfl⟩
  rw [if_neg h27] at hu
  by_cases h28 : op = 28
  · rw [if_pos h28] at hu
    cases hu
    exact ⟨_, _, r236_5 hp h28 rfl, rfl, rfl⟩
  rw [if_neg h28] at hu
  by_cases h32 : op = 32
  · rw [if_pos h32] at hu
    cases hu
    exact ⟨_, _, r236_8 hp h7 h8 h27 h28 (by omega), rfl, rfl⟩
  rw [if_neg h32] at hu
  by_cases h33 : op = 33
  · rw [if_pos h33] at hu
    cases hu
    by_cases ha : a ≥ 0
    · by_cases hb : a ≤ 255
      · rw [if_pos ⟨ha, hb⟩]
        exact ⟨_, _, r236_6 hp h33 ha, by simp [hb], rfl⟩
      · rw [if_neg (by omega)]
        exact ⟨_, _, r236_6 hp h33 ha, decide_eq_false hb⟩
    · rw [if_neg (by omega)]
      exact ⟨_, _, r236_7 hp h33 ha, rfl⟩
  rw [if_neg h33] at hu
  cases hu
theorem div_bounds {a b : Int} (h1 : -2147483648 ≤ a) (h2 : a ≤ 2147483647) (hb : 1 ≤ b) : -2147483648 ≤ a / b ∧ a / b ≤ 2147483647 ∧ (a % b = 0 ∨ 0 < a % b) ∧ a % b < b ∧ (0 ≤ a → 0 ≤ a / b) ∧ (a < 0 → a / b < 0) := by
  have e := Int.mul_ediv_add_emod a b
  have r0 := Int.emod_nonneg a (show b ≠ 0 by omega)
  have r1 := Int.emod_lt_of_pos a (show 0 < b by omega)
  refine ⟨?_, ?_, by omega, r1, fun h => Int.ediv_nonneg h (by omega), fun h => Int.ediv_neg_of_neg_of_pos h (by omega)⟩
  · rw [Int.le_ediv_iff_mul_le (by omega)]
    have : (-2147483648) * b ≤ -2147483648 := by omega
    omega
  · rcases Int.lt_or_le a 0 with q | q
    · have := Int.ediv_neg_of_neg_of_pos q (show 0 < b by omega); omega
    · have := Int.ediv_le_self b q; omega
theorem tdiv_eq {a b : Int} (hb : 1 ≤ b) : (0 ≤ a ∨ a % b = 0 → a.tdiv b = a / b ∧ a.tmod b = a % b) ∧ (¬ (0 ≤ a ∨ a % b = 0) → a.tdiv b = a / b + 1 ∧ a.tmod b = a % b - b) := by
  have hs : b.sign = 1 := Int.sign_eq_one_of_pos (by omega)
  have hd : b ∣ a ↔ a % b = 0 := Int.dvd_iff_emod_eq_zero
  have e1 := Int.tdiv_eq_ediv (a := a) (b := b)
  have e2 := Int.tmod_eq_emod (a := a) (b := b)
  have hn : (b.natAbs : Int) = b := by omega
  constructor
  · intro h
    rw [← hd] at h
    rw [if_pos h] at e1 e2
    exact ⟨by rw [e1]; omega, by rw [e2]; omega⟩
  · intro h
    rw [← hd] at h
    rw [if_neg h] at e1 e2
    exact ⟨by rw [e1, hs], by rw [e2, hn]⟩
theorem k_div (hp : P 258 = none) {a b : Int} (h1 : -2147483648 ≤ a) (h2 : a ≤ 2147483647) (H : Heap) : ∃ r t, Ev P 258 [.int .i32 a, .int .i32 b] H (.ret (.tup [.int .i32 r, .bool t])) H ∧ Told (if b < 1 then none else some (a / b)) r t := by
  by_cases hb : b < 1
  · rw [if_pos hb]; exact ⟨_, _, r258_0 hp hb, rfl⟩
  · rw [if_neg hb]
    obtain ⟨q1, q2, q3, q4, q5, q6⟩ := div_bounds h1 h2 (show 1 ≤ b by omega)
    obtain ⟨t1, t2⟩ := @tdiv_eq a b (by omega)
    by_cases hc : 0 ≤ a ∨ a % b = 0
    · obtain ⟨u1, u2⟩ := t1 hc
      exact ⟨_, _, r258_2 hp hb (by omega) (y0 := a / b) (by rw [u1]; exact wrap32' (by omega) (by omega)) (by omega) rfl (by rw [u2]; omega), rfl, rfl⟩
    · obtain ⟨u1, u2⟩ := t2 hc
      exact ⟨_, _, r258_1 hp hb (by omega) (y0 := a / b + 1) (by rw [u1]; exact wrap32' (by omega) (by omega)) (by omega) rfl (by rw [u2]; omega) (y2 := a / b) (by rw [Int.add_sub_cancel]; exact wrap32' (by omega) (by omega)), rfl, rfl⟩
theorem k_mod (hp : P 259 = none) {a b : Int} (h1 : -2147483648 ≤ a) (h2 : a ≤ 2147483647) (h3 : b ≤ 2147483647) (H : Heap) : ∃ r t, Ev P 259 [.int .i32 a, .int .i32 b] H (.ret (.tup [.int .i32 r, .bool t])) H ∧ Told (if b < 1 then none else some (a % b)) r t := by
  by_cases hb : b < 1
  · rw [if_pos hb]; exact ⟨_, _, r259_0 hp hb, rfl⟩
  · rw [if_neg hb]
    obtain ⟨q1, q2, q3, q4, q5, q6⟩ := div_bounds h1 h2 (show 1 ≤ b by omega)
    obtain ⟨t1, t2⟩ := @tdiv_eq a b (by omega)
    by_cases hc : 0 ≤ a ∨ a % b = 0
    · obtain ⟨u1, u2⟩ := t1 hc
      exact ⟨_, _, r259_2 hp hb (by omega) u2 (by omega), rfl, rfl⟩
    · obtain ⟨u1, u2⟩ := t2 hc
      exact ⟨_, _, r259_1 hp hb (by omega) u2 (by omega) (y1 := a % b) (by rw [Int.sub_add_cancel]; exact wrap32' (by omega) (by omega)), rfl, rfl⟩
theorem k_has (h1 : P 178 = none) (h2 : P 260 = none) (n s : Int) (H : Heap) : Ev P 260 [.int .i32 n, .int .i32 s] H (.ret (.bool (hasE n s))) H := by
  cases hn : elemB n with
  | false =>
    have e : hasE n s = false := by simp [hasE, hn]
    rw [e]; exact r260_1 h2 (k_elem h1 n H) hn
  | true =>
    have hn' := hn
    simp only [elemB, Bool.and_eq_true, decide_eq_true_eq] at hn'
    have e : hasE n s = (and32 (s.fdiv (2 ^ n.toNat)) 1 == 1) := by simp [hasE, hn]
    rw [e]
    exact r260_0 h2 (k_elem h1 n H) hn (wrapU64_of hn'.1 (by omega)) (i0 := n.toNat) (by omega) (by rw [show min n.toNat 32 = n.toNat by omega]) rfl
def twoF : List Nat := [130, 131, 178, 237, 255, 256, 257, 258, 259, 260, 264]
theorem k_cmp (h : ∀ f ∈ twoF, P f = none) (op a b : Int) (o : Bool) (ho : (op = 16 ∧ o = (a == b)) ∨ (op = 17 ∧ o = (a != b)) ∨ (op = 18 ∧ o = decide (a < b)) ∨ (op = 19 ∧ o = decide (a ≤ b)) ∨ (op = 20 ∧ o = decide (b < a)) ∨ (op = 21 ∧ o = decide (b ≤ a))) (H : Heap) :
    Ev P 264 [.int .i64 op, .int .i32 a, .int .i32 b] H (.ret (.int .i32 (flag o))) H := by
  have hp := h 264 (by simp [twoF])
  have hf := fun b => k_flag (h 255 (by simp [twoF])) b H
  rcases ho with ⟨e, rfl⟩ | ⟨e, rfl⟩ | ⟨e, rfl⟩ | ⟨e, rfl⟩ | ⟨e, rfl⟩ | ⟨e, rfl⟩
  · exact r264_0 hp e (hf _)
  · exact r264_1 hp e (hf _)
  · exact r264_2 hp e (hf _)
  · exact r264_3 hp e (hf _)
  · exact r264_4 hp e (hf _)
  · exact r264_5 hp (by omega) (by omega) (by omega) (by omega) (by omega) (hf _)
theorem k_two (h : ∀ f ∈ twoF, P f = none) (op f1 a f2 b : Int) (o : Option Int) (hu : bin op f1 a b = some o) (ha : -2147483648 ≤ a ∧ a ≤ 2147483647) (hb : -2147483648 ≤ b ∧ b ≤ 2147483647) (H : Heap) :
    ∃ r t, Ev P 237 [.int .i64 op, .agg (litC f1 a), .agg (litC f2 b)] H (.ret (.tup [.int .i32 r, .bool t])) H ∧ Told o r t := by
  have hp := h 237 (by simp [twoF])
  have p256 := h 256 (by simp [twoF])
  have p130 := h 130 (by simp [twoF])
  have p131 := h 131 (by simp [twoF])
  have p257 := h 257 (by simp [twoF])
  have p258 := h 258 (by simp [twoF])
  have p259 := h 259 (by simp [twoF])
  have p260 := h 260 (by simp [twoF])
  have p178 := h 178 (by simp [twoF])
  have hf := fun b => k_flag (h 255 (by simp [twoF])) b H
  unfold bin at hu
  by_cases h9 : op = 9
  · rw [if_pos h9] at hu
    cases hu
    by_cases h4 : f1 = 4
    · rw [if_pos h4]; exact ⟨_, _, r237_0 hp h4 (r256_0 p256 h9 rfl) rfl, rfl, rfl⟩
    · rw [if_neg h4]; exact ⟨_, _, r237_15 hp h4 h9 (r130_0 p130 rfl), rfl, rfl⟩
  rw [if_neg h9] at hu
  by_cases h10 : op = 10
  · rw [if_pos h10] at hu
    cases hu
    by_cases h4 : f1 = 4
    · rw [if_pos h4]; exact ⟨_, _, r237_0 hp h4 (r256_1 p256 h10 rfl) rfl, rfl, rfl⟩
    · rw [if_neg h4]; exact ⟨_, _, r237_16 hp h4 h10 (r131_0 p131 rfl), rfl, rfl⟩
  rw [if_neg h10] at hu
  by_cases h11 : op = 11
  · rw [if_pos h11] at hu
    cases hu
    by_cases h4 : f1 = 4
    · rw [if_pos h4]; exact ⟨_, _, r237_0 hp h4 (r256_2 p256 h11 rfl) rfl, rfl, rfl⟩
    · rw [if_neg h4]; exact ⟨_, _, r237_17 hp h4 h11 (r257_0 p257 rfl), rfl, rfl⟩
  rw [if_neg h11] at hu
  by_cases h12 : op = 12
  · rw [if_pos h12] at hu
    cases hu
    by_cases h4 : f1 = 4
    · rw [if_pos h4]; exact ⟨_, _, r237_0 hp h4 (r256_3 p256 h12 rfl) rfl, rfl, rfl⟩
    · rw [if_neg h4]
      obtain ⟨r, t, e, ht⟩ := k_div p258 ha.1 ha.2 (b := b) H
      exact ⟨r, t, r237_18 hp h4 h12 e, ht⟩
  rw [if_neg h12] at hu
  have n256 := r256_4 (P := P) (H := H) (x1 := a) (x2 := b) p256 h9 h10 h11 h12
  by_cases h13 : op = 13
  · rw [if_pos h13] at hu
    cases hu
    obtain ⟨r, t, e, ht⟩ := k_mod p259 ha.1 ha.2 hb.2 H
    by_cases h4 : f1 = 4
    · exact ⟨r, t, r237_5 hp h4 n256 rfl h13 e, ht⟩
    · exact ⟨r, t, r237_19 hp h4 h13 e, ht⟩
  rw [if_neg h13] at hu
  have cmp : ∀ (x : Bool), ((op = 16 ∧ x = (a == b)) ∨ (op = 17 ∧ x = (a != b)) ∨ (op = 18 ∧ x = decide (a < b)) ∨ (op = 19 ∧ x = decide (a ≤ b)) ∨ (op = 20 ∧ x = decide (b < a)) ∨ (op = 21 ∧ x = decide (b ≤ a))) →
      ∃ r t, Ev P 237 [.int .i64 op, .agg (litC f1 a), .agg (litC f2 b)] H (.ret (.tup [.int .i32 r, .bool t])) H ∧ Told (some (flag x)) r t := fun x hx => by
    have e := k_cmp h op a b x hx H
    by_cases h4 : f1 = 4
    · exact ⟨_, _, r237_14 hp h4 n256 rfl h9 h10 h11 h12 h13 (by omega) (by omega) (by omega) (by omega) (by omega) (by omega) e, rfl, rfl⟩
    · exact ⟨_, _, r237_28 hp h4 h9 h10 h11 h12 h13 (by omega) (by omega) (by omega) (by omega) (by omega) (by omega) e, rfl, rfl⟩
  by_cases h16 : op = 16
  · rw [if_pos h16] at hu; cases hu; exact cmp _ (.inl ⟨h16, rfl⟩)
  rw [if_neg h16] at hu
  by_cases h17 : op = 17
  · rw [if_pos h17] at hu; cases hu; exact cmp _ (.inr (.inl ⟨h17, rfl⟩))
  rw [if_neg h17] at hu
  by_cases h18 : op = 18
  · rw [if_pos h18] at hu; cases hu; exact cmp _ (.inr (.inr (.inl ⟨h18, rfl⟩)))
  rw [if_neg h18] at hu
  by_cases h19 : op = 19
  · rw [if_pos h19] at hu; cases hu; exact cmp _ (.inr (.inr (.inr (.inl ⟨h19, rfl⟩))))
  rw [if_neg h19] at hu
  by_cases h20 : op = 20
  · rw [if_pos h20] at hu; cases hu; exact cmp _ (.inr (.inr (.inr (.inr (.inl ⟨h20, rfl⟩)))))
  rw [if_neg h20] at hu
  by_cases h21 : op = 21
  · rw [if_pos h21] at hu; cases hu; exact cmp _ (.inr (.inr (.inr (.inr (.inr ⟨h21, rfl⟩)))))
  rw [if_neg h21] at hu
  by_cases h22 : op = 22
  · rw [if_pos h22] at hu
    cases hu
    have e := k_has p178 p260 a b H
    by_cases h4 : f1 = 4
    · exact ⟨_, _, r237_10 hp h4 n256 rfl h22 e (hf _), rfl, rfl⟩
    · exact ⟨_, _, r237_24 hp h4 h22 e (hf _), rfl, rfl⟩
  rw [if_neg h22] at hu
  cases hu
theorem k_count1 (hp : P 232 = none) {op f a : Int} {o : Option Int} (hu : un op f a = some o) (H : Heap) : Ev P 232 [.int .i64 op] H (.ret (.tup [.int .i64 1, .bool true])) H := by
  unfold un at hu
  by_cases h7 : op = 7
  · exact r232_0 hp h7
  rw [if_neg h7] at hu
  by_cases h8 : op = 8
  · exact r232_1 hp h8
  rw [if_neg h8] at hu
  by_cases h27 : op = 27
  · exact r232_2 hp h27
  rw [if_neg h27] at hu
  by_cases h28 : op = 28
  · exact r232_3 hp h28
  rw [if_neg h28] at hu
  by_cases h32 : op = 32
  · exact r232_4 hp h32
  rw [if_neg h32] at hu
  by_cases h33 : op = 33
  · exact r232_5 hp h33
  rw [if_neg h33] at hu
  cases hu
theorem k_count2 (hp : P 232 = none) {op f a b : Int} {o : Option Int} (hu : bin op f a b = some o) (H : Heap) : Ev P 232 [.int .i64 op] H (.ret (.tup [.int .i64 2, .bool true])) H := by
  unfold bin at hu
  by_cases h9 : op = 9
  · exact r232_6 hp h9
  rw [if_neg h9] at hu
  by_cases h10 : op = 10
  · exact r232_7 hp h10
  rw [if_neg h10] at hu
  by_cases h11 : op = 11
  · exact r232_8 hp h11
  rw [if_neg h11] at hu
  by_cases h12 : op = 12
  · exact r232_9 hp h12
  rw [if_neg h12] at hu
  by_cases h13 : op = 13
  · exact r232_10 hp h13
  rw [if_neg h13] at hu
  by_cases h16 : op = 16
  · exact r232_13 hp h16
  rw [if_neg h16] at hu
  by_cases h17 : op = 17
  · exact r232_14 hp h17
  rw [if_neg h17] at hu
  by_cases h18 : op = 18
  · exact r232_15 hp h18
  rw [if_neg h18] at hu
  by_cases h19 : op = 19
  · exact r232_16 hp h19
  rw [if_neg h19] at hu
  by_cases h20 : op = 20
  · exact r232_17 hp h20
  rw [if_neg h20] at hu
  by_cases h21 : op = 21
  · exact r232_18 hp h21
  rw [if_neg h21] at hu
  by_cases h22 : op = 22
  · exact r232_19 hp h22
  rw [if_neg h22] at hu
  cases hu
theorem un_ne {op f a : Int} {o : Option Int} (hu : un op f a = some o) : op ≠ 24 := by
  intro e; subst e; simp [un] at hu
theorem bin_ne {op f a b : Int} {o : Option Int} (hu : bin op f a b = some o) : op ≠ 24 := by
  intro e; subst e; simp [bin] at hu
def foldFs : List Nat := [207, 206, 231, 205, 254, 273, 251, 235, 236, 232] ++ twoF
theorem k_fold1 (h : ∀ f ∈ foldFs, P f = none) (op tf tn : Int) (ts : List UInt8) (k : Nat) (cs : List AVal) (form a : Int) (o : Option Int) (H : Heap) (h1 : 1 ≤ form) (h4 : form ≤ 4) (hu : un op form a = some o) :
    ∃ v, Ev P 207 [.agg [.int .i64 op, .int .i64 tf, .int .i64 tn, .str ts, .isl false k cs, .int .i32 0, .str [], .isl false 1 (litC form a)]] H (.ret v) H ∧ FoldV o v := by
  have hall := k_all1 (P := P) (fun f hf => h f ((by decide : ∀ f ∈ [205, 254, 273, 251, 235], f ∈ foldFs) f hf)) (a := a) h1 h4 H
  have hc := k_count1 (h 232 (by simp [foldFs])) hu H
  obtain ⟨r, t, e, ht⟩ := k_one (P := P) (fun f hf => h f ((by decide : ∀ f ∈ [130, 131, 255, 236], f ∈ foldFs) f hf)) op form a o hu H
  have h207 := h 207 (by simp [foldFs])
  cases o with
  | none =>
    obtain rfl : t = false := ht
    exact ⟨_, r207_12 h207 hc (un_ne hu) rfl rfl hall rfl rfl (by decide) rfl rfl e rfl, _, _, _, _, _, _, _, rfl, by decide⟩
  | some x =>
    obtain ⟨rfl, rfl⟩ : t = true ∧ r = x := ht
    exact ⟨_, r207_13 h207 hc (un_ne hu) rfl rfl hall rfl rfl (by decide) rfl rfl e rfl (k_num (h 231 (by simp [foldFs])) (h 206 (by simp [foldFs])) tf r H), _, _, _, _, _, _, _, rfl, rfl, rfl⟩
theorem k_fold2 (h : ∀ f ∈ foldFs, P f = none) (op tf tn : Int) (ts : List UInt8) (k : Nat) (cs : List AVal) (f1 a f2 b : Int) (o : Option Int) (H : Heap) (h1 : 1 ≤ f1) (h4 : f1 ≤ 4) (g1 : 1 ≤ f2) (g4 : f2 ≤ 4) (hu : bin op f1 a b = some o) (ha : in32 a = true) (hb : in32 b = true) :
    ∃ v, Ev P 207 [.agg [.int .i64 op, .int .i64 tf, .int .i64 tn, .str ts, .isl false k cs, .int .i32 0, .str [], .isl false 2 (litC f1 a ++ litC f2 b)]] H (.ret v) H ∧ FoldV o v := by
  have hall := k_all2 (P := P) (fun f hf => h f ((by decide : ∀ f ∈ [205, 254, 273, 251, 235], f ∈ foldFs) f hf)) (a := a) (b := b) h1 h4 g1 g4 H
  have hc := k_count2 (h 232 (by simp [foldFs])) hu H
  obtain ⟨r, t, e, ht⟩ := k_two (P := P) (fun f hf => h f (by simp only [foldFs, List.mem_append]; exact .inr hf)) op f1 a f2 b o hu (in32_iff'.1 ha) (in32_iff'.1 hb) H
  have h207 := h 207 (by simp [foldFs])
  cases o with
  | none =>
    obtain rfl : t = false := ht
    exact ⟨_, r207_14 h207 hc (bin_ne hu) rfl rfl hall rfl (by decide) (by decide) rfl rfl (by decide) rfl e rfl, _, _, _, _, _, _, _, rfl, by decide⟩
  | some x =>
    obtain ⟨rfl, rfl⟩ : t = true ∧ r = x := ht
    exact ⟨_, r207_15 h207 hc (bin_ne hu) rfl rfl hall rfl (by decide) (by decide) rfl rfl (by decide) rfl e rfl (k_num (h 231 (by simp [foldFs])) (h 206 (by simp [foldFs])) tf r H), _, _, _, _, _, _, _, rfl, rfl, rfl⟩
end Go.Wf
namespace Go.Wf
open Go Go.Den
variable {P : Prims} {H : Heap}
theorem bodyOf_some' {fn : Func} (hc : fn.body.isSome = true) : fn.body = some (bodyOf fn) := by
  unfold bodyOf
  cases hb : fn.body with
  | none => rw [hb] at hc; cases hc
  | some c => rfl
theorem ev_pure {f : FuncId} {fn : Func} {args : List AVal} {t : Nat} {v : AVal} {l : Facts} {bx' : Bxs} {H₁ : Heap} (hp : P f = none) (hfn : XK.P.funcs[f]? = some fn) (hc : fn.body.isSome = true) (hle : Nat.ble args.length fn.ntmps = true) (hi : Has (envOf args) l)
    (hpu : XK.cfg.pureF f = true) (hres : fn.results.toList = [.tmp t]) (hv : v.isLoc = false) (h : RunEv P f (bodyOf fn) fn.ntmps [] l ⟨[], false⟩ H .ret [] [(t, v)] bx' H₁) : Ev P f args H (.ret v) H₁ := by
  refine ev_body hp ?_
  obtain ⟨x, hx'⟩ := h
  refine ⟨x, fun m hm => ?_⟩
  obtain ⟨s', a1, e1⟩ := hx' m hm { env := envOf args, boxes := [], n := fn.ntmps, defs := [] } ⟨rfl, rfl, rfl, hi⟩
  have ht : s'.env t = v := a1.env.1
  simp only [body, hfn]
  rw [bodyOf_some' hc]
  simp only [hle, cond_true, e1, a1.d, Go.Den.results, hpu, hres, ownRes, ht, hv, cond_false]
theorem decN_small {n : Nat} (h : n < 10) : decN n = [UInt8.ofNat (48 + n)] := by unfold decN; rw [if_pos h]
theorem decN_two {n : Nat} (h : ¬ n < 10) (h2 : n < 100) : decN n = [UInt8.ofNat (48 + n / 10), UInt8.ofNat (48 + n % 10)] := by
  unfold decN; rw [if_neg h, decN_small (by omega)]; rfl
def tab10 : List UInt8 := [48, 49, 50, 51, 52, 53, 54, 55, 56, 57, 97, 98, 99, 100, 101, 102, 103, 104, 105, 106, 107, 108, 109, 110, 111, 112, 113, 114, 115, 116, 117, 118, 119, 120, 121, 122]
def tab100 : List UInt8 := [48, 48, 48, 49, 48, 50, 48, 51, 48, 52, 48, 53, 48, 54, 48, 55, 48, 56, 48, 57, 49, 48, 49, 49, 49, 50, 49, 51, 49, 52, 49, 53, 49, 54, 49, 55, 49, 56, 49, 57, 50, 48, 50, 49, 50, 50, 50, 51, 50, 52, 50, 53, 50, 54, 50, 55, 50, 56, 50, 57, 51, 48, 51, 49, 51, 50, 51, 51, 51, 52, 51, 53, 51, 54, 51, 55, 51, 56, 51, 57, 52, 48, 52, 49, 52, 50, 52, 51, 52, 52, 52, 53, 52, 54, 52, 55, 52, 56, 52, 57, 53, 48, 53, 49, 53, 50, 53, 51, 53, 52, 53, 53, 53, 54, 53, 55, 53, 56, 53, 57, 54, 48, 54, 49, 54, 50, 54, 51, 54, 52, 54, 53, 54, 54, 54, 55, 54, 56, 54, 57, 55, 48, 55, 49, 55, 50, 55, 51, 55, 52, 55, 53, 55, 54, 55, 55, 55, 56, 55, 57, 56, 48, 56, 49, 56, 50, 56, 51, 56, 52, 56, 53, 56, 54, 56, 55, 56, 56, 56, 57, 57, 48, 57, 49, 57, 50, 57, 51, 57, 52, 57, 53, 57, 54, 57, 55, 57, 56, 57, 57]
theorem tab10_at' : ∀ k < 10, ((tab10.take (k + 1)).drop k) = [UInt8.ofNat (48 + k)] := by decide
theorem tab100_at' : ∀ k < 100, ((tab100.take (k * 2 + 2)).drop (k * 2)) = [UInt8.ofNat (48 + k / 10), UInt8.ofNat (48 + k % 10)] := by decide
theorem tab10_at (k : Nat) (h : k < 10) : subStr tab10 (some k) (some (k + 1)) = some (.str [UInt8.ofNat (48 + k)]) := by
  rw [subStr_eq (by omega) (by show k + 1 ≤ 36; omega), tab10_at' k h]
theorem tab100_at (k : Nat) (h : k < 100) : subStr tab100 (some (k * 2)) (some (k * 2 + 2)) = some (.str [UInt8.ofNat (48 + k / 10), UInt8.ofNat (48 + k % 10)]) := by
  rw [subStr_eq (by omega) (by show k * 2 + 2 ≤ 200; omega), tab100_at' k h]
theorem w64 {n : Int} (h1 : -1000 ≤ n) (h2 : n ≤ 1000) : IntKind.wrap .i64 n = n := by
  have e : IntKind.wrap .i64 n = (n + 9223372036854775808) % 18446744073709551616 - 9223372036854775808 := by
    unfold IntKind.wrap
    simp [IntKind.signed, IntKind.bits]
    omega
  rw [e]; omega
theorem wU64 (n : Int) : IntKind.wrap .u64 n = n % 18446744073709551616 := by
  unfold IntKind.wrap
  simp [IntKind.signed, IntKind.bits]
theorem k_small (hp : P 238 = none) (k : Nat) (hk : k < 100) (H : Heap) : Ev P 238 [.int .i64 (k : Int)] H (.ret (.str (decN k))) H := by
  by_cases h : k < 10
  · rw [decN_small h]
    exact r238_0 hp (by omega) (w64 (by omega) (by omega)) (by rw [lowB_nat (k := k) rfl, lowB_nat (k := k + 1) (by omega)]; exact tab10_at k h)
  · rw [decN_two h hk]
    exact r238_1 hp (by omega) (w64 (by omega) (by omega)) (w64 (by omega) (by omega)) (w64 (by omega) (by omega)) (by rw [lowB_nat (k := k * 2) (by omega), lowB_nat (k := k * 2 + 2) (by omega)]; exact tab100_at k hk)
theorem cells_bytes : ∀ l : List UInt8, cellsOfBytes l = bytesV l
  | [] => rfl
  | a :: l => by simp only [cellsOfBytes, cells_bytes l]; rfl
theorem bytesV_app' (a b : List UInt8) : bytesV a ++ bytesV b = bytesV (a ++ b) := by simp [bytesV]
def appF : List Nat := [134, 179, 208, 238]
theorem k_uint (h : ∀ f ∈ appF, P f = none) {v : AVal} {l : List UInt8} (hv : OutV v l) (k : Nat) (hk : k < 100) (hl : l.length + (decN k).length ≤ 1000000) (H : Heap) : Ev P 208 [v, .int .u64 (k : Int), .int .i64 10] H (.ret (.isl true (l ++ decN k).length (bytesV (l ++ decN k)))) H := by
  have h208 := h 208 (by simp [appF])
  have hm : Go.Den.most ≥ 1000000 := by unfold Go.Den.most; omega
  have sm := k_small (h 238 (by simp [appF])) k hk H
  have hne : ∃ m, (decN k).length = m + 1 := by
    by_cases h : k < 10
    · rw [decN_small h]; exact ⟨0, rfl⟩
    · rw [decN_two h hk]; exact ⟨1, rfl⟩
  obtain ⟨m, hm1⟩ := hne
  rcases hv with ⟨rfl, rfl⟩ | rfl
  · have e : appK 1 .nils (decN k).length (cellsOfBytes (decN k)) = some (.isl true ([] ++ decN k).length (bytesV ([] ++ decN k))) := by
      rw [hm1, cells_bytes]
      have : Nat.ble (m + 1) Go.Den.most = true := Nat.ble_eq_true_of_le (by simp at hl; omega)
      simp only [appK, this, cond_true, List.nil_append, hm1]
    exact ev_pure (l := [(0, .nils), (1, .int .u64 (k : Int)), (2, .int .i64 10)]) h208 Go.Proofs.Tryz.func208 (by kernel_rfl) (by kernel_rfl) ⟨rfl, rfl, rfl, trivial⟩ (by kernel_rfl) rfl rfl (ca208_0 (by omega) (w64 (by omega) (by omega)) sm e)
  · have e : appK 1 (.isl true l.length (bytesV l)) (decN k).length (cellsOfBytes (decN k)) = some (.isl true (l ++ decN k).length (bytesV (l ++ decN k))) := by
      have q := app_own (n := l.length) (size := 1) (k := m) (l := bytesV l) (cs := bytesV (decN k)) (by simp [bytesV]) (by omega)
      rw [hm1, cells_bytes, List.length_append, hm1, ← bytesV_app']
      exact q
    exact ev_pure (l := [(0, .isl true l.length (bytesV l)), (1, .int .u64 (k : Int)), (2, .int .i64 10)]) h208 Go.Proofs.Tryz.func208 (by kernel_rfl) (by kernel_rfl) ⟨rfl, rfl, rfl, trivial⟩ (by kernel_rfl) rfl rfl (pa208_0 (by omega) (w64 (by omega) (by omega)) sm e)
structure Big (P : Prims) : Prop where
  nd : ∀ (u : Nat) H, 1 ≤ u → u < 18446744073709551616 → Ev P 239 [.int .u64 (u : Int)] H (.ret (.int .i64 (Lib.nDigits u : Int))) H
  fb : ∀ (b n : Nat) (l : List AVal) (u : Nat) (H : Heap), H.objs[b]? = some (.cells l) → u < 18446744073709551616 → n = Lib.nDigits u → n ≤ l.length → (l.take n).all isZ8 = true →
    Ev P 240 [.msl b 0 n 1, .int .u64 (u : Int)] H (.ret (.tup [])) (H.setRow b (putAt l 0 (cellsOfBytes (Lib.decDigits u))))
theorem decDigits_decN (u : Nat) : Lib.decDigits u = decN u := by
  induction u using Nat.strongRecOn with
  | _ u ih =>
    unfold Lib.decDigits decN
    by_cases h : u < 10
    · rw [dif_pos h, if_pos h]
    · rw [dif_neg h, if_neg h, ih (u / 10) (by omega)]
theorem setRow_push (H : Heap) (l l' : List AVal) : (H.push (.cells l)).setRow H.objs.length l' = H.push (.cells l') := by
  simp [Heap.setRow, Heap.push]
abbrev Z24 : List AVal := [.int .u8 0, .int .u8 0, .int .u8 0, .int .u8 0, .int .u8 0, .int .u8 0, .int .u8 0, .int .u8 0, .int .u8 0, .int .u8 0, .int .u8 0, .int .u8 0, .int .u8 0, .int .u8 0, .int .u8 0, .int .u8 0, .int .u8 0, .int .u8 0, .int .u8 0, .int .u8 0, .int .u8 0, .int .u8 0, .int .u8 0, .int .u8 0]
theorem take_putAt (z d : List AVal) (h : d.length ≤ z.length) : (putAt z 0 d).take d.length = d := by
  apply List.ext_getElem?
  intro j
  rw [List.getElem?_take, putAt_get _ _ _ _ (by omega)]
  by_cases hj : j < d.length
  · rw [if_pos hj, if_pos ⟨Nat.zero_le _, by omega⟩]; simp
  · rw [if_neg hj, List.getElem?_eq_none (by omega)]
theorem z24_all : ∀ n ≤ 24, (Z24.take n).all isZ8 = true := by decide
theorem k_big (h208 : P 208 = none) (hB : Big P) {v : AVal} {l : List UInt8} (hv : OutV v l) (k : Nat) (hk : 100 ≤ k) (hk2 : k < 18446744073709551616) (hl : l.length + (decN k).length ≤ 1000000) (H : Heap) :
    Ev P 208 [v, .int .u64 (k : Int), .int .i64 10] H (.ret (.isl true (l ++ decN k).length (bytesV (l ++ decN k)))) (H.push (.cells (putAt Z24 0 (bytesV (decN k))))) := by
  have hn : Lib.nDigits k ≤ 20 := by
    have := Lib.numDigits_eq k (by omega) hk2
    split at this <;> omega
  have hd : (decN k).length = Lib.nDigits k := by rw [← decDigits_decN, Lib.decDigits_length]
  have e1 := hB.nd k (H.push (.cells Z24)) (by omega) hk2
  have e3 := hB.fb H.objs.length (Lib.nDigits k) Z24 k (H.push (.cells Z24)) (push_new _ _) hk2 rfl (by show _ ≤ 24; omega) (z24_all _ (by omega))
  rw [setRow_push, decDigits_decN, cells_bytes] at e3
  have lb : lowB (Lib.nDigits k : Int) = some (Lib.nDigits k) := lowB_nat rfl
  have s1 : subP 1 24 (H.push (.cells Z24)) H.objs.length 0 (some 0) (lowB (Lib.nDigits k : Int)) = some (.msl H.objs.length 0 (Lib.nDigits k) 1) := by
    rw [lb]; exact subP_eq (push_new _ _) (Nat.zero_le _) (by omega) (by show 0 + 24 * 1 ≤ 24; omega)
  have pl : (putAt Z24 0 (bytesV (decN k))).length = 24 := by rw [putAt_length]; rfl
  have s2 : subP 1 24 (H.push (.cells (putAt Z24 0 (bytesV (decN k))))) H.objs.length 0 (some 0) (lowB (Lib.nDigits k : Int)) = some (.msl H.objs.length 0 (Lib.nDigits k) 1) := by
    rw [lb]; exact subP_eq (push_new _ _) (Nat.zero_le _) (by omega) (by rw [pl]; omega)
  have bl : (bytesV (decN k)).length = Lib.nDigits k := by simp [bytesV, hd]
  have ad : addedCells (H.push (.cells (putAt Z24 0 (bytesV (decN k))))) 1 (.msl H.objs.length 0 (Lib.nDigits k) 1) = some (Lib.nDigits k, bytesV (decN k)) := by
    unfold addedCells
    simp only [push_new]
    have : Nat.ble (0 + Lib.nDigits k * 1) (putAt Z24 0 (bytesV (decN k))).length = true := Nat.ble_eq_true_of_le (by rw [pl]; omega)
    rw [this]
    have t := take_putAt Z24 (bytesV (decN k)) (by rw [bl]; show _ ≤ 24; omega)
    rw [bl] at t
    simp only [Nat.beq_refl, Bool.and_self, cond_true, List.drop_zero, Nat.mul_one, t]
    simp [bytesV, AVal.strip]
  obtain ⟨m, hm⟩ : ∃ m, Lib.nDigits k = m + 1 := ⟨Lib.nDigits k - 1, by rw [Lib.nDigits_big (by omega)]; omega⟩
  have hmost : Go.Den.most ≥ 1000000 := by unfold Go.Den.most; omega
  rcases hv with ⟨rfl, rfl⟩ | rfl
  · refine ev_pure (l := [(0, .nils), (1, .int .u64 (k : Int)), (2, .int .i64 10)]) h208 Go.Proofs.Tryz.func208 (by kernel_rfl) (by kernel_rfl) ⟨rfl, rfl, rfl, trivial⟩ (by kernel_rfl) rfl rfl (ca208_2 (by omega) e1 s1 e3 s2 ?_)
    rw [ad]
    have : Nat.ble (m + 1) Go.Den.most = true := Nat.ble_eq_true_of_le (by simp at hl; omega)
    simp only [appK, hm, this, cond_true, List.nil_append, hd]
  · refine ev_pure (l := [(0, .isl true l.length (bytesV l)), (1, .int .u64 (k : Int)), (2, .int .i64 10)]) h208 Go.Proofs.Tryz.func208 (by kernel_rfl) (by kernel_rfl) ⟨rfl, rfl, rfl, trivial⟩ (by kernel_rfl) rfl rfl (pa208_1 (by omega) e1 s1 e3 s2 ?_)
    rw [ad]
    have q := app_own (n := l.length) (size := 1) (k := m) (l := bytesV l) (cs := bytesV (decN k)) (by simp [bytesV]) (by omega)
    rw [List.length_append, hd, hm, ← bytesV_app']
    exact q
theorem k_app (h : ∀ f ∈ appF, P f = none) (hB : Big P) (v : AVal) (l : List UInt8) (n : Int) (H : Heap) (hv : OutV v l) (hn : ioOK n = true) (hl : l.length + (decI n).length ≤ most) : ∃ v' H', Ev P 134 [v, .int .i64 n, .int .i64 10] H (.ret v') H' ∧ OutV v' (l ++ decI n) ∧ Scr H H' := by
  have hm : Go.Wf.most = 1000000 := rfl
  have hm' : Go.Den.most ≥ 1000000 := by unfold Go.Den.most; omega
  have h208 := h 208 (by simp [appF])
  have h179 := h 179 (by simp [appF])
  have h134 := h 134 (by simp [appF])
  simp only [ioOK, Bool.and_eq_true, decide_eq_true_eq] at hn
  have uint : ∀ {v : AVal} {l : List UInt8}, OutV v l → l.length + (decN n.natAbs).length ≤ 1000000 → ∃ H', Ev P 208 [v, .int .u64 (n.natAbs : Int), .int .i64 10] H (.ret (.isl true (l ++ decN n.natAbs).length (bytesV (l ++ decN n.natAbs)))) H' ∧ Scr H H' := by
    intro v l hv hl
    by_cases hk : n.natAbs < 100
    · exact ⟨H, k_uint h hv n.natAbs hk hl H, .inl rfl⟩
    · exact ⟨_, k_big h208 hB hv n.natAbs (by omega) (by omega) hl H, .inr ⟨_, rfl⟩⟩
  have e179 : ∃ H', Ev P 179 [v, .int .i64 n, .int .i64 10] H (.ret (.isl true (l ++ decI n).length (bytesV (l ++ decI n)))) H' ∧ Scr H H' := by
    by_cases h0 : n < 0
    · have e : decI n = 45 :: decN n.natAbs := by unfold decI; rw [if_pos h0]
      rw [e] at hl ⊢
      have w1 : IntKind.wrap .u64 n = n + 18446744073709551616 := by rw [wU64]; omega
      have w2 : IntKind.wrap .u64 (0 - (n + 18446744073709551616)) = ((n.natAbs : Nat) : Int) := by rw [wU64]; omega
      have q : OutV (.isl true (l.length + 1) (bytesV l ++ [.int .u8 45])) (l ++ [45]) := .inr (by simp [bytesV])
      obtain ⟨H', u, sc⟩ := uint q (by simp at hl ⊢; omega)
      have e2 : l ++ 45 :: decN n.natAbs = (l ++ [45]) ++ decN n.natAbs := by simp
      rw [e2]
      refine ⟨H', ?_, sc⟩
      rcases hv with ⟨rfl, rfl⟩ | rfl
      · exact ev_pure (l := [(0, .nils), (1, .int .i64 n), (2, .int .i64 10)]) h179 Go.Proofs.Tryz.func179 (by kernel_rfl) (by kernel_rfl) ⟨rfl, rfl, rfl, trivial⟩ (by kernel_rfl) rfl rfl (ca179_0 w1 h0 w2 u)
      · exact ev_pure (l := [(0, .isl true l.length (bytesV l)), (1, .int .i64 n), (2, .int .i64 10)]) h179 Go.Proofs.Tryz.func179 (by kernel_rfl) (by kernel_rfl) ⟨rfl, rfl, rfl, trivial⟩ (by kernel_rfl) rfl rfl (pa179_0 w1 h0 (by simp [bytesV]) (by simp at hl; omega) w2 u)
    · have e : decI n = decN n.natAbs := by unfold decI; rw [if_neg h0]
      rw [e] at hl ⊢
      have w1 : IntKind.wrap .u64 n = ((n.natAbs : Nat) : Int) := by rw [wU64]; omega
      obtain ⟨H', u, sc⟩ := uint hv (by omega)
      refine ⟨H', ?_, sc⟩
      rcases hv with ⟨rfl, rfl⟩ | rfl
      · exact ev_pure (l := [(0, .nils), (1, .int .i64 n), (2, .int .i64 10)]) h179 Go.Proofs.Tryz.func179 (by kernel_rfl) (by kernel_rfl) ⟨rfl, rfl, rfl, trivial⟩ (by kernel_rfl) rfl rfl (ca179_1 w1 h0 u)
      · exact ev_pure (l := [(0, .isl true l.length (bytesV l)), (1, .int .i64 n), (2, .int .i64 10)]) h179 Go.Proofs.Tryz.func179 (by kernel_rfl) (by kernel_rfl) ⟨rfl, rfl, rfl, trivial⟩ (by kernel_rfl) rfl rfl (pa179_1 w1 h0 u)
  obtain ⟨H', e179, sc⟩ := e179
  refine ⟨_, H', ?_, .inr rfl, sc⟩
  rcases hv with ⟨rfl, rfl⟩ | rfl
  · exact ev_pure (l := [(0, .nils), (1, .int .i64 n), (2, .int .i64 10)]) h134 Go.Proofs.Tryz.func134 (by kernel_rfl) (by kernel_rfl) ⟨rfl, rfl, rfl, trivial⟩ (by kernel_rfl) rfl rfl (ca134_0 e179)
  · exact ev_pure (l := [(0, .isl true l.length (bytesV l)), (1, .int .i64 n), (2, .int .i64 10)]) h134 Go.Proofs.Tryz.func134 (by kernel_rfl) (by kernel_rfl) ⟨rfl, rfl, rfl, trivial⟩ (by kernel_rfl) rfl rfl (pa134_0 e179)
def isPrim0 (f : Nat) : Bool := f == 239 || f == 240 || f == 37 || f == 38 || f == 171 || f == 28 || f == 13 || f == 22 || f == 24 || f == 36
theorem isPrim0_le {f : Nat} (h : isPrim f = false) : isPrim0 f = false := by
  simp only [isPrim, isPrim0, Bool.or_eq_false_iff] at h ⊢
  simp [h]
theorem pk_of (pl : ∀ f, isPrim0 f = false → P f = none) (hB : Big P) (has : ∀ s H, Ev P 171 [.str s, .str [46]] H (.ret (.bool (dot s))) H) (clone : ∀ v l H, l.length ≤ most → InW v l → Ev P 28 [v] H (.ret (.isl false l.length (bytesV l))) H) : PK P where
  clone := clone
  pl := fun f hf => pl f (isPrim0_le hf)
  has := has
  app := fun v l n H hv hn hl => k_app (fun f hf => pl f (by revert f; decide)) hB v l n H hv hn hl
  fold1 := fun op tf tn ts k cs form a o H h1 h4 hu _ => k_fold1 (fun f hf => pl f (by revert f; decide)) op tf tn ts k cs form a o H h1 h4 hu
  fold2 := fun op tf tn ts k cs f1 a f2 b o H h1 h4 g1 g4 hu ha hb => k_fold2 (fun f hf => pl f (by revert f; decide)) op tf tn ts k cs f1 a f2 b o H h1 h4 g1 g4 hu ha hb
  elem := k_elem (pl 178 rfl)
  num := k_num (pl 231 rfl) (pl 206 rfl)
  isC := k_isC (pl 205 rfl)
  span := fun a b H _ _ => k_span (pl 178 rfl) (pl 204 rfl) a b H
end Go.Wf
namespace Go.Proofs
open Go.Shelf Go.RowKit Go.Lib
set_option maxHeartbeats 2000000 in
set_option maxRecDepth 100000 in
theorem Tryz.slices_Clone_zero (a : Addr) (c : Nat) (w : World) :
    Calls Tryz.prog 28 #[.slice (some a) 0 c] w fun e w' => ∃ v', e = .returned v' ∧ w'.ownsRow w.heap.size 5 1 v' 0 [] ∧ Below w.heap.size w w' := by
  have t23 : Tryz.prog.underlying 23 = some (.slice 5) := by kernel_rfl
  obtain ⟨i0, hi, hz0, hz1, hz2⟩ := info_parts (P := Tryz.prog) (e := 5) (z := .int .u8 0) (size := 1) (bytes := 1) (by kernel_rfl)
  have q23 : ∀ (w : World) (a : Option Addr) (n c n' c' : Nat), (binOp .eql 23 (.slice a n c) (.slice none n' c')).run Tryz.prog w = .ok (.bool a.isNone) w := fun w a n c n' c' => Lib.run_eql_slice_nil w _ _ a n c n' c' t23
  have u23 : ∀ w, Sem.run Tryz.prog (underlying 23) w = .ok (TypeDesc.slice 5) w := run_underlying t23
  go_enter Tryz.func28, Tryz.ntmps28
  go_wp2_with (at_builtin; refine wpList_append_own _ rfl _ _ 23 rfl w.heap.size 5 i0 (.int .u8 0) 1 1 t23 hi hz0 hz1 hz2 rfl (by decide) _ _ _ rfl (World.ownsRow_made w #[] 0 (Nat.le_refl _) (Nat.zero_le _) rfl) a 0 c [] rfl rfl (by intro j u hj; simp at hj) (by intro u hu; cases hu) (by unfold maxLen; omega) (by omega) (by simp) ?_)
  intro v' w1 hown hgrow hnil
  go_wp2
  go_ret
  exact ⟨v', rfl, by simpa using hown, ((Below.refl _ w).alloc (Nat.le_refl _) _).grown hgrow (by simp) (by intro k hk; simp [Value.ownBlock] at hk; omega)⟩
set_option maxHeartbeats 1000000 in
set_option maxRecDepth 100000 in
theorem Tryz.slices_Clone_nil (n c : Nat) (w : World) :
    Calls Tryz.prog 28 #[.slice none n c] w fun e w' => e = .returned (.slice none 0 0) ∧ w' = w := by
  have t23 : Tryz.prog.underlying 23 = some (.slice 5) := by kernel_rfl
  have q23 : ∀ (w : World) (a : Option Addr) (n c n' c' : Nat), (binOp .eql 23 (.slice a n c) (.slice none n' c')).run Tryz.prog w = .ok (.bool a.isNone) w := fun w a n c n' c' => Lib.run_eql_slice_nil w _ _ a n c n' c' t23
  go_enter Tryz.func28, Tryz.ntmps28
  go_wp2
  go_ret
  exact ⟨rfl, rfl⟩
end Go.Proofs
namespace Go.Den
open Go Go.Proofs
def primK : List AVal → Heap → Option (ARes × Heap) := fun args h => match args with
  | [.nils] => some (.ret (.isl false 0 []), h)
  | [.isl false n cs] => cond (Nat.beq cs.length n && Nat.ble n most) (some (.ret (.isl false n cs), h)) none
  | _ => none
theorem empty_rel {E : Emb} {hp : HP} (a : Option Addr) (cap : Nat) : VRel E hp (.isl false 0 []) (.slice a 0 cap) :=
  .isl false 0 [] a cap 0 0 (fun _ => .bool false) (Nat.zero_le _) ⟨fun _ => rfl, fun _ => rfl⟩ (fun v hv => by cases hv) (fun h => (h rfl).elim) (fun j hj => by cases hj) (fun j v hj => by simp at hj)
theorem Ext.below {E : Emb} {w w' : World} {h : Heap} (hH : HRel E w.heap h) (hb : RowKit.Below w.heap.size w w') : Ext E w E w' ∧ HRel E w'.heap h := by
  have g : Agree E w.heap E w'.heap := ⟨fun _ _ h => h, fun _ _ => rfl, fun _ _ _ => rfl, fun B hB => hb.block B hB, hb.size⟩
  exact ⟨g.ext hb.os hb.tape hb.output, hH.keep g rfl⟩
theorem clone_den {n : Nat} {v : AVal} {cs : List AVal} (hl : (v :: cs).length = n) (hn : n ≤ most) (H : Heap) : Ev primsC 28 [.isl false n (v :: cs)] H (.ret (.isl false n (v :: cs))) H := by
  refine c28_0 rfl ?_
  subst hl
  have e : Nat.beq (v :: cs).length ((v :: cs).length * 1) = true := by simp
  have e2 : Nat.ble (0 + (cs.length + 1)) most = true := Nat.ble_eq_true_of_le (by simp at hn; omega)
  simp only [e, cond_true, appK, List.length_cons, e2, Bool.true_and]
  rw [Nat.zero_add] at e2
  simp [e2]
theorem primK_sim (args : List AVal) (h : Heap) (r : ARes) (h' : Heap) (hr : primK args h = some (r, h')) (E : Emb) (w : World) (cargs : Array Value) (hH : HRel E w.heap h) (hA : ArgsRel E w.heap args cargs) : Calls Tryz.prog 28 cargs w (CallPost E w h' r) := by
  have one : ∀ v, args = [v] → ∃ x, cargs = #[x] ∧ VRel E w.heap v x := fun v e => by
    subst e
    obtain ⟨hs, hv⟩ := hA
    obtain ⟨x, rfl⟩ : ∃ x, cargs = #[x] := by
      rcases cargs with ⟨l⟩
      match l, hs with
      | [x], _ => exact ⟨x, rfl⟩
    exact ⟨x, rfl, (hv 0 v x rfl rfl).1⟩
  unfold primK at hr
  split at hr
  · cases hr
    obtain ⟨x, rfl, hx⟩ := one _ rfl
    cases hx
    refine (Tryz.slices_Clone_nil 0 0 w).mono ?_
    rintro e w' ⟨rfl, rfl⟩
    exact ⟨E, Ext.refl _ _, hH, empty_rel _ _, .of_strip rfl⟩
  · rename_i n cs
    cases hc : (Nat.beq cs.length n && Nat.ble n most) with
    | false => rw [hc] at hr; cases hr
    | true =>
      rw [hc] at hr
      cases hr
      simp only [Bool.and_eq_true] at hc
      have hl := Nat.eq_of_beq_eq_true hc.1
      have hn := Nat.le_of_ble_eq_true hc.2
      cases cs with
      | nil =>
        subst hl
        obtain ⟨x, rfl, hx⟩ := one _ rfl
        cases hx with
        | isl _ _ _ a cap B o u hn hn0 ha hb hc hv =>
          cases a with
          | none =>
            refine (Tryz.slices_Clone_nil _ cap w).mono fun e w' hq => ?_
            obtain ⟨rfl, rfl⟩ := hq
            exact ⟨E, Ext.refl _ _, hH, empty_rel _ _, .of_strip rfl⟩
          | some a =>
            refine (Tryz.slices_Clone_zero a cap w).mono fun e w' hq => ?_
            obtain ⟨v', rfl, hown, hbel⟩ := hq
            obtain ⟨h1, h2⟩ := Ext.below hH hbel
            rcases hown.2 with ⟨rfl, _⟩ | ⟨g, cap', cur, rfl, _⟩
            · exact ⟨E, h1, h2, empty_rel _ _, .of_strip rfl⟩
            · exact ⟨E, h1, h2, empty_rel _ _, .of_strip rfl⟩
      | cons v cs =>
        obtain ⟨k, hk⟩ := clone_den hl hn h
        exact den_sound (X := XK) mixed plainNames draws_ok primsC_sim k 28 _ h _ h (hk k (Nat.le_refl _)) E w cargs hH hA
  · cases hr
noncomputable def primsB : Prims := fun f => cond (Nat.beq f 28) (some primK) (cond (Nat.beq f 239) (some primN) (cond (Nat.beq f 240) (some primF) (primsC f)))
theorem primsB_sim : PrimSim Tryz.prog primsB := by
  intro f p hp args h r h' hr E w cargs hH hargs
  unfold primsB at hp
  cases hk : Nat.beq f 28 with
  | true =>
    rw [hk] at hp
    obtain rfl : f = 28 := Nat.eq_of_beq_eq_true hk
    cases hp
    exact primK_sim args h r h' hr E w cargs hH hargs
  | false =>
    rw [hk, cond_false] at hp
    cases hn : Nat.beq f 239 with
    | true =>
      rw [hn] at hp
      obtain rfl : f = 239 := Nat.eq_of_beq_eq_true hn
      cases hp
      exact primN_sim args h r h' hr E w cargs hH hargs
    | false =>
      rw [hn, cond_false] at hp
      cases hf : Nat.beq f 240 with
      | true =>
        rw [hf] at hp
        obtain rfl : f = 240 := Nat.eq_of_beq_eq_true hf
        cases hp
        exact primF_sim args h r h' hr E w cargs hH hargs
      | false =>
        rw [hf] at hp
        exact primsC_sim f p hp args h r h' hr E w cargs hH hargs
noncomputable def primsS (A : List Ans) : Prims := fun f => cond (hasF f A) (some (primA A f)) (primsB f)
theorem primsS_sim {A : List Ans} (hA : ∀ a ∈ A, AnsOK Tryz.prog a) : PrimSim Tryz.prog (primsS A) := by
  intro f p hp args h r h' hr E w cargs hH hargs
  unfold primsS at hp
  cases hf : hasF f A with
  | true =>
    rw [hf] at hp
    exact primsA_sim hA f p (by unfold primsA; rw [hf]; exact hp) args h r h' hr E w cargs hH hargs
  | false =>
    rw [hf, cond_false] at hp
    exact primsB_sim f p hp args h r h' hr E w cargs hH hargs
theorem ev_calls {A : List Ans} (hA : ∀ a ∈ A, AnsOK Tryz.prog a) {f : FuncId} {args : List AVal} {h h' : Heap} {r : ARes} (e : Ev (primsS A) f args h r h') (E : Emb) (w : World) (cargs : Array Value) (hH : HRel E w.heap h) (hargs : ArgsRel E w.heap args cargs) :
    Calls Tryz.prog f cargs w (CallPost E w h' r) := by
  obtain ⟨k, hk⟩ := e
  exact den_sound (X := XK) mixed plainNames draws_ok (primsS_sim hA) k f args h r h' (hk k (Nat.le_refl _)) E w cargs hH hargs
end Go.Den
namespace Go.Wf
open Go Go.Den
theorem hasB_any (c : UInt8) : ∀ l : List UInt8, hasB c l = l.any (· == c)
  | [] => rfl
  | b :: l => by
    show cb (Nat.beq b.toNat c.toNat) true (hasB c l) = _
    rw [hasB_any c l, cb_eq, List.any_cons]
    by_cases h : b = c
    · subst h; simp
    · have h1 : Nat.beq b.toNat c.toNat = false := by
        cases e : Nat.beq b.toNat c.toNat with
        | false => rfl
        | true => exact (h (UInt8.toNat_inj.1 (Nat.eq_of_beq_eq_true e))).elim
      have h2 : (b == c) = false := by simpa using h
      rw [h1, h2]; rfl
theorem primsB_none {f : Nat} (h : isPrim0 f = false) : primsB f = none := by
  simp only [isPrim0, Bool.or_eq_false_iff] at h
  have b : ∀ n : Nat, (f == n) = false → Nat.beq f n = false := fun n e => by
    cases q : Nat.beq f n with
    | false => rfl
    | true => rw [Nat.eq_of_beq_eq_true q] at e; simp at e
  unfold primsB primsC
  rw [b 28 h.1.1.1.1.2, b 239 h.1.1.1.1.1.1.1.1.1, b 240 h.1.1.1.1.1.1.1.1.2, b 171 h.1.1.1.1.1.2]
  rfl
theorem pk_B {P : Prims} (pl : ∀ f, isPrim0 f = false → P f = none) (h28 : P 28 = some primK) (h239 : P 239 = some primN) (h240 : P 240 = some primF) (h171 : P 171 = some primC) : PK P := by
  refine pk_of pl ⟨fun u H h1 h2 => ev_prim h239 ?_, fun b n l u H hb hu hn hl hz => ev_prim h240 ?_⟩ (fun s H => ev_prim h171 ?_) (fun v l H hl hv => ev_prim h28 ?_)
  · have e1 : decide ((1 : Int) ≤ (u : Int)) = true := decide_eq_true (by omega)
    have e2 : decide ((u : Int) < 18446744073709551616) = true := decide_eq_true (by omega)
    simp only [primN, e1, e2, Bool.and_self, cond_true, Int.toNat_natCast]
  · have e1 : decide ((0 : Int) ≤ (u : Int)) = true := decide_eq_true (by omega)
    have e2 : decide ((u : Int) < 18446744073709551616) = true := decide_eq_true (by omega)
    have e3 : Nat.beq n (Lib.nDigits u) = true := by subst hn; simp
    have e4 : Nat.ble (0 + n) l.length = true := Nat.ble_eq_true_of_le (by omega)
    simp only [primF, hb, e1, e2, e3, e4, Int.toNat_natCast, List.drop_zero, hz, Bool.and_self, cond_true]
    rfl
  · show some (ARes.ret (.bool (hasB 46 s)), H) = _
    rw [hasB_any]; rfl
  · cases hv
    · have e1 : Nat.beq (bytesV l).length l.length = true := by simp [bytesV]
      have e2 : Nat.ble l.length Go.Den.most = true := Nat.ble_eq_true_of_le (by unfold Go.Den.most; unfold Go.Wf.most at hl; omega)
      simp only [primK, e1, e2, Bool.and_self, cond_true]
theorem pk_S {A : List Ans} (hA : ∀ f, f ≠ 13 → f ≠ 22 → f ≠ 24 → f ≠ 36 → hasF f A = false) : PK (primsS A) := by
  have hn : ∀ f, hasF f A = false → primsS A f = primsB f := fun f h => by unfold primsS; rw [h]; rfl
  refine pk_B (fun f h => ?_) ?_ ?_ ?_ ?_
  · have h' := h
    simp only [isPrim0, Bool.or_eq_false_iff, beq_eq_false_iff_ne] at h'
    rw [hn f (hA f h'.1.1.1.2 h'.1.1.2 h'.1.2 h'.2)]
    exact primsB_none h
  all_goals (rw [hn _ (hA _ (by decide) (by decide) (by decide) (by decide))]; rfl)
end Go.Wf
namespace Go.Den
open Go
mutual
def norm : AVal → AVal
  | .nils => .isl false 0 []
  | .isl own n cs => .isl own n (normL cs)
  | .agg cs => .agg (normL cs)
  | .tup cs => .tup (normL cs)
  | v => v
def normL : List AVal → List AVal
  | [] => []
  | v :: l => norm v :: normL l
end
theorem normL_map : ∀ l, normL l = l.map norm
  | [] => rfl
  | v :: l => by simp only [normL, normL_map l, List.map_cons]
theorem norm_atom (v : AVal) (h : v.atom = true ∧ v.strip = v) : (norm v).atom = true ∧ (norm v).strip = norm v := by
  cases v <;> first | exact h | (simp [norm, AVal.atom, AVal.strip] at h ⊢; done) | (simp [norm, AVal.atom, AVal.strip] at h ⊢; exact h)
theorem norm_atom1 (v : AVal) (h : v.atom = true) : (norm v).atom = true := by
  cases v <;> first | exact h | (simp [norm, AVal.atom] at h ⊢; done) | (simp [norm, AVal.atom] at h ⊢; exact h)
theorem VRel.norm {E : Emb} {hp : HP} {v : AVal} {x : Value} (h : VRel E hp v x) : VRel E hp (norm v) x := by
  induction h with
  | nils => exact empty_rel none 0
  | isl own n cs a cap B o u hn hn0 ha hb hc hv ih =>
    have el : (normL cs).length = cs.length := by rw [normL_map]; simp
    refine .isl own n (normL cs) a cap B o u hn ?_ ?_ ?_ ?_ ?_
    · rw [normL_map]; simpa using hn0
    · intro v hv'
      rw [normL_map] at hv'
      obtain ⟨w, hw, rfl⟩ := List.mem_map.1 hv'
      exact norm_atom w (ha w hw)
    · intro hne; exact hb (fun e => hne (by rw [e]; rfl))
    · intro j hj; exact hc j (by omega)
    · intro j v hj
      rw [normL_map, List.getElem?_map] at hj
      cases hq : cs[j]? with
      | none => rw [hq] at hj; cases hj
      | some w => rw [hq] at hj; cases hj; exact ih j w hq
  | agg cs us hl ha hv ih =>
    refine .agg (normL cs) us (by rw [normL_map]; simpa using hl) ?_ ?_
    · intro v hv'
      rw [normL_map] at hv'
      obtain ⟨w, hw, rfl⟩ := List.mem_map.1 hv'
      exact norm_atom1 w (ha w hw)
    · intro j v x h1 h2
      rw [normL_map, List.getElem?_map] at h1
      cases hq : cs[j]? with
      | none => rw [hq] at h1; cases h1
      | some w => rw [hq] at h1; cases h1; exact ih j w x hq h2
  | tup vs us hl hv ih =>
    refine .tup (normL vs) us (by rw [normL_map]; simpa using hl) ?_
    intro j v x h1 h2
    rw [normL_map, List.getElem?_map] at h1
    cases hq : vs[j]? with
    | none => rw [hq] at h1; cases h1
    | some w => rw [hq] at h1; cases h1; exact ih j w x hq h2
  | bool b => exact .bool b
  | int k n => exact .int k n
  | str s => exact .str s
  | nilp => exact .nilp
  | ptr b off B h => exact .ptr b off B h
  | ept cs off B o u ha hc hv ih => exact .ept cs off B o u ha hc hv
  | msl b off n size a cap B c e z hn hb => exact .msl b off n size a cap B c e z hn hb
  | nilm => exact .nilm
  | map b B h => exact .map b B h
  | nilf => exact .nilf
  | fn f caps us hl hv ha ih => exact .fn f caps us hl hv ha
  | nili => exact .nili
  | iface t v x h ih => exact .iface t v x h
theorem ans_norm {P : Program} {a : Ans} (h : AnsOK P a) {v' : AVal} (hv : norm a.v = v') (hs : v'.stripA = v') : AnsOK P ⟨a.f, a.args, v'⟩ := by
  intro E w cargs hH hargs
  refine (h E w cargs hH hargs).mono ?_
  rintro e w' ⟨E', hx, hH', he⟩
  refine ⟨E', hx, hH', ?_⟩
  cases e with
  | returned x =>
    subst hv
    exact ⟨he.1.norm, .of_strip hs⟩
  | _ => exact he.elim
end Go.Den
namespace Go.Wf
open Go Go.Den
variable {P : Prims} {C : EC} {rows : List Nat} {s : St} {H : Heap}
theorem RE.scratch (h : RE C rows s H) (es : List (List UInt8 × AVal)) : Post C rows s H rows s (H.push (.amap es)) := h.scratchO _
theorem setMap_push (H : Heap) (es es' : List (List UInt8 × AVal)) : (H.push (.amap es)).setMap H.objs.length es' = H.push (.amap es') := by
  simp [Heap.setMap, Heap.push]
theorem fieldsOf_nil (s : Nm) : fieldsOf [] s = none := rfl
theorem words_nil (k : Nat) (name : Nm) : words [] k (.mk 8 0 name []) = none := by
  cases k with
  | zero => rfl
  | succ k =>
    unfold words
    by_cases h : rightT (k + 1) (.mk 8 0 name []) = true
    · rw [if_pos h]; rfl
    · rw [if_neg h]
theorem recK_nil (hp : P 203 = none) (hR : C.E.R = []) : RecK P C where
  recd := fun name n rows s H hn => by
    unfold recW at hn
    rw [hR, words_nil] at hn
    cases hn
  off := fun rec name n rows s H hn => by
    unfold offW at hn
    rw [hR, fieldsOf_nil] at hn
    cases hn
  ext := fun a b t rows s H ht h => by
    rw [hR] at ht
    have hm1 : mget (H.push (.amap [])) H.objs.length a = some none := by rw [mget_of (push_new _ _)]; rfl
    by_cases e : a = b
    · have ht' : t = true := by
        have : extendsR [] 1 a b = some true := by simp [extendsR, e]
        have q := ht.symm.trans this
        cases q; rfl
      subst ht'
      exact ⟨_, l203_1 hp (loop_exit (by simp) (b203_0_5 hm1 e)), h.scratch []⟩
    · have ht' : t = false := by
        have : extendsR [] 1 a b = some false := by simp [extendsR, e, findR]
        have q := ht.symm.trans this
        cases q; rfl
      subst ht'
      have hro : H.ro ≤ H.objs.length := by
        have := h.mro
        obtain ⟨th, iv, ov, h1, _⟩ := h.mach
        have := lt_of_obj h1
        omega
      have hs := mset_of (key := a) (v := .bool true) (push_new H (.amap [])) hro rfl rfl
      obtain ⟨es, a1, a2⟩ := h.stat.recs
      have hne : H.objs.length ≠ C.r := by have := lt_of_obj a1; omega
      have hg : mget ((H.push (.amap [])).setMap H.objs.length (putM a (.bool true) [])) C.r a = some none := by
        rw [mget_of (es := es) (by rw [setMap_other _ hne]; exact push_old _ a1), a2, hR]; rfl
      refine ⟨_, l203_1 hp (loop_exit (by simp) (b203_0_8 hm1 e hs hg)), ?_⟩
      rw [setMap_push]
      exact h.scratch _
end Go.Wf
namespace Go.Den
open Go Go.Proofs Go.Wf
def embA (b off len : Nat) : Emb := { ρ := fun _ => none, kind := fun B => if B = b then .store else .foreign, tag := fun B k => if B = b ∧ off ≤ k ∧ k < off + len then .imm else .junk }
theorem ext_below {b off len : Nat} {w w' : World} {E' : Emb} (hx : Ext (embA b off len) w E' w') (hb : ∀ k, off ≤ k → k < off + len → ∃ x, cellOf w.heap b k = some x) (hc : ∃ c e z, w.heap[b]? = some (Obj.cells c e z)) : RowKit.Below w.heap.size w w' := by
  refine ⟨hx.os, hx.tape, hx.output, hx.size, fun B hB => ?_⟩
  by_cases e : B = b
  · subst e
    obtain ⟨c, e, z, h1⟩ := hc
    obtain ⟨c', h2, h3⟩ := hx.mono.row B c e z h1
    rw [h2, h1]
    have key : c' = c := by
      apply Array.ext_getElem?
      intro k
      have e1 : cellOf w'.heap B k = c'[k]? := by simp [cellOf, h2]
      have e2 : cellOf w.heap B k = c[k]? := by simp [cellOf, h1]
      rw [← e1, ← e2]
      have hk : (embA B off len).kind B = .store := by simp [embA]
      by_cases hr : off ≤ k ∧ k < off + len
      · obtain ⟨x, hx1⟩ := hb k hr.1 hr.2
        have := hx.mono.imm B k x ⟨hk, by simp [embA, hr], hx1⟩
        rw [this.2.2, hx1]
      · exact (hx.junk B k hB hk (by simp [embA]; intro h; omega)).2
    rw [key]
  · exact (hx.foreign B hB (by simp [embA, e])).2
theorem foreign_below {w w' : World} {E' : Emb} (hx : Ext emb0 w E' w') : RowKit.Below w.heap.size w w' :=
  ⟨hx.os, hx.tape, hx.output, hx.size, fun B hB => (hx.foreign B hB rfl).2⟩
def bytesZ (zs : List Int) : List UInt8 := zs.map fun n => UInt8.ofNat n.toNat
theorem bytesZ_at {zs : List Int} (hw : ∀ n ∈ zs, 0 ≤ n ∧ n ≤ 255) : bytesV (bytesZ zs) = zs.map (.int .u8) := by
  unfold bytesV bytesZ
  rw [List.map_map]
  apply List.map_congr_left
  intro n hn
  have := hw n hn
  show AVal.int .u8 (((UInt8.ofNat n.toNat).toNat : Nat) : Int) = .int .u8 n
  have e : (UInt8.ofNat n.toNat).toNat = n.toNat := by
    rw [UInt8.toNat_ofNat']
    exact Nat.mod_eq_of_lt (by omega)
  rw [e]
  congr 1; omega
theorem list_call {A : List Ans} (hA : ∀ a ∈ A, AnsOK Tryz.prog a) {f : FuncId} (hrun : ∀ inp : List UInt8, ∃ H', Ev (primsS A) f [.isl false inp.length (bytesV inp)] heap0 (.ret (.bool true)) H')
    (w : World) (ht : ∃ e z, w.heap[tabG]? = some (Obj.cells tabC e z)) (a : Option Addr) (len cap : Nat) (hl : len ≤ cap) (zs : List Int) (hz : zs.length = len) (ha : 0 < len → ∃ b off, a = some ⟨b, off, none⟩ ∧ ∀ i, i < len → w.cell? ⟨b, off + i, none⟩ = some (.int .u8 (zs.getD i 0))) (hw : ∀ n ∈ zs, 0 ≤ n ∧ n ≤ 255) :
    Calls Tryz.prog f #[.slice a len cap] w fun e w' => e = .returned (.bool true) ∧ RowKit.Below w.heap.size w w' := by
  obtain ⟨H', hr⟩ := hrun (bytesZ zs)
  have hbl : (bytesZ zs).length = len := by simp [bytesZ, hz]
  rw [hbl, bytesZ_at hw] at hr
  have out : ∀ (E : Emb), HRel E w.heap heap0 → VRel E w.heap (.isl false len (zs.map (.int .u8))) (.slice a len cap) → Calls Tryz.prog f #[.slice a len cap] w fun e w' => e = .returned (.bool true) ∧ ∃ E', Ext E w E' w' := fun E hH hv => by
    refine (ev_calls hA hr E w #[.slice a len cap] hH ⟨rfl, fun j v x h1 h2 => ?_⟩).mono ?_
    · cases j with
      | zero =>
        simp at h1 h2
        subst h1; subst h2
        exact ⟨hv, .of_strip rfl⟩
      | succ j => simp at h1
    · rintro e w' ⟨E', hx, hH', he⟩
      cases e with
      | returned x => exact ⟨by rw [he.1.bool_eq], E', hx⟩
      | _ => exact he.elim
  rcases Nat.eq_zero_or_pos len with h0 | hpos
  · subst h0
    obtain rfl : zs = [] := List.eq_nil_of_length_eq_zero hz
    refine (out emb0 (hrel0 ht) (empty_rel a cap)).mono ?_
    rintro e w' ⟨h1, E', hx⟩
    exact ⟨h1, foreign_below hx⟩
  · obtain ⟨b, off, rfl, hcell⟩ := ha hpos
    have hcl : ∀ i, i < len → cellOf w.heap b (off + i) = some (.int .u8 (zs.getD i 0)) := fun i hi => by
      have := hcell i hi
      rw [cell_eq] at this
      exact this
    have hblk : ∃ c e z, w.heap[b]? = some (Obj.cells c e z) := by
      have := hcl 0 hpos
      unfold cellOf at this
      split at this
      · rename_i c e z hq; exact ⟨c, e, z, hq⟩
      · cases this
    have hbt : b ≠ tabG := fun e => by
      subst e
      obtain ⟨e', z, h1⟩ := ht
      have h2 := hcl 0 hpos
      simp only [cellOf, h1] at h2
      have h3 : ∀ (k : Nat) n, tabC[k]? = some (Value.int .u8 n) → False := by
        intro k n h
        unfold tabC at h
        simp at h
      exact h3 _ _ h2
    refine (out (embA b off len) ⟨⟨by simp [embA, Ne.symm hbt], ht⟩, fun b o h => by simp [heap0] at h, fun b B h => by cases h⟩ ?_).mono ?_
    · refine .isl false len (zs.map (.int .u8)) (some ⟨b, off, none⟩) cap b off (fun j => .int .u8 (zs.getD j 0)) hl ?_ ?_ (fun _ => rfl) ?_ ?_
      · constructor
        · intro h; simp at h; subst h; simp at hz; omega
        · intro h; omega
      · intro v hv
        obtain ⟨n, _, rfl⟩ := List.mem_map.1 hv
        exact ⟨rfl, rfl⟩
      · intro j hj
        rw [List.length_map, hz] at hj
        exact ⟨by simp [embA], by simp [embA, hj], hcl j hj⟩
      · intro j v hj
        rw [List.getElem?_map] at hj
        cases hq : zs[j]? with
        | none => rw [hq] at hj; cases hj
        | some n =>
          rw [hq] at hj
          cases hj
          have : zs.getD j 0 = n := by simp [List.getD, hq]
          rw [this]
          exact .int _ _
    · rintro e w' ⟨h1, E', hx⟩
      refine ⟨h1, ext_below hx (fun k k1 k2 => ?_) hblk⟩
      have := hcl (k - off) (by omega)
      rw [show off + (k - off) = k by omega] at this
      exact ⟨_, this⟩
end Go.Den
