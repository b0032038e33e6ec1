/-
  EVAL, PART XB: numbers: what fold and arith compute.
-/
import Derived.Test.YthbcdilmfgfndaaGreatDoorZl
import Derived.Test.YthbcdilmfgfndaaGreatDoorZj
import Derived.Test.YthbcdilmfgfndaaGreatDoorZf
import Derived.Shelf.Slices.Clone
import Derived.Test.YthbcdilmfgfndaaGreatDoorZm
set_option linter.unusedSimpArgs false
set_option linter.unusedVariables false
namespace Go.Wf
open Go Go.Den
variable {P : Prims} {H : Heap}
theorem in32_iff' {v : Int} : in32 v = true ↔ -2147483648 ≤ v ∧ v ≤ 2147483647 := by simp [in32]
theorem k_elem (hp : P 178 = none) (n : Int) (H : Heap) : Ev P 178 [.int .i32 n] H (.ret (.bool (elemB n))) H := by
  by_cases h : n ≥ 0
  · have e : elemB n = decide (n < 32) := by simp [elemB]; omega
    rw [e]; exact r178_0 hp h
  · have e : elemB n = false := by simp [elemB]; omega
    rw [e]; exact r178_1 hp h
theorem k_num (h1 : P 231 = none) (h2 : P 206 = none) (f v : Int) (H : Heap) : Ev P 206 [.int .i64 f, .int .i32 v] H (.ret (.agg (litC f v))) H := r206_0 h2 (r231_0 h1)
theorem k_isC (hp : P 205 = none) (f v : Int) (H : Heap) : Ev P 205 [.agg (litC f v)] H (.ret (.bool (decide (1 ≤ f) && decide (f ≤ 4)))) H := by
  by_cases h : f ≥ 1
  · have e : (decide (1 ≤ f) && decide (f ≤ 4)) = decide (f ≤ 4) := by simp; omega
    rw [e]; exact r205_0 hp h
  · have e : (decide (1 ≤ f) && decide (f ≤ 4)) = false := by simp; omega
    rw [e]; exact r205_1 hp h
theorem wrapU64_of {x : Int} (h : 0 ≤ x) (h2 : x ≤ 2147483647) : IntKind.wrap .u64 x = x := by
  have e : IntKind.wrap .u64 x = x % 18446744073709551616 := by
    unfold IntKind.wrap
    simp [IntKind.signed, IntKind.bits]
  rw [e]; omega
theorem k_spanL (x1 : Int) (hx : 0 ≤ x1 ∧ x1 < 32) : ∀ (k : Nat) (a s : Int), 0 ≤ a → a ≤ x1 + 1 → (x1 + 1 - a).toNat = k → ∀ H,
    LoopEv P 204 k204_0 28 [] [(1, .int .i32 x1), (6, .int .i32 s), (7, .int .i32 a)] ⟨[], false⟩ H (.exit 0) [] [(6, .int .i32 (spanFrom a k s))] ⟨[], false⟩ H
  | 0, a, s, h0, h1, hk, H => loop_exit (by simp) (b204_0_1 (by omega))
  | k + 1, a, s, h0, h1, hk, H => by
    have hle : a ≤ x1 := by omega
    have hm : min a.toNat 32 = a.toNat := by omega
    have e1 : IntKind.wrap .i32 (1 * 2 ^ min a.toNat 32) = bitOf a := by rw [hm, Int.one_mul]; rfl
    have e2 : IntKind.wrap .i32 (a + 1) = a + 1 := by
      have e : IntKind.wrap .i32 (a + 1) = (a + 1 + 2147483648) % 4294967296 - 2147483648 := by
        unfold IntKind.wrap
        simp [IntKind.signed, IntKind.bits]
        omega
      rw [e]; omega
    exact loop_next (by rfl) (b204_0_0 hle (wrapU64_of h0 (by omega)) (i0 := a.toNat) (by omega) e1 rfl e2) (k_spanL x1 hx k (a + 1) (or32 s (bitOf a)) (by omega) (by omega) (by omega) H)
theorem k_span (h1 : P 178 = none) (h2 : P 204 = none) (a b : Int) (H : Heap) : Ev P 204 [.int .i32 a, .int .i32 b] H (.ret (.tup [.int .i32 (cond (elemB a && elemB b) (spanOf a b) 0), .bool (elemB a && elemB b)])) H := by
  cases ha : elemB a with
  | false => exact r204_0 h2 (k_elem h1 a H) ha
  | true =>
    cases hb : elemB b with
    | false => exact r204_1 h2 (k_elem h1 a H) ha (k_elem h1 b H) hb
    | true =>
      simp only [elemB, Bool.and_eq_true, decide_eq_true_eq] at ha hb
      refine l204_0 h2 (k_elem h1 a H) (by simp [elemB]; omega) (k_elem h1 b H) (by simp [elemB]; omega) ?_
      by_cases h : a ≤ b + 1
      · exact k_spanL b hb _ a 0 ha.1 h rfl H
      · have e : (b + 1 - a).toNat = 0 := by omega
        show LoopEv P 204 k204_0 28 [] _ _ H _ [] [(6, .int .i32 (spanFrom a (b + 1 - a).toNat 0))] _ H
        rw [e]
        exact loop_exit (by simp) (b204_0_1 (by omega))
theorem k_all1 (h : ∀ f ∈ [205, 254, 273, 251, 235], P f = none) {f a : Int} (h1 : 1 ≤ f) (h4 : f ≤ 4) (H : Heap) : Ev P 235 [.isl false 1 (litC f a)] H (.ret (.bool true)) H := by
  have e254 := r254_0 (h 254 (by simp)) (k_isC (h 205 (by simp)) f a H)
  have hb : (decide (1 ≤ f) && decide (f ≤ 4)) = true := by simp; omega
  rw [hb] at e254
  have rd : readRow true 8 (litC f a) (0 * 8) = some (.agg (litC f a)) := rfl
  have l := l273_0 (P := P) (n0 := 1) (cs0 := litC f a) (h 273 (by simp)) (loop_next (by rfl) (b273_0_1 (k0 := 0) (by decide) (by decide) rfl rd e254 rfl (y0 := ((1 : Nat) : Int)) rfl) (loop_exit (by simp) (b273_0_2 (by decide))))
  have e251 := r251_0 (h 251 (by simp)) l
  exact r235_0 (h 235 (by simp)) e251
theorem k_all2 (h : ∀ f ∈ [205, 254, 273, 251, 235], P f = none) {f a g b : Int} (h1 : 1 ≤ f) (h4 : f ≤ 4) (g1 : 1 ≤ g) (g4 : g ≤ 4) (H : Heap) : Ev P 235 [.isl false 2 (litC f a ++ litC g b)] H (.ret (.bool true)) H := by
  have e254 := r254_0 (h 254 (by simp)) (k_isC (h 205 (by simp)) f a H)
  have hb : (decide (1 ≤ f) && decide (f ≤ 4)) = true := by simp; omega
  rw [hb] at e254
  have e254' := r254_0 (h 254 (by simp)) (k_isC (h 205 (by simp)) g b H)
  have hb' : (decide (1 ≤ g) && decide (g ≤ 4)) = true := by simp; omega
  rw [hb'] at e254'
  have rd : readRow true 8 (litC f a ++ litC g b) (0 * 8) = some (.agg (litC f a)) := rfl
  have rd' : readRow true 8 (litC f a ++ litC g b) (1 * 8) = some (.agg (litC g b)) := rfl
  have l := l273_0 (P := P) (n0 := 2) (cs0 := litC f a ++ litC g b) (h 273 (by simp)) (loop_next (by rfl) (b273_0_1 (k0 := 0) (by decide) (by decide) rfl rd e254 rfl (y0 := ((1 : Nat) : Int)) rfl)
    (loop_next (by rfl) (b273_0_1 (k0 := 1) (by decide) (by decide) rfl rd' e254' rfl (y0 := ((2 : Nat) : Int)) rfl) (loop_exit (by simp) (b273_0_2 (by decide)))))
  have e251 := r251_0 (h 251 (by simp)) l
  exact r235_0 (h 235 (by simp)) e251
end Go.Wf
namespace Go.Wf
open Go Go.Den
variable {P : Prims} {H : Heap}
theorem wrap32' {n : Int} (h1 : -2147483648 ≤ n) (h2 : n ≤ 2147483647) : IntKind.wrap .i32 n = n := by
  have e : IntKind.wrap .i32 n = (n + 2147483648) % 4294967296 - 2147483648 := by
    unfold IntKind.wrap
    simp [IntKind.signed, IntKind.bits]
    omega
  rw [e]; omega
def Told (o : Option Int) (r : Int) (b : Bool) : Prop := match o with
  | some x => b = true ∧ r = x
  | none => b = false
theorem k_flag (hp : P 255 = none) (b : Bool) (H : Heap) : Ev P 255 [.bool b] H (.ret (.int .i32 (flag b))) H := by
  cases b with
  | true => exact r255_0 hp rfl
  | false => exact r255_1 hp rfl
theorem k_one (h : ∀ f ∈ [130, 131, 255, 236], P f = none) (op f a : Int) (o : Option Int) (hu : un op f a = some o) (H : Heap) : ∃ r b, Ev P 236 [.int .i64 op, .agg (litC f a)] H (.ret (.tup [.int .i32 r, .bool b])) H ∧ Told o r b := by
  have hp := h 236 (by simp)
  unfold un at hu
  by_cases h7 : op = 7
  · rw [if_pos h7] at hu
    cases hu
    by_cases hf : f = 4
    · rw [if_pos hf]
      exact ⟨_, _, r236_0 hp h7 hf rfl, rfl, rfl⟩
    · rw [if_neg hf]
      exact ⟨_, _, r236_1 hp h7 hf (r131_0 (h 131 (by simp)) rfl), rfl, rfl⟩
  rw [if_neg h7] at hu
  by_cases h8 : op = 8
  · rw [if_pos h8] at hu
    cases hu
    exact ⟨_, _, r236_2 hp h8 (k_flag (h 255 (by simp)) _ H), rfl, rfl⟩
  rw [if_neg h8] at hu
  by_cases h27 : op = 27
  · rw [if_pos h27] at hu
    cases hu
    by_cases ha : a < 0
    · rw [if_pos ha]
      exact ⟨_, _, r236_3 hp h27 ha (r131_0 (h 131 (by simp)) rfl), rfl, rfl⟩
    · rw [if_neg ha]
      exact ⟨_, _, r236_4 hp h27 ha, rfl, rfl⟩
  rw [if_neg h27] at hu
  by_cases h28 : op = 28
  · rw [if_pos h28] at hu
    cases hu
    exact ⟨_, _, r236_5 hp h28 rfl, rfl, rfl⟩
  rw [if_neg h28] at hu
  by_cases h32 : op = 32
  · rw [if_pos h32] at hu
    cases hu
    exact ⟨_, _, r236_8 hp h7 h8 h27 h28 (by omega), rfl, rfl⟩
  rw [if_neg h32] at hu
  by_cases h33 : op = 33
  · rw [if_pos h33] at hu
    cases hu
    by_cases ha : a ≥ 0
    · by_cases hb : a ≤ 255
      · rw [if_pos ⟨ha, hb⟩]
        exact ⟨_, _, r236_6 hp h33 ha, by simp [hb], rfl⟩
      · rw [if_neg (by omega)]
        exact ⟨_, _, r236_6 hp h33 ha, decide_eq_false hb⟩
    · rw [if_neg (by omega)]
      exact ⟨_, _, r236_7 hp h33 ha, rfl⟩
  rw [if_neg h33] at hu
  cases hu
theorem div_bounds {a b : Int} (h1 : -2147483648 ≤ a) (h2 : a ≤ 2147483647) (hb : 1 ≤ b) : -2147483648 ≤ a / b ∧ a / b ≤ 2147483647 ∧ (a % b = 0 ∨ 0 < a % b) ∧ a % b < b ∧ (0 ≤ a → 0 ≤ a / b) ∧ (a < 0 → a / b < 0) := by
  have e := Int.mul_ediv_add_emod a b
  have r0 := Int.emod_nonneg a (show b ≠ 0 by omega)
  have r1 := Int.emod_lt_of_pos a (show 0 < b by omega)
  refine ⟨?_, ?_, by omega, r1, fun h => Int.ediv_nonneg h (by omega), fun h => Int.ediv_neg_of_neg_of_pos h (by omega)⟩
  · rw [Int.le_ediv_iff_mul_le (by omega)]
    have : (-2147483648) * b ≤ -2147483648 := by omega
    omega
  · rcases Int.lt_or_le a 0 with q | q
    · have := Int.ediv_neg_of_neg_of_pos q (show 0 < b by omega); omega
    · have := Int.ediv_le_self b q; omega
theorem tdiv_eq {a b : Int} (hb : 1 ≤ b) : (0 ≤ a ∨ a % b = 0 → a.tdiv b = a / b ∧ a.tmod b = a % b) ∧ (¬ (0 ≤ a ∨ a % b = 0) → a.tdiv b = a / b + 1 ∧ a.tmod b = a % b - b) := by
  have hs : b.sign = 1 := Int.sign_eq_one_of_pos (by omega)
  have hd : b ∣ a ↔ a % b = 0 := Int.dvd_iff_emod_eq_zero
  have e1 := Int.tdiv_eq_ediv (a := a) (b := b)
  have e2 := Int.tmod_eq_emod (a := a) (b := b)
  have hn : (b.natAbs : Int) = b := by omega
  constructor
  · intro h
    rw [← hd] at h
    rw [if_pos h] at e1 e2
    exact ⟨by rw [e1]; omega, by rw [e2]; omega⟩
  · intro h
    rw [← hd] at h
    rw [if_neg h] at e1 e2
    exact ⟨by rw [e1, hs], by rw [e2, hn]⟩
theorem k_div (hp : P 258 = none) {a b : Int} (h1 : -2147483648 ≤ a) (h2 : a ≤ 2147483647) (H : Heap) : ∃ r t, Ev P 258 [.int .i32 a, .int .i32 b] H (.ret (.tup [.int .i32 r, .bool t])) H ∧ Told (if b < 1 then none else some (a / b)) r t := by
  by_cases hb : b < 1
  · rw [if_pos hb]; exact ⟨_, _, r258_0 hp hb, rfl⟩
  · rw [if_neg hb]
    obtain ⟨q1, q2, q3, q4, q5, q6⟩ := div_bounds h1 h2 (show 1 ≤ b by omega)
    obtain ⟨t1, t2⟩ := @tdiv_eq a b (by omega)
    by_cases hc : 0 ≤ a ∨ a % b = 0
    · obtain ⟨u1, u2⟩ := t1 hc
      exact ⟨_, _, r258_2 hp hb (by omega) (y0 := a / b) (by rw [u1]; exact wrap32' (by omega) (by omega)) (by omega) rfl (by rw [u2]; omega), rfl, rfl⟩
    · obtain ⟨u1, u2⟩ := t2 hc
      exact ⟨_, _, r258_1 hp hb (by omega) (y0 := a / b + 1) (by rw [u1]; exact wrap32' (by omega) (by omega)) (by omega) rfl (by rw [u2]; omega) (y2 := a / b) (by rw [Int.add_sub_cancel]; exact wrap32' (by omega) (by omega)), rfl, rfl⟩
theorem k_mod (hp : P 259 = none) {a b : Int} (h1 : -2147483648 ≤ a) (h2 : a ≤ 2147483647) (h3 : b ≤ 2147483647) (H : Heap) : ∃ r t, Ev P 259 [.int .i32 a, .int .i32 b] H (.ret (.tup [.int .i32 r, .bool t])) H ∧ Told (if b < 1 then none else some (a % b)) r t := by
  by_cases hb : b < 1
  · rw [if_pos hb]; exact ⟨_, _, r259_0 hp hb, rfl⟩
  · rw [if_neg hb]
    obtain ⟨q1, q2, q3, q4, q5, q6⟩ := div_bounds h1 h2 (show 1 ≤ b by omega)
    obtain ⟨t1, t2⟩ := @tdiv_eq a b (by omega)
    by_cases hc : 0 ≤ a ∨ a % b = 0
    · obtain ⟨u1, u2⟩ := t1 hc
      exact ⟨_, _, r259_2 hp hb (by omega) u2 (by omega), rfl, rfl⟩
    · obtain ⟨u1, u2⟩ := t2 hc
      exact ⟨_, _, r259_1 hp hb (by omega) u2 (by omega) (y1 := a % b) (by rw [Int.sub_add_cancel]; exact wrap32' (by omega) (by omega)), rfl, rfl⟩
theorem k_has (h1 : P 178 = none) (h2 : P 260 = none) (n s : Int) (H : Heap) : Ev P 260 [.int .i32 n, .int .i32 s] H (.ret (.bool (hasE n s))) H := by
  cases hn : elemB n with
  | false =>
    have e : hasE n s = false := by simp [hasE, hn]
    rw [e]; exact r260_1 h2 (k_elem h1 n H) hn
  | true =>
    have hn' := hn
    simp only [elemB, Bool.and_eq_true, decide_eq_true_eq] at hn'
    have e : hasE n s = (and32 (s.fdiv (2 ^ n.toNat)) 1 == 1) := by simp [hasE, hn]
    rw [e]
    exact r260_0 h2 (k_elem h1 n H) hn (wrapU64_of hn'.1 (by omega)) (i0 := n.toNat) (by omega) (by rw [show min n.toNat 32 = n.toNat by omega]) rfl
def twoF : List Nat := [130, 131, 178, 237, 255, 256, 257, 258, 259, 260, 264]
theorem k_cmp (h : ∀ f ∈ twoF, P f = none) (op a b : Int) (o : Bool) (ho : (op = 16 ∧ o = (a == b)) ∨ (op = 17 ∧ o = (a != b)) ∨ (op = 18 ∧ o = decide (a < b)) ∨ (op = 19 ∧ o = decide (a ≤ b)) ∨ (op = 20 ∧ o = decide (b < a)) ∨ (op = 21 ∧ o = decide (b ≤ a))) (H : Heap) :
    Ev P 264 [.int .i64 op, .int .i32 a, .int .i32 b] H (.ret (.int .i32 (flag o))) H := by
  have hp := h 264 (by simp [twoF])
  have hf := fun b => k_flag (h 255 (by simp [twoF])) b H
  rcases ho with ⟨e, rfl⟩ | ⟨e, rfl⟩ | ⟨e, rfl⟩ | ⟨e, rfl⟩ | ⟨e, rfl⟩ | ⟨e, rfl⟩
  · exact r264_0 hp e (hf _)
  · exact r264_1 hp e (hf _)
  · exact r264_2 hp e (hf _)
  · exact r264_3 hp e (hf _)
  · exact r264_4 hp e (hf _)
  · exact r264_5 hp (by omega) (by omega) (by omega) (by omega) (by omega) (hf _)
theorem k_two (h : ∀ f ∈ twoF, P f = none) (op f1 a f2 b : Int) (o : Option Int) (hu : bin op f1 a b = some o) (ha : -2147483648 ≤ a ∧ a ≤ 2147483647) (hb : -2147483648 ≤ b ∧ b ≤ 2147483647) (H : Heap) :
    ∃ r t, Ev P 237 [.int .i64 op, .agg (litC f1 a), .agg (litC f2 b)] H (.ret (.tup [.int .i32 r, .bool t])) H ∧ Told o r t := by
  have hp := h 237 (by simp [twoF])
  have p256 := h 256 (by simp [twoF])
  have p130 := h 130 (by simp [twoF])
  have p131 := h 131 (by simp [twoF])
  have p257 := h 257 (by simp [twoF])
  have p258 := h 258 (by simp [twoF])
  have p259 := h 259 (by simp [twoF])
  have p260 := h 260 (by simp [twoF])
  have p178 := h 178 (by simp [twoF])
  have hf := fun b => k_flag (h 255 (by simp [twoF])) b H
  unfold bin at hu
  by_cases h9 : op = 9
  · rw [if_pos h9] at hu
    cases hu
    by_cases h4 : f1 = 4
    · rw [if_pos h4]; exact ⟨_, _, r237_0 hp h4 (r256_0 p256 h9 rfl) rfl, rfl, rfl⟩
    · rw [if_neg h4]; exact ⟨_, _, r237_15 hp h4 h9 (r130_0 p130 rfl), rfl, rfl⟩
  rw [if_neg h9] at hu
  by_cases h10 : op = 10
  · rw [if_pos h10] at hu
    cases hu
    by_cases h4 : f1 = 4
    · rw [if_pos h4]; exact ⟨_, _, r237_0 hp h4 (r256_1 p256 h10 rfl) rfl, rfl, rfl⟩
    · rw [if_neg h4]; exact ⟨_, _, r237_16 hp h4 h10 (r131_0 p131 rfl), rfl, rfl⟩
  rw [if_neg h10] at hu
  by_cases h11 : op = 11
  · rw [if_pos h11] at hu
    cases hu
    by_cases h4 : f1 = 4
    · rw [if_pos h4]; exact ⟨_, _, r237_0 hp h4 (r256_2 p256 h11 rfl) rfl, rfl, rfl⟩
    · rw [if_neg h4]; exact ⟨_, _, r237_17 hp h4 h11 (r257_0 p257 rfl), rfl, rfl⟩
  rw [if_neg h11] at hu
  by_cases h12 : op = 12
  · rw [if_pos h12] at hu
    cases hu
    by_cases h4 : f1 = 4
    · rw [if_pos h4]; exact ⟨_, _, r237_0 hp h4 (r256_3 p256 h12 rfl) rfl, rfl, rfl⟩
    · rw [if_neg h4]
      obtain ⟨r, t, e, ht⟩ := k_div p258 ha.1 ha.2 (b := b) H
      exact ⟨r, t, r237_18 hp h4 h12 e, ht⟩
  rw [if_neg h12] at hu
  have n256 := r256_4 (P := P) (H := H) (x1 := a) (x2 := b) p256 h9 h10 h11 h12
  by_cases h13 : op = 13
  · rw [if_pos h13] at hu
    cases hu
    obtain ⟨r, t, e, ht⟩ := k_mod p259 ha.1 ha.2 hb.2 H
    by_cases h4 : f1 = 4
    · exact ⟨r, t, r237_5 hp h4 n256 rfl h13 e, ht⟩
    · exact ⟨r, t, r237_19 hp h4 h13 e, ht⟩
  rw [if_neg h13] at hu
  have cmp : ∀ (x : Bool), ((op = 16 ∧ x = (a == b)) ∨ (op = 17 ∧ x = (a != b)) ∨ (op = 18 ∧ x = decide (a < b)) ∨ (op = 19 ∧ x = decide (a ≤ b)) ∨ (op = 20 ∧ x = decide (b < a)) ∨ (op = 21 ∧ x = decide (b ≤ a))) →
      ∃ r t, Ev P 237 [.int .i64 op, .agg (litC f1 a), .agg (litC f2 b)] H (.ret (.tup [.int .i32 r, .bool t])) H ∧ Told (some (flag x)) r t := fun x hx => by
    have e := k_cmp h op a b x hx H
    by_cases h4 : f1 = 4
    · exact ⟨_, _, r237_14 hp h4 n256 rfl h9 h10 h11 h12 h13 (by omega) (by omega) (by omega) (by omega) (by omega) (by omega) e, rfl, rfl⟩
    · exact ⟨_, _, r237_28 hp h4 h9 h10 h11 h12 h13 (by omega) (by omega) (by omega) (by omega) (by omega) (by omega) e, rfl, rfl⟩
  by_cases h16 : op = 16
  · rw [if_pos h16] at hu; cases hu; exact cmp _ (.inl ⟨h16, rfl⟩)
  rw [if_neg h16] at hu
  by_cases h17 : op = 17
  · rw [if_pos h17] at hu; cases hu; exact cmp _ (.inr (.inl ⟨h17, rfl⟩))
  rw [if_neg h17] at hu
  by_cases h18 : op = 18
  · rw [if_pos h18] at hu; cases hu; exact cmp _ (.inr (.inr (.inl ⟨h18, rfl⟩)))
  rw [if_neg h18] at hu
  by_cases h19 : op = 19
  · rw [if_pos h19] at hu; cases hu; exact cmp _ (.inr (.inr (.inr (.inl ⟨h19, rfl⟩))))
  rw [if_neg h19] at hu
  by_cases h20 : op = 20
  · rw [if_pos h20] at hu; cases hu; exact cmp _ (.inr (.inr (.inr (.inr (.inl ⟨h20, rfl⟩)))))
  rw [if_neg h20] at hu
  by_cases h21 : op = 21
  · rw [if_pos h21] at hu; cases hu; exact cmp _ (.inr (.inr (.inr (.inr (.inr ⟨h21, rfl⟩)))))
  rw [if_neg h21] at hu
  by_cases h22 : op = 22
  · rw [if_pos h22] at hu
    cases hu
    have e := k_has p178 p260 a b H
    by_cases h4 : f1 = 4
    · exact ⟨_, _, r237_10 hp h4 n256 rfl h22 e (hf _), rfl, rfl⟩
    · exact ⟨_, _, r237_24 hp h4 h22 e (hf _), rfl, rfl⟩
  rw [if_neg h22] at hu
  cases hu
theorem k_count1 (hp : P 232 = none) {op f a : Int} {o : Option Int} (hu : un op f a = some o) (H : Heap) : Ev P 232 [.int .i64 op] H (.ret (.tup [.int .i64 1, .bool true])) H := by
  unfold un at hu
  by_cases h7 : op = 7
  · exact r232_0 hp h7
  rw [if_neg h7] at hu
  by_cases h8 : op = 8
  · exact r232_1 hp h8
  rw [if_neg h8] at hu
  by_cases h27 : op = 27
  · exact r232_2 hp h27
  rw [if_neg h27] at hu
  by_cases h28 : op = 28
  · exact r232_3 hp h28
  rw [if_neg h28] at hu
  by_cases h32 : op = 32
  · exact r232_4 hp h32
  rw [if_neg h32] at hu
  by_cases h33 : op = 33
  · exact r232_5 hp h33
  rw [if_neg h33] at hu
  cases hu
theorem k_count2 (hp : P 232 = none) {op f a b : Int} {o : Option Int} (hu : bin op f a b = some o) (H : Heap) : Ev P 232 [.int .i64 op] H (.ret (.tup [.int .i64 2, .bool true])) H := by
  unfold bin at hu
  by_cases h9 : op = 9
  · exact r232_6 hp h9
  rw [if_neg h9] at hu
  by_cases h10 : op = 10
  · exact r232_7 hp h10
  rw [if_neg h10] at hu
  by_cases h11 : op = 11
  · exact r232_8 hp h11
  rw [if_neg h11] at hu
  by_cases h12 : op = 12
  · exact r232_9 hp h12
  rw [if_neg h12] at hu
  by_cases h13 : op = 13
  · exact r232_10 hp h13
  rw [if_neg h13] at hu
  by_cases h16 : op = 16
  · exact r232_13 hp h16
  rw [if_neg h16] at hu
  by_cases h17 : op = 17
  · exact r232_14 hp h17
  rw [if_neg h17] at hu
  by_cases h18 : op = 18
  · exact r232_15 hp h18
  rw [if_neg h18] at hu
  by_cases h19 : op = 19
  · exact r232_16 hp h19
  rw [if_neg h19] at hu
  by_cases h20 : op = 20
  · exact r232_17 hp h20
  rw [if_neg h20] at hu
  by_cases h21 : op = 21
  · exact r232_18 hp h21
  rw [if_neg h21] at hu
  by_cases h22 : op = 22
  · exact r232_19 hp h22
  rw [if_neg h22] at hu
  cases hu
theorem un_ne {op f a : Int} {o : Option Int} (hu : un op f a = some o) : op ≠ 24 := by
  intro e; subst e; simp [un] at hu
theorem bin_ne {op f a b : Int} {o : Option Int} (hu : bin op f a b = some o) : op ≠ 24 := by
  intro e; subst e; simp [bin] at hu
def foldFs : List Nat := [207, 206, 231, 205, 254, 273, 251, 235, 236, 232] ++ twoF
theorem k_fold1 (h : ∀ f ∈ foldFs, P f = none) (op tf tn : Int) (ts : List UInt8) (k : Nat) (cs : List AVal) (form a : Int) (o : Option Int) (H : Heap) (h1 : 1 ≤ form) (h4 : form ≤ 4) (hu : un op form a = some o) :
    ∃ v, Ev P 207 [.agg [.int .i64 op, .int .i64 tf, .int .i64 tn, .str ts, .isl false k cs, .int .i32 0, .str [], .isl false 1 (litC form a)]] H (.ret v) H ∧ FoldV o v := by
  have hall := k_all1 (P := P) (fun f hf => h f ((by decide : ∀ f ∈ [205, 254, 273, 251, 235], f ∈ foldFs) f hf)) (a := a) h1 h4 H
  have hc := k_count1 (h 232 (by simp [foldFs])) hu H
  obtain ⟨r, t, e, ht⟩ := k_one (P := P) (fun f hf => h f ((by decide : ∀ f ∈ [130, 131, 255, 236], f ∈ foldFs) f hf)) op form a o hu H
  have h207 := h 207 (by simp [foldFs])
  cases o with
  | none =>
    obtain rfl : t = false := ht
    exact ⟨_, r207_12 h207 hc (un_ne hu) rfl rfl hall rfl rfl (by decide) rfl rfl e rfl, _, _, _, _, _, _, _, rfl, by decide⟩
  | some x =>
    obtain ⟨rfl, rfl⟩ : t = true ∧ r = x := ht
    exact ⟨_, r207_13 h207 hc (un_ne hu) rfl rfl hall rfl rfl (by decide) rfl rfl e rfl (k_num (h 231 (by simp [foldFs])) (h 206 (by simp [foldFs])) tf r H), _, _, _, _, _, _, _, rfl, rfl, rfl⟩
theorem k_fold2 (h : ∀ f ∈ foldFs, P f = none) (op tf tn : Int) (ts : List UInt8) (k : Nat) (cs : List AVal) (f1 a f2 b : Int) (o : Option Int) (H : Heap) (h1 : 1 ≤ f1) (h4 : f1 ≤ 4) (g1 : 1 ≤ f2) (g4 : f2 ≤ 4) (hu : bin op f1 a b = some o) (ha : in32 a = true) (hb : in32 b = true) :
    ∃ v, Ev P 207 [.agg [.int .i64 op, .int .i64 tf, .int .i64 tn, .str ts, .isl false k cs, .int .i32 0, .str [], .isl false 2 (litC f1 a ++ litC f2 b)]] H (.ret v) H ∧ FoldV o v := by
  have hall := k_all2 (P := P) (fun f hf => h f ((by decide : ∀ f ∈ [205, 254, 273, 251, 235], f ∈ foldFs) f hf)) (a := a) (b := b) h1 h4 g1 g4 H
  have hc := k_count2 (h 232 (by simp [foldFs])) hu H
  obtain ⟨r, t, e, ht⟩ := k_two (P := P) (fun f hf => h f (by simp only [foldFs, List.mem_append]; exact .inr hf)) op f1 a f2 b o hu (in32_iff'.1 ha) (in32_iff'.1 hb) H
  have h207 := h 207 (by simp [foldFs])
  cases o with
  | none =>
    obtain rfl : t = false := ht
    exact ⟨_, r207_14 h207 hc (bin_ne hu) rfl rfl hall rfl (by decide) (by decide) rfl rfl (by decide) rfl e rfl, _, _, _, _, _, _, _, rfl, by decide⟩
  | some x =>
    obtain ⟨rfl, rfl⟩ : t = true ∧ r = x := ht
    exact ⟨_, r207_15 h207 hc (bin_ne hu) rfl rfl hall rfl (by decide) (by decide) rfl rfl (by decide) rfl e rfl (k_num (h 231 (by simp [foldFs])) (h 206 (by simp [foldFs])) tf r H), _, _, _, _, _, _, _, rfl, rfl, rfl⟩
end Go.Wf
namespace Go.Wf
open Go Go.Den
variable {P : Prims} {H : Heap}
theorem bodyOf_some' {fn : Func} (hc : fn.body.isSome = true) : fn.body = some (bodyOf fn) := by
  unfold bodyOf
  cases hb : fn.body with
  | none => rw [hb] at hc; cases hc
  | some c => rfl
theorem ev_pure {f : FuncId} {fn : Func} {args : List AVal} {t : Nat} {v : AVal} {l : Facts} {bx' : Bxs} {H₁ : Heap} (hp : P f = none) (hfn : XK.P.funcs[f]? = some fn) (hc : fn.body.isSome = true) (hle : Nat.ble args.length fn.ntmps = true) (hi : Has (envOf args) l)
    (hpu : XK.cfg.pureF f = true) (hres : fn.results.toList = [.tmp t]) (hv : v.isLoc = false) (h : RunEv P f (bodyOf fn) fn.ntmps [] l ⟨[], false⟩ H .ret [] [(t, v)] bx' H₁) : Ev P f args H (.ret v) H₁ := by
  refine ev_body hp ?_
  obtain ⟨x, hx'⟩ := h
  refine ⟨x, fun m hm => ?_⟩
  obtain ⟨s', a1, e1⟩ := hx' m hm { env := envOf args, boxes := [], n := fn.ntmps, defs := [] } ⟨rfl, rfl, rfl, hi⟩
  have ht : s'.env t = v := a1.env.1
  simp only [body, hfn]
  rw [bodyOf_some' hc]
  simp only [hle, cond_true, e1, a1.d, Go.Den.results, hpu, hres, ownRes, ht, hv, cond_false]
theorem decN_small {n : Nat} (h : n < 10) : decN n = [UInt8.ofNat (48 + n)] := by unfold decN; rw [if_pos h]
theorem decN_two {n : Nat} (h : ¬ n < 10) (h2 : n < 100) : decN n = [UInt8.ofNat (48 + n / 10), UInt8.ofNat (48 + n % 10)] := by
  unfold decN; rw [if_neg h, decN_small (by omega)]; rfl
def tab10 : List UInt8 := [48, 49, 50, 51, 52, 53, 54, 55, 56, 57, 97, 98, 99, 100, 101, 102, 103, 104, 105, 106, 107, 108, 109, 110, 111, 112, 113, 114, 115, 116, 117, 118, 119, 120, 121, 122]
def tab100 : List UInt8 := [48, 48, 48, 49, 48, 50, 48, 51, 48, 52, 48, 53, 48, 54, 48, 55, 48, 56, 48, 57, 49, 48, 49, 49, 49, 50, 49, 51, 49, 52, 49, 53, 49, 54, 49, 55, 49, 56, 49, 57, 50, 48, 50, 49, 50, 50, 50, 51, 50, 52, 50, 53, 50, 54, 50, 55, 50, 56, 50, 57, 51, 48, 51, 49, 51, 50, 51, 51, 51, 52, 51, 53, 51, 54, 51, 55, 51, 56, 51, 57, 52, 48, 52, 49, 52, 50, 52, 51, 52, 52, 52, 53, 52, 54, 52, 55, 52, 56, 52, 57, 53, 48, 53, 49, 53, 50, 53, 51, 53, 52, 53, 53, 53, 54, 53, 55, 53, 56, 53, 57, 54, 48, 54, 49, 54, 50, 54, 51, 54, 52, 54, 53, 54, 54, 54, 55, 54, 56, 54, 57, 55, 48, 55, 49, 55, 50, 55, 51, 55, 52, 55, 53, 55, 54, 55, 55, 55, 56, 55, 57, 56, 48, 56, 49, 56, 50, 56, 51, 56, 52, 56, 53, 56, 54, 56, 55, 56, 56, 56, 57, 57, 48, 57, 49, 57, 50, 57, 51, 57, 52, 57, 53, 57, 54, 57, 55, 57, 56, 57, 57]
theorem tab10_at' : ∀ k < 10, ((tab10.take (k + 1)).drop k) = [UInt8.ofNat (48 + k)] := by decide
theorem tab100_at' : ∀ k < 100, ((tab100.take (k * 2 + 2)).drop (k * 2)) = [UInt8.ofNat (48 + k / 10), UInt8.ofNat (48 + k % 10)] := by decide
theorem tab10_at (k : Nat) (h : k < 10) : subStr tab10 (some k) (some (k + 1)) = some (.str [UInt8.ofNat (48 + k)]) := by
  rw [subStr_eq (by omega) (by show k + 1 ≤ 36; omega), tab10_at' k h]
theorem tab100_at (k : Nat) (h : k < 100) : subStr tab100 (some (k * 2)) (some (k * 2 + 2)) = some (.str [UInt8.ofNat (48 + k / 10), UInt8.ofNat (48 + k % 10)]) := by
  rw [subStr_eq (by omega) (by show k * 2 + 2 ≤ 200; omega), tab100_at' k h]
theorem w64 {n : Int} (h1 : -1000 ≤ n) (h2 : n ≤ 1000) : IntKind.wrap .i64 n = n := by
  have e : IntKind.wrap .i64 n = (n + 9223372036854775808) % 18446744073709551616 - 9223372036854775808 := by
    unfold IntKind.wrap
    simp [IntKind.signed, IntKind.bits]
    omega
  rw [e]; omega
theorem wU64 (n : Int) : IntKind.wrap .u64 n = n % 18446744073709551616 := by
  unfold IntKind.wrap
  simp [IntKind.signed, IntKind.bits]
theorem k_small (hp : P 238 = none) (k : Nat) (hk : k < 100) (H : Heap) : Ev P 238 [.int .i64 (k : Int)] H (.ret (.str (decN k))) H := by
  by_cases h : k < 10
  · rw [decN_small h]
    exact r238_0 hp (by omega) (w64 (by omega) (by omega)) (by rw [lowB_nat (k := k) rfl, lowB_nat (k := k + 1) (by omega)]; exact tab10_at k h)
  · rw [decN_two h hk]
    exact r238_1 hp (by omega) (w64 (by omega) (by omega)) (w64 (by omega) (by omega)) (w64 (by omega) (by omega)) (by rw [lowB_nat (k := k * 2) (by omega), lowB_nat (k := k * 2 + 2) (by omega)]; exact tab100_at k hk)
theorem cells_bytes : ∀ l : List UInt8, cellsOfBytes l = bytesV l
  | [] => rfl
  | a :: l => by simp only [cellsOfBytes, cells_bytes l]; rfl
theorem bytesV_app' (a b : List UInt8) : bytesV a ++ bytesV b = bytesV (a ++ b) := by simp [bytesV]
def appF : List Nat := [134, 179, 208, 238]
theorem k_uint (h : ∀ f ∈ appF, P f = none) {v : AVal} {l : List UInt8} (hv : OutV v l) (k : Nat) (hk : k < 100) (hl : l.length + (decN k).length ≤ 1000000) (H : Heap) : Ev P 208 [v, .int .u64 (k : Int), .int .i64 10] H (.ret (.isl true (l ++ decN k).length (bytesV (l ++ decN k)))) H := by
  have h208 := h 208 (by simp [appF])
  have hm : Go.Den.most ≥ 1000000 := by unfold Go.Den.most; omega
  have sm := k_small (h 238 (by simp [appF])) k hk H
  have hne : ∃ m, (decN k).length = m + 1 := by
    by_cases h : k < 10
    · rw [decN_small h]; exact ⟨0, rfl⟩
    · rw [decN_two h hk]; exact ⟨1, rfl⟩
  obtain ⟨m, hm1⟩ := hne
  rcases hv with ⟨rfl, rfl⟩ | rfl
  · have e : appK 1 .nils (decN k).length (cellsOfBytes (decN k)) = some (.isl true ([] ++ decN k).length (bytesV ([] ++ decN k))) := by
      rw [hm1, cells_bytes]
      have : Nat.ble (m + 1) Go.Den.most = true := Nat.ble_eq_true_of_le (by simp at hl; omega)
      simp only [appK, this, cond_true, List.nil_append, hm1]
    exact ev_pure (l := [(0, .nils), (1, .int .u64 (k : Int)), (2, .int .i64 10)]) h208 Go.Proofs.Tryz.func208 (by kernel_rfl) (by kernel_rfl) ⟨rfl, rfl, rfl, trivial⟩ (by kernel_rfl) rfl rfl (ca208_0 (by omega) (w64 (by omega) (by omega)) sm e)
  · have e : appK 1 (.isl true l.length (bytesV l)) (decN k).length (cellsOfBytes (decN k)) = some (.isl true (l ++ decN k).length (bytesV (l ++ decN k))) := by
      have q := app_own (n := l.length) (size := 1) (k := m) (l := bytesV l) (cs := bytesV (decN k)) (by simp [bytesV]) (by omega)
      rw [hm1, cells_bytes, List.length_append, hm1, ← bytesV_app']
      exact q
    exact ev_pure (l := [(0, .isl true l.length (bytesV l)), (1, .int .u64 (k : Int)), (2, .int .i64 10)]) h208 Go.Proofs.Tryz.func208 (by kernel_rfl) (by kernel_rfl) ⟨rfl, rfl, rfl, trivial⟩ (by kernel_rfl) rfl rfl (pa208_0 (by omega) (w64 (by omega) (by omega)) sm e)
theorem k_app (h : ∀ f ∈ appF, P f = none) (v : AVal) (l : List UInt8) (n : Int) (H : Heap) (hv : OutV v l) (hn : ioOK n = true) (hl : l.length + (decI n).length ≤ most) : ∃ v', Ev P 134 [v, .int .i64 n, .int .i64 10] H (.ret v') H ∧ OutV v' (l ++ decI n) := by
  have hm : Go.Wf.most = 1000000 := rfl
  have hm' : Go.Den.most ≥ 1000000 := by unfold Go.Den.most; omega
  have h179 := h 179 (by simp [appF])
  have h134 := h 134 (by simp [appF])
  simp only [ioOK, Bool.and_eq_true, decide_eq_true_eq] at hn
  refine ⟨_, ?_, .inr rfl⟩
  have e179 : Ev P 179 [v, .int .i64 n, .int .i64 10] H (.ret (.isl true (l ++ decI n).length (bytesV (l ++ decI n)))) H := by
    by_cases h0 : n < 0
    · have e : decI n = 45 :: decN n.natAbs := by unfold decI; rw [if_pos h0]
      rw [e] at hl ⊢
      have w1 : IntKind.wrap .u64 n = n + 18446744073709551616 := by rw [wU64]; omega
      have w2 : IntKind.wrap .u64 (0 - (n + 18446744073709551616)) = ((n.natAbs : Nat) : Int) := by rw [wU64]; omega
      have q : OutV (.isl true (l.length + 1) (bytesV l ++ [.int .u8 45])) (l ++ [45]) := .inr (by simp [bytesV])
      have u := k_uint h q n.natAbs (by omega) (by simp at hl ⊢; omega) H
      have e2 : l ++ 45 :: decN n.natAbs = (l ++ [45]) ++ decN n.natAbs := by simp
      rw [e2]
      rcases hv with ⟨rfl, rfl⟩ | rfl
      · exact ev_pure (l := [(0, .nils), (1, .int .i64 n), (2, .int .i64 10)]) h179 Go.Proofs.Tryz.func179 (by kernel_rfl) (by kernel_rfl) ⟨rfl, rfl, rfl, trivial⟩ (by kernel_rfl) rfl rfl (ca179_0 w1 h0 w2 u)
      · exact ev_pure (l := [(0, .isl true l.length (bytesV l)), (1, .int .i64 n), (2, .int .i64 10)]) h179 Go.Proofs.Tryz.func179 (by kernel_rfl) (by kernel_rfl) ⟨rfl, rfl, rfl, trivial⟩ (by kernel_rfl) rfl rfl (pa179_0 w1 h0 (by simp [bytesV]) (by simp at hl; omega) w2 u)
    · have e : decI n = decN n.natAbs := by unfold decI; rw [if_neg h0]
      rw [e] at hl ⊢
      have w1 : IntKind.wrap .u64 n = ((n.natAbs : Nat) : Int) := by rw [wU64]; omega
      have u := k_uint h hv n.natAbs (by omega) (by omega) H
      rcases hv with ⟨rfl, rfl⟩ | rfl
      · exact ev_pure (l := [(0, .nils), (1, .int .i64 n), (2, .int .i64 10)]) h179 Go.Proofs.Tryz.func179 (by kernel_rfl) (by kernel_rfl) ⟨rfl, rfl, rfl, trivial⟩ (by kernel_rfl) rfl rfl (ca179_1 w1 h0 u)
      · exact ev_pure (l := [(0, .isl true l.length (bytesV l)), (1, .int .i64 n), (2, .int .i64 10)]) h179 Go.Proofs.Tryz.func179 (by kernel_rfl) (by kernel_rfl) ⟨rfl, rfl, rfl, trivial⟩ (by kernel_rfl) rfl rfl (pa179_1 w1 h0 u)
  rcases hv with ⟨rfl, rfl⟩ | rfl
  · exact ev_pure (l := [(0, .nils), (1, .int .i64 n), (2, .int .i64 10)]) h134 Go.Proofs.Tryz.func134 (by kernel_rfl) (by kernel_rfl) ⟨rfl, rfl, rfl, trivial⟩ (by kernel_rfl) rfl rfl (ca134_0 e179)
  · exact ev_pure (l := [(0, .isl true l.length (bytesV l)), (1, .int .i64 n), (2, .int .i64 10)]) h134 Go.Proofs.Tryz.func134 (by kernel_rfl) (by kernel_rfl) ⟨rfl, rfl, rfl, trivial⟩ (by kernel_rfl) rfl rfl (pa134_0 e179)
theorem pk_of (pl : ∀ f, f ≠ 171 → f ≠ 28 → f ≠ 13 → f ≠ 22 → f ≠ 24 → f ≠ 36 → P f = none) (has : ∀ s H, Ev P 171 [.str s, .str [46]] H (.ret (.bool (dot s))) H) (clone : ∀ v l H, l.length ≤ most → InW v l → Ev P 28 [v] H (.ret (.isl false l.length (bytesV l))) H) : PK P where
  clone := clone
  pl := fun f hf => pl f (by intro e; subst e; cases hf) (by intro e; subst e; cases hf) (by intro e; subst e; cases hf) (by intro e; subst e; cases hf) (by intro e; subst e; cases hf) (by intro e; subst e; cases hf)
  has := has
  app := fun v l n H hv hn hl => k_app (fun f hf => pl f (by intro e; subst e; revert hf; decide) (by intro e; subst e; revert hf; decide) (by intro e; subst e; revert hf; decide) (by intro e; subst e; revert hf; decide) (by intro e; subst e; revert hf; decide) (by intro e; subst e; revert hf; decide)) v l n H hv hn hl
  fold1 := fun op tf tn ts k cs form a o H h1 h4 hu _ => k_fold1 (fun f hf => pl f (by intro e; subst e; revert hf; decide) (by intro e; subst e; revert hf; decide) (by intro e; subst e; revert hf; decide) (by intro e; subst e; revert hf; decide) (by intro e; subst e; revert hf; decide) (by intro e; subst e; revert hf; decide)) op tf tn ts k cs form a o H h1 h4 hu
  fold2 := fun op tf tn ts k cs f1 a f2 b o H h1 h4 g1 g4 hu ha hb => k_fold2 (fun f hf => pl f (by intro e; subst e; revert hf; decide) (by intro e; subst e; revert hf; decide) (by intro e; subst e; revert hf; decide) (by intro e; subst e; revert hf; decide) (by intro e; subst e; revert hf; decide) (by intro e; subst e; revert hf; decide)) op tf tn ts k cs f1 a f2 b o H h1 h4 g1 g4 hu ha hb
  elem := k_elem (pl 178 (by decide) (by decide) (by decide) (by decide) (by decide) (by decide))
  num := k_num (pl 231 (by decide) (by decide) (by decide) (by decide) (by decide) (by decide)) (pl 206 (by decide) (by decide) (by decide) (by decide) (by decide) (by decide))
  isC := k_isC (pl 205 (by decide) (by decide) (by decide) (by decide) (by decide) (by decide))
  span := fun a b H _ _ => k_span (pl 178 (by decide) (by decide) (by decide) (by decide) (by decide) (by decide)) (pl 204 (by decide) (by decide) (by decide) (by decide) (by decide) (by decide)) a b H
end Go.Wf
namespace Go.Proofs
open Go.Shelf Go.RowKit Go.Lib
set_option maxHeartbeats 2000000 in
set_option maxRecDepth 100000 in
theorem Tryz.slices_Clone_zero (a : Addr) (c : Nat) (w : World) :
    Calls Tryz.prog 28 #[.slice (some a) 0 c] w fun e w' => ∃ v', e = .returned v' ∧ w'.ownsRow w.heap.size 5 1 v' 0 [] ∧ Below w.heap.size w w' := by
  have t23 : Tryz.prog.underlying 23 = some (.slice 5) := by kernel_rfl
  obtain ⟨i0, hi, hz0, hz1, hz2⟩ := info_parts (P := Tryz.prog) (e := 5) (z := .int .u8 0) (size := 1) (bytes := 1) (by kernel_rfl)
  have q23 : ∀ (w : World) (a : Option Addr) (n c n' c' : Nat), (binOp .eql 23 (.slice a n c) (.slice none n' c')).run Tryz.prog w = .ok (.bool a.isNone) w := fun w a n c n' c' => Lib.run_eql_slice_nil w _ _ a n c n' c' t23
  have u23 : ∀ w, Sem.run Tryz.prog (underlying 23) w = .ok (TypeDesc.slice 5) w := run_underlying t23
  go_enter Tryz.func28, Tryz.ntmps28
  go_wp2_with (at_builtin; refine wpList_append_own _ rfl _ _ 23 rfl w.heap.size 5 i0 (.int .u8 0) 1 1 t23 hi hz0 hz1 hz2 rfl (by decide) _ _ _ rfl (World.ownsRow_made w #[] 0 (Nat.le_refl _) (Nat.zero_le _) rfl) a 0 c [] rfl rfl (by intro j u hj; simp at hj) (by intro u hu; cases hu) (by unfold maxLen; omega) (by omega) (by simp) ?_)
  intro v' w1 hown hgrow hnil
  go_wp2
  go_ret
  exact ⟨v', rfl, by simpa using hown, ((Below.refl _ w).alloc (Nat.le_refl _) _).grown hgrow (by simp) (by intro k hk; simp [Value.ownBlock] at hk; omega)⟩
set_option maxHeartbeats 1000000 in
set_option maxRecDepth 100000 in
theorem Tryz.slices_Clone_nil (n c : Nat) (w : World) :
    Calls Tryz.prog 28 #[.slice none n c] w fun e w' => e = .returned (.slice none 0 0) ∧ w' = w := by
  have t23 : Tryz.prog.underlying 23 = some (.slice 5) := by kernel_rfl
  have q23 : ∀ (w : World) (a : Option Addr) (n c n' c' : Nat), (binOp .eql 23 (.slice a n c) (.slice none n' c')).run Tryz.prog w = .ok (.bool a.isNone) w := fun w a n c n' c' => Lib.run_eql_slice_nil w _ _ a n c n' c' t23
  go_enter Tryz.func28, Tryz.ntmps28
  go_wp2
  go_ret
  exact ⟨rfl, rfl⟩
end Go.Proofs
namespace Go.Den
open Go Go.Proofs
def primK : List AVal → Heap → Option (ARes × Heap) := fun args h => match args with
  | [.nils] => some (.ret (.isl false 0 []), h)
  | [.isl false n cs] => cond (Nat.beq cs.length n && Nat.ble n most) (some (.ret (.isl false n cs), h)) none
  | _ => none
theorem empty_rel {E : Emb} {hp : HP} (a : Option Addr) (cap : Nat) : VRel E hp (.isl false 0 []) (.slice a 0 cap) :=
  .isl false 0 [] a cap 0 0 (fun _ => .bool false) (Nat.zero_le _) ⟨fun _ => rfl, fun _ => rfl⟩ (fun v hv => by cases hv) (fun h => (h rfl).elim) (fun j hj => by cases hj) (fun j v hj => by simp at hj)
theorem Ext.below {E : Emb} {w w' : World} {h : Heap} (hH : HRel E w.heap h) (hb : RowKit.Below w.heap.size w w') : Ext E w E w' ∧ HRel E w'.heap h := by
  have g : Agree E w.heap E w'.heap := ⟨fun _ _ h => h, fun _ _ => rfl, fun _ _ _ => rfl, fun B hB => hb.block B hB, hb.size⟩
  exact ⟨g.ext hb.os hb.tape hb.output, hH.keep g rfl⟩
theorem clone_den {n : Nat} {v : AVal} {cs : List AVal} (hl : (v :: cs).length = n) (hn : n ≤ most) (H : Heap) : Ev primsC 28 [.isl false n (v :: cs)] H (.ret (.isl false n (v :: cs))) H := by
  refine c28_0 rfl ?_
  subst hl
  have e : Nat.beq (v :: cs).length ((v :: cs).length * 1) = true := by simp
  have e2 : Nat.ble (0 + (cs.length + 1)) most = true := Nat.ble_eq_true_of_le (by simp at hn; omega)
  simp only [e, cond_true, appK, List.length_cons, e2, Bool.true_and]
  rw [Nat.zero_add] at e2
  simp [e2]
theorem primK_sim (args : List AVal) (h : Heap) (r : ARes) (h' : Heap) (hr : primK args h = some (r, h')) (E : Emb) (w : World) (cargs : Array Value) (hH : HRel E w.heap h) (hA : ArgsRel E w.heap args cargs) : Calls Tryz.prog 28 cargs w (CallPost E w h' r) := by
  have one : ∀ v, args = [v] → ∃ x, cargs = #[x] ∧ VRel E w.heap v x := fun v e => by
    subst e
    obtain ⟨hs, hv⟩ := hA
    obtain ⟨x, rfl⟩ : ∃ x, cargs = #[x] := by
      rcases cargs with ⟨l⟩
      match l, hs with
      | [x], _ => exact ⟨x, rfl⟩
    exact ⟨x, rfl, (hv 0 v x rfl rfl).1⟩
  unfold primK at hr
  split at hr
  · cases hr
    obtain ⟨x, rfl, hx⟩ := one _ rfl
    cases hx
    refine (Tryz.slices_Clone_nil 0 0 w).mono ?_
    rintro e w' ⟨rfl, rfl⟩
    exact ⟨E, Ext.refl _ _, hH, empty_rel _ _, .of_strip rfl⟩
  · rename_i n cs
    cases hc : (Nat.beq cs.length n && Nat.ble n most) with
    | false => rw [hc] at hr; cases hr
    | true =>
      rw [hc] at hr
      cases hr
      simp only [Bool.and_eq_true] at hc
      have hl := Nat.eq_of_beq_eq_true hc.1
      have hn := Nat.le_of_ble_eq_true hc.2
      cases cs with
      | nil =>
        subst hl
        obtain ⟨x, rfl, hx⟩ := one _ rfl
        cases hx with
        | isl _ _ _ a cap B o u hn hn0 ha hb hc hv =>
          cases a with
          | none =>
            refine (Tryz.slices_Clone_nil _ cap w).mono fun e w' hq => ?_
            obtain ⟨rfl, rfl⟩ := hq
            exact ⟨E, Ext.refl _ _, hH, empty_rel _ _, .of_strip rfl⟩
          | some a =>
            refine (Tryz.slices_Clone_zero a cap w).mono fun e w' hq => ?_
            obtain ⟨v', rfl, hown, hbel⟩ := hq
            obtain ⟨h1, h2⟩ := Ext.below hH hbel
            rcases hown.2 with ⟨rfl, _⟩ | ⟨g, cap', cur, rfl, _⟩
            · exact ⟨E, h1, h2, empty_rel _ _, .of_strip rfl⟩
            · exact ⟨E, h1, h2, empty_rel _ _, .of_strip rfl⟩
      | cons v cs =>
        obtain ⟨k, hk⟩ := clone_den hl hn h
        exact den_sound (X := XK) mixed plainNames draws_ok primsC_sim k 28 _ h _ h (hk k (Nat.le_refl _)) E w cargs hH hA
  · cases hr
noncomputable def primsS (A : List Ans) : Prims := fun f => cond (hasF f A) (some (primA A f)) (cond (Nat.beq f 28) (some primK) (primsC f))
theorem primsS_sim {A : List Ans} (hA : ∀ a ∈ A, AnsOK Tryz.prog a) : PrimSim Tryz.prog (primsS A) := by
  intro f p hp args h r h' hr E w cargs hH hargs
  unfold primsS at hp
  cases hf : hasF f A with
  | true =>
    rw [hf] at hp
    exact primsA_sim hA f p (by unfold primsA; rw [hf]; exact hp) args h r h' hr E w cargs hH hargs
  | false =>
    rw [hf, cond_false] at hp
    cases hk : Nat.beq f 28 with
    | true =>
      rw [hk] at hp
      obtain rfl : f = 28 := Nat.eq_of_beq_eq_true hk
      cases hp
      exact primK_sim args h r h' hr E w cargs hH hargs
    | false =>
      rw [hk] at hp
      exact primsC_sim f p hp args h r h' hr E w cargs hH hargs
theorem ev_calls {A : List Ans} (hA : ∀ a ∈ A, AnsOK Tryz.prog a) {f : FuncId} {args : List AVal} {h h' : Heap} {r : ARes} (e : Ev (primsS A) f args h r h') (E : Emb) (w : World) (cargs : Array Value) (hH : HRel E w.heap h) (hargs : ArgsRel E w.heap args cargs) :
    Calls Tryz.prog f cargs w (CallPost E w h' r) := by
  obtain ⟨k, hk⟩ := e
  exact den_sound (X := XK) mixed plainNames draws_ok (primsS_sim hA) k f args h r h' (hk k (Nat.le_refl _)) E w cargs hH hargs
end Go.Den
namespace Go.Wf
open Go Go.Den
theorem hasB_any (c : UInt8) : ∀ l : List UInt8, hasB c l = l.any (· == c)
  | [] => rfl
  | b :: l => by
    show cb (Nat.beq b.toNat c.toNat) true (hasB c l) = _
    rw [hasB_any c l, cb_eq, List.any_cons]
    by_cases h : b = c
    · subst h; simp
    · have h1 : Nat.beq b.toNat c.toNat = false := by
        cases e : Nat.beq b.toNat c.toNat with
        | false => rfl
        | true => exact (h (UInt8.toNat_inj.1 (Nat.eq_of_beq_eq_true e))).elim
      have h2 : (b == c) = false := by simpa using h
      rw [h1, h2]; rfl
theorem pk_S {A : List Ans} (hA : ∀ f, f ≠ 13 → f ≠ 22 → f ≠ 24 → f ≠ 36 → hasF f A = false) : PK (primsS A) := by
  have pl : ∀ f, f ≠ 171 → f ≠ 28 → f ≠ 13 → f ≠ 22 → f ≠ 24 → f ≠ 36 → primsS A f = none := fun f h1 h2 h3 h4 h5 h6 => by
    unfold primsS primsC
    have e1 : Nat.beq f 28 = false := by cases e : Nat.beq f 28 with | false => rfl | true => exact (h2 (Nat.eq_of_beq_eq_true e)).elim
    have e2 : Nat.beq f 171 = false := by cases e : Nat.beq f 171 with | false => rfl | true => exact (h1 (Nat.eq_of_beq_eq_true e)).elim
    rw [hA f h3 h4 h5 h6, e1, e2]
    rfl
  refine pk_of pl (fun s H => ev_prim (p := primC) ?_ ?_) (fun v l H hl hv => ev_prim (p := primK) ?_ ?_)
  · unfold primsS primsC
    rw [hA 171 (by decide) (by decide) (by decide) (by decide)]
    rfl
  · show some (ARes.ret (.bool (hasB 46 s)), H) = _
    rw [hasB_any]; rfl
  · unfold primsS
    rw [hA 28 (by decide) (by decide) (by decide) (by decide)]
    rfl
  · cases hv
    · have e1 : Nat.beq (bytesV l).length l.length = true := by simp [bytesV]
      have e2 : Nat.ble l.length Go.Den.most = true := Nat.ble_eq_true_of_le (by unfold Go.Den.most; unfold Go.Wf.most at hl; omega)
      simp only [primK, e1, e2, Bool.and_self, cond_true]
end Go.Wf
namespace Go.Wf
open Go Go.Den
variable {P : Prims} {C : EC} {rows : List Nat} {s : St} {H : Heap}
theorem RE.scratch (h : RE C rows s H) (es : List (List UInt8 × AVal)) : Post C rows s H rows s (H.push (.amap es)) := by
  have keep : ∀ (b : Nat) o, H.objs[b]? = some o → (H.push (.amap es)).objs[b]? = some o := fun b o hb => push_old _ hb
  have frm : ∀ {f : Fr} {fr : Nat}, FrE C rows s.mem f fr H → FrE C rows s.mem f fr (H.push (.amap es)) := fun hF => by
    obtain ⟨es, q1, q2⟩ := hF.obj
    exact ⟨⟨es, keep _ _ q1, q2⟩, hF.nz, hF.nfl, fun q => hF.ncr (q.of h.cache (fun b es => keep b _))⟩
  have hre : RE C rows s (H.push (.amap es)) := by
    obtain ⟨th, iv, ov, h1, h2, h3, h4, h5, h6, h7⟩ := h.mach
    refine ⟨⟨th, iv, ov, keep _ _ h1, h2, h3, keep _ _ h4, h5, h6, h7⟩, ⟨h.mem.len, h.mem.nodup, fun k r x hk hx => keep _ _ (h.mem.row k r x hk hx), h.mem.ro⟩, h.mrow, h.mro,
      ⟨?_, ?_, frm h.stat.vars, h.stat.rz, h.stat.rfl', h.stat.pz, h.stat.pfl⟩, ⟨?_, ?_, h.cache.zfl, h.cache.zro, h.cache.flro⟩, h.fuel, h.room, h.depth, h.objs, fun x hx => ⟨keep _ _ (h.side x hx).1, (h.side x hx).2⟩⟩
    · obtain ⟨es', a1, a2⟩ := h.stat.recs; exact ⟨es', keep _ _ a1, a2⟩
    · obtain ⟨es', a1, a2⟩ := h.stat.procs; exact ⟨es', keep _ _ a1, a2⟩
    · obtain ⟨es', a1, a2⟩ := h.cache.sizes; exact ⟨es', keep _ _ a1, a2⟩
    · obtain ⟨es', a1, a2⟩ := h.cache.fields
      refine ⟨es', keep _ _ a1, fun rec a ha => ?_⟩
      obtain ⟨b, fes, p1, p2, p3, p4, p5⟩ := a2 rec a ha
      exact ⟨b, fes, p1, p2, p3, keep _ _ p4, p5⟩
  have hm : C.m < H.objs.length := by obtain ⟨th, iv, ov, h1, _⟩ := h.mach; exact lt_of_obj h1
  refine ⟨hre, ⟨fun b es hb _ _ => keep b _ hb, by simp, rfl, fun b hb => ?_, fun x q => .inl (q.of h.cache (fun b es => keep b _))⟩, ⟨[], by simp⟩, MemLe.refl _⟩
  have := h.mro
  rw [Heap.push, List.getElem?_append_left (by omega)]
theorem setMap_push (H : Heap) (es es' : List (List UInt8 × AVal)) : (H.push (.amap es)).setMap H.objs.length es' = H.push (.amap es') := by
  simp [Heap.setMap, Heap.push]
theorem fieldsOf_nil (s : Nm) : fieldsOf [] s = none := rfl
theorem words_nil (k : Nat) (name : Nm) : words [] k (.mk 8 0 name []) = none := by
  cases k with
  | zero => rfl
  | succ k =>
    unfold words
    by_cases h : rightT (k + 1) (.mk 8 0 name []) = true
    · rw [if_pos h]; rfl
    · rw [if_neg h]
theorem recK_nil (hp : P 203 = none) (hR : C.E.R = []) : RecK P C where
  recd := fun name n rows s H hn => by
    unfold recW at hn
    rw [hR, words_nil] at hn
    cases hn
  off := fun rec name n rows s H hn => by
    unfold offW at hn
    rw [hR, fieldsOf_nil] at hn
    cases hn
  ext := fun a b t rows s H ht h => by
    rw [hR] at ht
    have hm1 : mget (H.push (.amap [])) H.objs.length a = some none := by rw [mget_of (push_new _ _)]; rfl
    by_cases e : a = b
    · have ht' : t = true := by
        have : extendsR [] 1 a b = some true := by simp [extendsR, e]
        have q := ht.symm.trans this
        cases q; rfl
      subst ht'
      exact ⟨_, l203_1 hp (loop_exit (by simp) (b203_0_5 hm1 e)), h.scratch []⟩
    · have ht' : t = false := by
        have : extendsR [] 1 a b = some false := by simp [extendsR, e, findR]
        have q := ht.symm.trans this
        cases q; rfl
      subst ht'
      have hro : H.ro ≤ H.objs.length := by
        have := h.mro
        obtain ⟨th, iv, ov, h1, _⟩ := h.mach
        have := lt_of_obj h1
        omega
      have hs := mset_of (key := a) (v := .bool true) (push_new H (.amap [])) hro rfl rfl
      obtain ⟨es, a1, a2⟩ := h.stat.recs
      have hne : H.objs.length ≠ C.r := by have := lt_of_obj a1; omega
      have hg : mget ((H.push (.amap [])).setMap H.objs.length (putM a (.bool true) [])) C.r a = some none := by
        rw [mget_of (es := es) (by rw [setMap_other _ hne]; exact push_old _ a1), a2, hR]; rfl
      refine ⟨_, l203_1 hp (loop_exit (by simp) (b203_0_8 hm1 e hs hg)), ?_⟩
      rw [setMap_push]
      exact h.scratch _
end Go.Wf
