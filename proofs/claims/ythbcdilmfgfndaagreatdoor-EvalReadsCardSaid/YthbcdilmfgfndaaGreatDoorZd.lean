/-
  FAST EVALUATOR, PART A: the same as DEN, laid out for the kernel: temporaries in blocks of sixteen, its dispatch by recursors.
-/
import Derived.Test.YthbcdilmfgfndaaGreatDoorZb
import Derived.Test.YthbcdilmfgfndaaGreatDoorZc
set_option linter.unusedSimpArgs false
set_option linter.unusedVariables false
namespace Go.Den
open Go
structure B16 (α : Type) where
  (a0 a1 a2 a3 a4 a5 a6 a7 a8 a9 a10 a11 a12 a13 a14 a15 : α)
inductive D16 where
  | d0 | d1 | d2 | d3 | d4 | d5 | d6 | d7 | d8 | d9 | d10 | d11 | d12 | d13 | d14 | d15
noncomputable def getA : D16 → B16 (AVal) → AVal := @D16.rec (fun _ => B16 (AVal) → AVal) (fun b => b.a0) (fun b => b.a1) (fun b => b.a2) (fun b => b.a3) (fun b => b.a4) (fun b => b.a5) (fun b => b.a6) (fun b => b.a7) (fun b => b.a8) (fun b => b.a9) (fun b => b.a10) (fun b => b.a11) (fun b => b.a12) (fun b => b.a13) (fun b => b.a14) (fun b => b.a15)
noncomputable def setA : D16 → AVal → B16 (AVal) → B16 (AVal) := @D16.rec (fun _ => AVal → B16 (AVal) → B16 (AVal)) (fun v b => @B16.rec (AVal) (fun _ => B16 (AVal)) (fun x0 x1 x2 x3 x4 x5 x6 x7 x8 x9 x10 x11 x12 x13 x14 x15 => ⟨v, x1, x2, x3, x4, x5, x6, x7, x8, x9, x10, x11, x12, x13, x14, x15⟩) b) (fun v b => @B16.rec (AVal) (fun _ => B16 (AVal)) (fun x0 x1 x2 x3 x4 x5 x6 x7 x8 x9 x10 x11 x12 x13 x14 x15 => ⟨x0, v, x2, x3, x4, x5, x6, x7, x8, x9, x10, x11, x12, x13, x14, x15⟩) b) (fun v b => @B16.rec (AVal) (fun _ => B16 (AVal)) (fun x0 x1 x2 x3 x4 x5 x6 x7 x8 x9 x10 x11 x12 x13 x14 x15 => ⟨x0, x1, v, x3, x4, x5, x6, x7, x8, x9, x10, x11, x12, x13, x14, x15⟩) b) (fun v b => @B16.rec (AVal) (fun _ => B16 (AVal)) (fun x0 x1 x2 x3 x4 x5 x6 x7 x8 x9 x10 x11 x12 x13 x14 x15 => ⟨x0, x1, x2, v, x4, x5, x6, x7, x8, x9, x10, x11, x12, x13, x14, x15⟩) b) (fun v b => @B16.rec (AVal) (fun _ => B16 (AVal)) (fun x0 x1 x2 x3 x4 x5 x6 x7 x8 x9 x10 x11 x12 x13 x14 x15 => ⟨x0, x1, x2, x3, v, x5, x6, x7, x8, x9, x10, x11, x12, x13, x14, x15⟩) b) (fun v b => @B16.rec (AVal) (fun _ => B16 (AVal)) (fun x0 x1 x2 x3 x4 x5 x6 x7 x8 x9 x10 x11 x12 x13 x14 x15 => ⟨x0, x1, x2, x3, x4, v, x6, x7, x8, x9, x10, x11, x12, x13, x14, x15⟩) b) (fun v b => @B16.rec (AVal) (fun _ => B16 (AVal)) (fun x0 x1 x2 x3 x4 x5 x6 x7 x8 x9 x10 x11 x12 x13 x14 x15 => ⟨x0, x1, x2, x3, x4, x5, v, x7, x8, x9, x10, x11, x12, x13, x14, x15⟩) b) (fun v b => @B16.rec (AVal) (fun _ => B16 (AVal)) (fun x0 x1 x2 x3 x4 x5 x6 x7 x8 x9 x10 x11 x12 x13 x14 x15 => ⟨x0, x1, x2, x3, x4, x5, x6, v, x8, x9, x10, x11, x12, x13, x14, x15⟩) b) (fun v b => @B16.rec (AVal) (fun _ => B16 (AVal)) (fun x0 x1 x2 x3 x4 x5 x6 x7 x8 x9 x10 x11 x12 x13 x14 x15 => ⟨x0, x1, x2, x3, x4, x5, x6, x7, v, x9, x10, x11, x12, x13, x14, x15⟩) b) (fun v b => @B16.rec (AVal) (fun _ => B16 (AVal)) (fun x0 x1 x2 x3 x4 x5 x6 x7 x8 x9 x10 x11 x12 x13 x14 x15 => ⟨x0, x1, x2, x3, x4, x5, x6, x7, x8, v, x10, x11, x12, x13, x14, x15⟩) b) (fun v b => @B16.rec (AVal) (fun _ => B16 (AVal)) (fun x0 x1 x2 x3 x4 x5 x6 x7 x8 x9 x10 x11 x12 x13 x14 x15 => ⟨x0, x1, x2, x3, x4, x5, x6, x7, x8, x9, v, x11, x12, x13, x14, x15⟩) b) (fun v b => @B16.rec (AVal) (fun _ => B16 (AVal)) (fun x0 x1 x2 x3 x4 x5 x6 x7 x8 x9 x10 x11 x12 x13 x14 x15 => ⟨x0, x1, x2, x3, x4, x5, x6, x7, x8, x9, x10, v, x12, x13, x14, x15⟩) b) (fun v b => @B16.rec (AVal) (fun _ => B16 (AVal)) (fun x0 x1 x2 x3 x4 x5 x6 x7 x8 x9 x10 x11 x12 x13 x14 x15 => ⟨x0, x1, x2, x3, x4, x5, x6, x7, x8, x9, x10, x11, v, x13, x14, x15⟩) b) (fun v b => @B16.rec (AVal) (fun _ => B16 (AVal)) (fun x0 x1 x2 x3 x4 x5 x6 x7 x8 x9 x10 x11 x12 x13 x14 x15 => ⟨x0, x1, x2, x3, x4, x5, x6, x7, x8, x9, x10, x11, x12, v, x14, x15⟩) b) (fun v b => @B16.rec (AVal) (fun _ => B16 (AVal)) (fun x0 x1 x2 x3 x4 x5 x6 x7 x8 x9 x10 x11 x12 x13 x14 x15 => ⟨x0, x1, x2, x3, x4, x5, x6, x7, x8, x9, x10, x11, x12, x13, v, x15⟩) b) (fun v b => @B16.rec (AVal) (fun _ => B16 (AVal)) (fun x0 x1 x2 x3 x4 x5 x6 x7 x8 x9 x10 x11 x12 x13 x14 x15 => ⟨x0, x1, x2, x3, x4, x5, x6, x7, x8, x9, x10, x11, x12, x13, x14, v⟩) b)
noncomputable def getB : D16 → B16 (B16 AVal) → B16 AVal := @D16.rec (fun _ => B16 (B16 AVal) → B16 AVal) (fun b => b.a0) (fun b => b.a1) (fun b => b.a2) (fun b => b.a3) (fun b => b.a4) (fun b => b.a5) (fun b => b.a6) (fun b => b.a7) (fun b => b.a8) (fun b => b.a9) (fun b => b.a10) (fun b => b.a11) (fun b => b.a12) (fun b => b.a13) (fun b => b.a14) (fun b => b.a15)
noncomputable def setB : D16 → B16 AVal → B16 (B16 AVal) → B16 (B16 AVal) := @D16.rec (fun _ => B16 AVal → B16 (B16 AVal) → B16 (B16 AVal)) (fun v b => @B16.rec (B16 AVal) (fun _ => B16 (B16 AVal)) (fun x0 x1 x2 x3 x4 x5 x6 x7 x8 x9 x10 x11 x12 x13 x14 x15 => ⟨v, x1, x2, x3, x4, x5, x6, x7, x8, x9, x10, x11, x12, x13, x14, x15⟩) b) (fun v b => @B16.rec (B16 AVal) (fun _ => B16 (B16 AVal)) (fun x0 x1 x2 x3 x4 x5 x6 x7 x8 x9 x10 x11 x12 x13 x14 x15 => ⟨x0, v, x2, x3, x4, x5, x6, x7, x8, x9, x10, x11, x12, x13, x14, x15⟩) b) (fun v b => @B16.rec (B16 AVal) (fun _ => B16 (B16 AVal)) (fun x0 x1 x2 x3 x4 x5 x6 x7 x8 x9 x10 x11 x12 x13 x14 x15 => ⟨x0, x1, v, x3, x4, x5, x6, x7, x8, x9, x10, x11, x12, x13, x14, x15⟩) b) (fun v b => @B16.rec (B16 AVal) (fun _ => B16 (B16 AVal)) (fun x0 x1 x2 x3 x4 x5 x6 x7 x8 x9 x10 x11 x12 x13 x14 x15 => ⟨x0, x1, x2, v, x4, x5, x6, x7, x8, x9, x10, x11, x12, x13, x14, x15⟩) b) (fun v b => @B16.rec (B16 AVal) (fun _ => B16 (B16 AVal)) (fun x0 x1 x2 x3 x4 x5 x6 x7 x8 x9 x10 x11 x12 x13 x14 x15 => ⟨x0, x1, x2, x3, v, x5, x6, x7, x8, x9, x10, x11, x12, x13, x14, x15⟩) b) (fun v b => @B16.rec (B16 AVal) (fun _ => B16 (B16 AVal)) (fun x0 x1 x2 x3 x4 x5 x6 x7 x8 x9 x10 x11 x12 x13 x14 x15 => ⟨x0, x1, x2, x3, x4, v, x6, x7, x8, x9, x10, x11, x12, x13, x14, x15⟩) b) (fun v b => @B16.rec (B16 AVal) (fun _ => B16 (B16 AVal)) (fun x0 x1 x2 x3 x4 x5 x6 x7 x8 x9 x10 x11 x12 x13 x14 x15 => ⟨x0, x1, x2, x3, x4, x5, v, x7, x8, x9, x10, x11, x12, x13, x14, x15⟩) b) (fun v b => @B16.rec (B16 AVal) (fun _ => B16 (B16 AVal)) (fun x0 x1 x2 x3 x4 x5 x6 x7 x8 x9 x10 x11 x12 x13 x14 x15 => ⟨x0, x1, x2, x3, x4, x5, x6, v, x8, x9, x10, x11, x12, x13, x14, x15⟩) b) (fun v b => @B16.rec (B16 AVal) (fun _ => B16 (B16 AVal)) (fun x0 x1 x2 x3 x4 x5 x6 x7 x8 x9 x10 x11 x12 x13 x14 x15 => ⟨x0, x1, x2, x3, x4, x5, x6, x7, v, x9, x10, x11, x12, x13, x14, x15⟩) b) (fun v b => @B16.rec (B16 AVal) (fun _ => B16 (B16 AVal)) (fun x0 x1 x2 x3 x4 x5 x6 x7 x8 x9 x10 x11 x12 x13 x14 x15 => ⟨x0, x1, x2, x3, x4, x5, x6, x7, x8, v, x10, x11, x12, x13, x14, x15⟩) b) (fun v b => @B16.rec (B16 AVal) (fun _ => B16 (B16 AVal)) (fun x0 x1 x2 x3 x4 x5 x6 x7 x8 x9 x10 x11 x12 x13 x14 x15 => ⟨x0, x1, x2, x3, x4, x5, x6, x7, x8, x9, v, x11, x12, x13, x14, x15⟩) b) (fun v b => @B16.rec (B16 AVal) (fun _ => B16 (B16 AVal)) (fun x0 x1 x2 x3 x4 x5 x6 x7 x8 x9 x10 x11 x12 x13 x14 x15 => ⟨x0, x1, x2, x3, x4, x5, x6, x7, x8, x9, x10, v, x12, x13, x14, x15⟩) b) (fun v b => @B16.rec (B16 AVal) (fun _ => B16 (B16 AVal)) (fun x0 x1 x2 x3 x4 x5 x6 x7 x8 x9 x10 x11 x12 x13 x14 x15 => ⟨x0, x1, x2, x3, x4, x5, x6, x7, x8, x9, x10, x11, v, x13, x14, x15⟩) b) (fun v b => @B16.rec (B16 AVal) (fun _ => B16 (B16 AVal)) (fun x0 x1 x2 x3 x4 x5 x6 x7 x8 x9 x10 x11 x12 x13 x14 x15 => ⟨x0, x1, x2, x3, x4, x5, x6, x7, x8, x9, x10, x11, x12, v, x14, x15⟩) b) (fun v b => @B16.rec (B16 AVal) (fun _ => B16 (B16 AVal)) (fun x0 x1 x2 x3 x4 x5 x6 x7 x8 x9 x10 x11 x12 x13 x14 x15 => ⟨x0, x1, x2, x3, x4, x5, x6, x7, x8, x9, x10, x11, x12, x13, v, x15⟩) b) (fun v b => @B16.rec (B16 AVal) (fun _ => B16 (B16 AVal)) (fun x0 x1 x2 x3 x4 x5 x6 x7 x8 x9 x10 x11 x12 x13 x14 x15 => ⟨x0, x1, x2, x3, x4, x5, x6, x7, x8, x9, x10, x11, x12, x13, x14, v⟩) b)
def dg : Nat → D16
  | 0 => .d0
  | 1 => .d1
  | 2 => .d2
  | 3 => .d3
  | 4 => .d4
  | 5 => .d5
  | 6 => .d6
  | 7 => .d7
  | 8 => .d8
  | 9 => .d9
  | 10 => .d10
  | 11 => .d11
  | 12 => .d12
  | 13 => .d13
  | 14 => .d14
  | _ => .d15
def D16.num : D16 → Nat
  | .d0 => 0
  | .d1 => 1
  | .d2 => 2
  | .d3 => 3
  | .d4 => 4
  | .d5 => 5
  | .d6 => 6
  | .d7 => 7
  | .d8 => 8
  | .d9 => 9
  | .d10 => 10
  | .d11 => 11
  | .d12 => 12
  | .d13 => 13
  | .d14 => 14
  | .d15 => 15
theorem dg_num (t : Nat) (h : t < 16) : (dg t).num = t := by
  have : ∀ t, t < 16 → (dg t).num = t := by decide
  exact this t h
theorem getA_setA (d e : D16) (v : AVal) (b : B16 AVal) : getA d (setA e v b) = if d.num = e.num then v else getA d b := by
  cases d <;> cases e <;> rfl
theorem getB_setB (d e : D16) (v : B16 AVal) (b : B16 (B16 AVal)) : getB d (setB e v b) = if d.num = e.num then v else getB d b := by
  cases d <;> cases e <;> rfl
abbrev TrB : Type := B16 (B16 AVal)
noncomputable def getN (t : Nat) (tr : TrB) : AVal := getA (dg (Nat.mod t 16)) (getB (dg (Nat.div t 16)) tr)
noncomputable def setN (v : AVal) (t : Nat) (tr : TrB) : TrB := setB (dg (Nat.div t 16)) (setA (dg (Nat.mod t 16)) v (getB (dg (Nat.div t 16)) tr)) tr
def row16 (e : Nat → AVal) (k : Nat) : B16 AVal := ⟨e (Nat.add k 0), e (Nat.add k 1), e (Nat.add k 2), e (Nat.add k 3), e (Nat.add k 4), e (Nat.add k 5), e (Nat.add k 6), e (Nat.add k 7), e (Nat.add k 8), e (Nat.add k 9), e (Nat.add k 10), e (Nat.add k 11), e (Nat.add k 12), e (Nat.add k 13), e (Nat.add k 14), e (Nat.add k 15)⟩
def tabT (e : Env) : TrB := ⟨row16 e 0, row16 e 16, row16 e 32, row16 e 48, row16 e 64, row16 e 80, row16 e 96, row16 e 112, row16 e 128, row16 e 144, row16 e 160, row16 e 176, row16 e 192, row16 e 208, row16 e 224, row16 e 240⟩
theorem getN_setN (v : AVal) (x t : Nat) (tr : TrB) (hx : x < 256) (ht : t < 256) : getN x (setN v t tr) = if x = t then v else getN x tr := by
  have e1 : (dg (x / 16)).num = x / 16 := dg_num _ (by omega)
  have e2 : (dg (t / 16)).num = t / 16 := dg_num _ (by omega)
  have e3 : (dg (x % 16)).num = x % 16 := dg_num _ (by omega)
  have e4 : (dg (t % 16)).num = t % 16 := dg_num _ (by omega)
  show getA (dg (x % 16)) (getB (dg (x / 16)) (setB (dg (t / 16)) (setA (dg (t % 16)) v (getB (dg (t / 16)) tr)) tr)) = _
  rw [getB_setB, e1, e2]
  by_cases h1 : x / 16 = t / 16
  · rw [if_pos h1, getA_setA, e3, e4]
    by_cases h2 : x % 16 = t % 16
    · rw [if_pos h2, if_pos (by omega)]
    · rw [if_neg h2, if_neg (by omega)]
      show getA (dg (x % 16)) (getB (dg (t / 16)) tr) = getA (dg (x % 16)) (getB (dg (x / 16)) tr)
      rw [h1]
  · rw [if_neg h1, if_neg (by intro e; exact h1 (by rw [e]))]
    rfl
theorem get16_row (e : Nat → AVal) (k : Nat) (d : D16) : getA d (row16 e k) = e (k + d.num) := by cases d <;> rfl
theorem get16_tab (e : Env) (d : D16) : getB d (tabT e) = row16 e (16 * d.num) := by cases d <;> rfl
theorem getN_tabT (t : Nat) (e : Env) (h : t < 256) : getN t (tabT e) = e t := by
  show getA (dg (t % 16)) (getB (dg (t / 16)) (tabT e)) = _
  rw [get16_tab, get16_row, dg_num _ (by omega), dg_num _ (by omega)]
  congr 1; omega
structure TS where
  tr : TrB
  rest : Env
  boxes : List (List AVal)
  defs : List (FuncId × List AVal)
structure FC where
  call : Call
  n : Nat
noncomputable def absE (Y : FC) (tr : TrB) (rest : Env) : Env := fun x => @Bool.rec (fun _ => AVal) (rest x) (getN x tr) (Nat.blt x Y.n)
noncomputable def abs (Y : FC) (s : TS) : FS := ⟨absE Y s.tr s.rest, s.boxes, Y.n, s.defs⟩
noncomputable def ofFS (Y : FC) (s : FS) : TS := @FS.rec (fun _ => TS) (fun e b _ df => ⟨tabT e, e, b, df⟩) s
inductive OutT where
  | cont (s : TS) (h : Heap)
  | panic (v : AVal) (s : TS) (h : Heap)
noncomputable def absO (Y : FC) : OutT → Out
  | .cont s h => .cont (abs Y s) h
  | .panic v s h => .panic v (abs Y s) h
noncomputable def ofO (Y : FC) : Out → OutT := @Out.rec (fun _ => OutT) (fun s h => .cont (ofFS Y s) h) (fun v s h => .panic v (ofFS Y s) h)
def FC.ok (Y : FC) : Prop := Y.n ≤ 256
theorem blt_true {x n : Nat} : Nat.blt x n = true ↔ x < n := iff_of_eq (Nat.ble_eq (x := x + 1) (y := n))
theorem blt_false {x n : Nat} : Nat.blt x n = false ↔ ¬ x < n := by
  cases h : Nat.blt x n with
  | true => simp [blt_true.1 h]
  | false =>
    simp only [true_iff]
    intro e
    rw [blt_true.2 e] at h; cases h
theorem absE_lt {Y : FC} {tr : TrB} {rest : Env} {x : Nat} (h : x < Y.n) : absE Y tr rest x = getN x tr := by
  unfold absE; rw [blt_true.2 h]
theorem absE_ge {Y : FC} {tr : TrB} {rest : Env} {x : Nat} (h : ¬ x < Y.n) : absE Y tr rest x = rest x := by
  unfold absE; rw [blt_false.2 h]
theorem absE_set {Y : FC} (hY : Y.ok) {tr : TrB} {rest : Env} {t : Nat} {v : AVal} (ht : t < Y.n) : absE Y (setN v t tr) rest = setE (absE Y tr rest) t v := by
  funext x
  unfold setE
  by_cases hx : x < Y.n
  · rw [absE_lt hx, absE_lt hx, getN_setN _ _ _ _ (Nat.lt_of_lt_of_le hx hY) (Nat.lt_of_lt_of_le ht hY)]
    by_cases e : x = t
    · subst e; simp
    · have e' : Nat.beq x t = false := by cases h : Nat.beq x t with | false => rfl | true => exact (e (Nat.eq_of_beq_eq_true h)).elim
      rw [if_neg e, e']; rfl
  · have e : x ≠ t := fun e => hx (e ▸ ht)
    have e' : Nat.beq x t = false := by cases h : Nat.beq x t with | false => rfl | true => exact (e (Nat.eq_of_beq_eq_true h)).elim
    rw [absE_ge hx, absE_ge hx, e']; rfl
theorem absE_rest {Y : FC} {tr : TrB} {rest : Env} {t : Nat} {v : AVal} (ht : ¬ t < Y.n) : absE Y tr (setE rest t v) = setE (absE Y tr rest) t v := by
  funext x
  unfold setE
  by_cases hx : x < Y.n
  · have e : x ≠ t := fun e => ht (e ▸ hx)
    have e' : Nat.beq x t = false := by cases h : Nat.beq x t with | false => rfl | true => exact (e (Nat.eq_of_beq_eq_true h)).elim
    rw [absE_lt hx, absE_lt hx, e']; rfl
  · rw [absE_ge hx, absE_ge hx]
theorem absE_tab {Y : FC} (hY : Y.ok) (e : Env) : absE Y (tabT e) e = e := by
  funext x
  by_cases hx : x < Y.n
  · rw [absE_lt hx, getN_tabT _ _ (Nat.lt_of_lt_of_le hx hY)]
  · rw [absE_ge hx]
theorem abs_ofFS {Y : FC} (hY : Y.ok) {s : FS} (hn : s.n = Y.n) : abs Y (ofFS Y s) = s := by
  obtain ⟨e, b, n, df⟩ := s
  simp only at hn
  subst hn
  simp [abs, ofFS, absE_tab hY]
noncomputable def opT (Y : FC) (s : TS) : Operand → Option AVal := @Operand.rec (fun _ => Option AVal) (fun t => some (absE Y s.tr s.rest t)) (fun v => @Option.rec AVal (fun _ => Option AVal) none (fun v => some v) (constOf v)) (fun _ => none) (fun f => some (.fn f []))
noncomputable def putD (Y : FC) (s : TS) (h : Heap) (d : Tmp) (v : AVal) : Option OutT :=
  @Bool.rec (fun _ => Option OutT) none (@TS.rec (fun _ => Option OutT) (fun tr rest b df => some (.cont ⟨setN v d tr, rest, b, df⟩ h)) s) (Nat.blt d Y.n)
noncomputable def putO (Y : FC) (s : TS) (h : Heap) (dst : Option Tmp) (v : AVal) : Option OutT := @Option.rec Tmp (fun _ => Option OutT) (some (.cont s h)) (fun d => putD Y s h d v) dst
noncomputable def dropD (Y : FC) (s : TS) (t : Tmp) : TS :=
  @TS.rec (fun _ => TS) (fun tr rest b df => @Bool.rec (fun _ => TS) ⟨tr, setE rest t (rest t).stripA, b, df⟩ ⟨setN (getN t tr).stripA t tr, rest, b, df⟩ (Nat.blt t Y.n)) s
noncomputable def dropT (Y : FC) (s : TS) (x : Operand) : TS := @Operand.rec (fun _ => TS) (dropD Y s) (fun _ => s) (fun _ => s) (fun _ => s) x
noncomputable def val1 (Y : FC) (s : TS) (h : Heap) (dst : Option Tmp) (v : Option AVal) : Option OutT := @Option.rec AVal (fun _ => Option OutT) none (fun v => putO Y s h dst v) v
theorem opT_eq {Y : FC} {s : TS} (x : Operand) : opT Y s x = opnd (abs Y s).env x := by
  cases x <;> try rfl
  rename_i v
  show @Option.rec AVal (fun _ => Option AVal) none (fun v => some v) (constOf v) = constOf v
  cases constOf v <;> rfl
theorem putO_eq {Y : FC} (hY : Y.ok) {s : TS} {h : Heap} {dst : Option Tmp} {v : AVal} : (putO Y s h dst v).map (absO Y) = cont? ((abs Y s).put dst v) h := by
  cases dst with
  | none => rfl
  | some d =>
    obtain ⟨tr, rest, b, df⟩ := s
    show (putD Y ⟨tr, rest, b, df⟩ h d v).map (absO Y) = _
    unfold putD FS.put
    show _ = cont? (cond (Nat.blt d Y.n) _ _) h
    cases hb : Nat.blt d Y.n with
    | false => rfl
    | true =>
      show some (absO Y (.cont ⟨setN v d tr, rest, b, df⟩ h)) = some (.cont ⟨setE (absE Y tr rest) d v, b, Y.n, df⟩ h)
      simp only [absO, abs, absE_set hY (blt_true.1 hb)]
theorem val1_eq {Y : FC} (hY : Y.ok) {s : TS} {h : Heap} {dst : Option Tmp} {v : Option AVal} : (val1 Y s h dst v).map (absO Y) = (match v with | some v => cont? ((abs Y s).put dst v) h | none => none) := by
  cases v with
  | none => rfl
  | some v => exact putO_eq hY
theorem dropT_eq {Y : FC} (hY : Y.ok) {s : TS} (x : Operand) : abs Y (dropT Y s x) = (abs Y s).drop x := by
  cases x with
  | tmp t =>
    obtain ⟨tr, rest, b, df⟩ := s
    show abs Y (dropD Y ⟨tr, rest, b, df⟩ t) = _
    unfold dropD FS.drop
    cases hb : Nat.blt t Y.n with
    | false =>
      show (⟨absE Y tr (setE rest t (rest t).stripA), b, Y.n, df⟩ : FS) = ⟨setE (absE Y tr rest) t (absE Y tr rest t).stripA, b, Y.n, df⟩
      rw [absE_rest (blt_false.1 hb), absE_ge (blt_false.1 hb)]
    | true =>
      show (⟨absE Y (setN (getN t tr).stripA t tr) rest, b, Y.n, df⟩ : FS) = ⟨setE (absE Y tr rest) t (absE Y tr rest t).stripA, b, Y.n, df⟩
      rw [absE_set hY (blt_true.1 hb), absE_lt (blt_true.1 hb)]
  | _ => rfl
end Go.Den
namespace Go.Den
open Go
abbrev StepT : Type := Ctx → FuncId → FC → TS → Heap → Oper → Option OutT
noncomputable abbrev ob {α β : Type} (o : Option α) (g : α → Option β) : Option β := @Option.rec α (fun _ => Option β) none g o
noncomputable abbrev cb {α : Type} (c : Bool) (a b : α) : α := @Bool.rec (fun _ => α) b a c
theorem cb_eq {α : Type} (c : Bool) (a b : α) : cb c a b = cond c a b := by cases c <;> rfl
theorem ob_some {α β : Type} (a : α) (g : α → Option β) : ob (some a) g = g a := rfl
theorem ob_none {α β : Type} (g : α → Option β) : ob none g = none := rfl
noncomputable def outN : Out → Nat := @Out.rec (fun _ => Nat) (fun s _ => s.n) (fun _ s _ => s.n)
noncomputable def back (Y : FC) (r : Option Out) : Option OutT := ob r fun r => cb (Nat.beq (outN r) Y.n) (some (ofO Y r)) none
noncomputable def kAny : StepT := fun X f Y s h o => back Y (stepOp X Y.call f (abs Y s) h o)
noncomputable def nth {α : Type} : List α → Nat → Option α := @List.rec α (fun _ => Nat → Option α) (fun _ => none) (fun a _ ih n => @Nat.rec (fun _ => Option α) (some a) (fun m _ => ih m) n)
theorem nth_eq {α : Type} : ∀ (l : List α) (n : Nat), nth l n = l[n]?
  | [], n => by simp [nth]
  | a :: l, 0 => rfl
  | a :: l, n + 1 => by simp only [List.getElem?_cons_succ]; exact nth_eq l n
noncomputable def setL {α : Type} (v : α) : List α → Nat → List α := @List.rec α (fun _ => Nat → List α) (fun _ => []) (fun a t ih n => @Nat.rec (fun _ => List α) (v :: t) (fun m _ => a :: ih m) n)
theorem setL_eq {α : Type} (v : α) : ∀ (l : List α) (n : Nat), setL v l n = l.set n v
  | [], n => by simp [setL]
  | a :: l, 0 => rfl
  | a :: l, n + 1 => by
    show a :: setL v l n = _
    rw [setL_eq v l n]; rfl
noncomputable def putL : List AVal → List AVal → Nat → List AVal := @List.rec AVal (fun _ => List AVal → Nat → List AVal) (fun l _ => l) (fun c _ ih l i => ih (setL c l i) (Nat.succ i))
theorem putL_eq : ∀ (cs l : List AVal) (i : Nat), putL cs l i = putAt l i cs
  | [], l, i => by cases i <;> rfl
  | c :: cs, l, i => by
    show putL cs (setL c l i) (i + 1) = _
    rw [putL_eq cs, setL_eq]; rfl
noncomputable def stripR : AVal → AVal := @AVal.rec (fun _ => AVal) (fun _ => Unit) (fun b => .bool b) (fun k n => .int k n) (fun s => .str s) (.nilp ) (fun b o => .ptr b o) (fun b o => .loc b o) (fun cs o _ih => .ept cs o) (.nils ) (fun w n cs _ih => .isl false n cs) (fun b o n z => .msl b o n z) (.nilm ) (fun b => .map b) (.nilf ) (fun f cs _ih => .fn f cs) (.nili ) (fun t v _ih => .iface t v) (fun cs _ih => .agg cs) (fun cs _ih => .tup cs) () (fun _ _ _ _ => ())
noncomputable def stripAR : AVal → AVal := @AVal.rec (fun _ => AVal) (fun _ => Unit) (fun b => .bool b) (fun k n => .int k n) (fun s => .str s) (.nilp ) (fun b o => .ptr b o) (fun b o => .loc b o) (fun cs o _ih => .ept cs o) (.nils ) (fun w n cs _ih => .isl false n cs) (fun b o n z => .msl b o n z) (.nilm ) (fun b => .map b) (.nilf ) (fun f cs _ih => .fn f cs) (.nili ) (fun t v _ih => .iface t v) (fun cs _ih => .agg (cs.map AVal.strip)) (fun cs _ih => .tup cs) () (fun _ _ _ _ => ())
noncomputable def isLocR : AVal → Bool := @AVal.rec (fun _ => Bool) (fun _ => Unit) (fun b => false) (fun k n => false) (fun s => false) (false) (fun b o => false) (fun b o => true) (fun cs o _ih => false) (false) (fun w n cs _ih => false) (fun b o n z => false) (false) (fun b => false) (false) (fun f cs _ih => false) (false) (fun t v _ih => false) (fun cs _ih => false) (fun cs _ih => true) () (fun _ _ _ _ => ())
noncomputable def cellsR : AVal → List AVal := @AVal.rec (fun _ => List AVal) (fun _ => Unit) (fun b => [.bool b]) (fun k n => [.int k n]) (fun s => [.str s]) ([.nilp ]) (fun b o => [.ptr b o]) (fun b o => [.loc b o]) (fun cs o _ih => [.ept cs o]) ([.nils ]) (fun w n cs _ih => [.isl w n cs]) (fun b o n z => [.msl b o n z]) ([.nilm ]) (fun b => [.map b]) ([.nilf ]) (fun f cs _ih => [.fn f cs]) ([.nili ]) (fun t v _ih => [.iface t v]) (fun cs _ih => cs) (fun cs _ih => [.tup cs]) () (fun _ _ _ _ => ())
theorem stripR_eq (v : AVal) : stripR v = v.strip := by cases v <;> rfl
theorem stripAR_eq (v : AVal) : stripAR v = v.stripA := by cases v <;> rfl
theorem isLocR_eq (v : AVal) : isLocR v = v.isLoc := by cases v <;> rfl
theorem cellsR_eq (v : AVal) : cellsR v = v.cells := by cases v <;> rfl
noncomputable def constR (v : Value) : Option AVal := ob (constOf v) fun v => some v
theorem constR_eq (v : Value) : constR v = constOf v := by unfold constR; cases constOf v <;> rfl
def maxN : IntKind → Nat
  | .i8 => 127 | .i16 => 32767 | .i32 => 2147483647 | .i64 => 9223372036854775807 | .u8 => 255 | .u16 => 65535 | .u32 => 4294967295 | .u64 => 18446744073709551615
theorem wrap_small (k : IntKind) (n : Nat) (h : n ≤ maxN k) : k.wrap n = n := by
  cases k <;> simp [maxN] at h <;> simp [IntKind.wrap, IntKind.bits, IntKind.signed] <;> omega
noncomputable def eqI : Int → Int → Bool := @Int.rec (fun _ => Int → Bool) (fun a b => @Int.rec (fun _ => Bool) (fun b => Nat.beq a b) (fun _ => false) b) (fun a b => @Int.rec (fun _ => Bool) (fun _ => false) (fun b => Nat.beq a b) b)
noncomputable def leI : Int → Int → Bool := @Int.rec (fun _ => Int → Bool) (fun a b => @Int.rec (fun _ => Bool) (fun b => Nat.ble a b) (fun _ => false) b) (fun a b => @Int.rec (fun _ => Bool) (fun _ => true) (fun b => Nat.ble b a) b)
theorem eqI_eq (a b : Int) : eqI a b = (a == b) := by
  cases a <;> cases b <;> simp [eqI]
  · rename_i a b
    show Nat.beq a b = _
    by_cases h : a = b
    · subst h; simp
    · have : Nat.beq a b = false := by cases e : Nat.beq a b with | false => rfl | true => exact (h (Nat.eq_of_beq_eq_true e)).elim
      rw [this]; simp; omega
  · rename_i a b
    show Nat.beq a b = _
    by_cases h : a = b
    · subst h; simp
    · have : Nat.beq a b = false := by cases e : Nat.beq a b with | false => rfl | true => exact (h (Nat.eq_of_beq_eq_true e)).elim
      rw [this]; simp; omega
theorem leI_eq (a b : Int) : leI a b = decide (a ≤ b) := by
  cases a <;> cases b
  · rename_i a b
    show Nat.ble a b = _
    rw [Bool.eq_iff_iff]; simp
  · rename_i a b
    show false = _
    simp; omega
  · rename_i a b
    show true = _
    simp; omega
  · rename_i a b
    show Nat.ble b a = _
    rw [Bool.eq_iff_iff]; simp; omega
noncomputable def addI (k : IntKind) (a b : Int) : AVal := @Int.rec (fun _ => AVal) (fun m => @Int.rec (fun _ => AVal) (fun n => cb (Nat.ble (Nat.add m n) (maxN k)) (.int k (.ofNat (Nat.add m n))) (.int k (k.wrap (a + b)))) (fun _ => .int k (k.wrap (a + b))) b) (fun _ => .int k (k.wrap (a + b))) a
theorem addI_eq (k : IntKind) (a b : Int) : addI k a b = .int k (k.wrap (a + b)) := by
  cases a with
  | negSucc a => rfl
  | ofNat a => cases b with
    | negSucc b => rfl
    | ofNat b =>
      show cb (Nat.ble (a + b) (maxN k)) (AVal.int k ((a + b : Nat) : Int)) (.int k (k.wrap ((a : Int) + (b : Int)))) = AVal.int k (k.wrap ((a : Int) + (b : Int)))
      rw [cb_eq]
      cases h : Nat.ble (a + b) (maxN k) with
      | false => rfl
      | true =>
        have := wrap_small k (a + b) (Nat.le_of_ble_eq_true h)
        simp only [cond_true]
        rw [← this]; simp
noncomputable def sameK (k k' : IntKind) : Bool := Nat.beq k.ctorIdx k'.ctorIdx
theorem sameK_eq (k k' : IntKind) : sameK k k' = decide (k = k') := by cases k <;> cases k' <;> rfl
noncomputable def binI : BinOp → (Bool → Option TypeDesc → IntKind → Int → IntKind → Int → Option AVal) := @BinOp.rec (fun _ => Bool → Option TypeDesc → IntKind → Int → IntKind → Int → Option AVal)
  (fun _ _ k a k' b => cb (sameK k k') (some (addI k a b)) none) (fun l d k a k' b => abin .sub l d (.int k a) (.int k' b)) (fun l d k a k' b => abin .mul l d (.int k a) (.int k' b)) (fun l d k a k' b => abin .quo l d (.int k a) (.int k' b)) (fun l d k a k' b => abin .rem l d (.int k a) (.int k' b))
  (fun l d k a k' b => abin .and l d (.int k a) (.int k' b)) (fun l d k a k' b => abin .or l d (.int k a) (.int k' b)) (fun l d k a k' b => abin .xor l d (.int k a) (.int k' b)) (fun l d k a k' b => abin .shl l d (.int k a) (.int k' b)) (fun l d k a k' b => abin .shr l d (.int k a) (.int k' b)) (fun l d k a k' b => abin .andNot l d (.int k a) (.int k' b))
  (fun _ _ k a k' b => cb (sameK k k') (some (.bool (eqI a b))) none) (fun _ _ k a k' b => cb (sameK k k') (some (.bool (!eqI a b))) none) (fun _ _ k a k' b => cb (sameK k k') (some (.bool (!leI b a))) none) (fun _ _ k a k' b => cb (sameK k k') (some (.bool (leI a b))) none) (fun _ _ k a k' b => cb (sameK k k') (some (.bool (!leI a b))) none) (fun _ _ k a k' b => cb (sameK k k') (some (.bool (leI b a))) none)
theorem binI_eq (op : BinOp) (l : Bool) (d : Option TypeDesc) (k : IntKind) (a : Int) (k' : IntKind) (b : Int) : binI op l d k a k' b = abin op l d (.int k a) (.int k' b) := by
  cases op <;> try rfl
  all_goals
    simp only [abin]
    first
      | (show cb (sameK k k') _ none = cond (decide (k = k')) _ none
         rw [cb_eq, sameK_eq])
  · show cond _ (some (addI k a b)) none = cond _ (some (AVal.int k (k.wrap (a + b)))) none
    rw [addI_eq]
  · show cond _ (some (AVal.bool (eqI a b))) none = cond _ (some (AVal.bool (a == b))) none
    rw [eqI_eq]
  · show cond _ (some (AVal.bool (!eqI a b))) none = cond _ (some (AVal.bool (a != b))) none
    rw [eqI_eq]; rfl
  · show cond _ (some (AVal.bool (!leI b a))) none = cond _ (some (AVal.bool (decide (a < b)))) none
    rw [leI_eq]
    have : (!decide (b ≤ a)) = decide (a < b) := by rw [Bool.eq_iff_iff]; simp
    rw [this]
  · show cond _ (some (AVal.bool (leI a b))) none = cond _ (some (AVal.bool (decide (a ≤ b)))) none
    rw [leI_eq]
  · show cond _ (some (AVal.bool (!leI a b))) none = cond _ (some (AVal.bool (decide (a > b)))) none
    rw [leI_eq]
    have : (!decide (a ≤ b)) = decide (a > b) := by rw [Bool.eq_iff_iff]; simp
    rw [this]
  · show cond _ (some (AVal.bool (leI b a))) none = cond _ (some (AVal.bool (decide (a ≥ b)))) none
    rw [leI_eq]
noncomputable def binS (op : BinOp) (l : Bool) (d : Option TypeDesc) (a b : List UInt8) : Option AVal := @BinOp.rec (fun _ => Option AVal) (abin op l d (.str a) (.str b)) none none none none none none none none none none (some (.bool (beqB a b))) (some (.bool (!beqB a b))) none none none none op
theorem binS_eq (op : BinOp) (l : Bool) (d : Option TypeDesc) (a b : List UInt8) : binS op l d a b = abin op l d (.str a) (.str b) := by cases op <;> rfl
noncomputable def binT (op : BinOp) (l : Bool) (d : Option TypeDesc) (x y : AVal) : Option AVal :=
  @AVal.casesOn (fun _ => Option AVal) x (fun _ => abin op l d x y) (fun k n => @AVal.casesOn (fun _ => Option AVal) y (fun _ => abin op l d x y) (fun k' n' => binI op l d k n k' n') (fun _ => abin op l d x y) (abin op l d x y) (fun _ _ => abin op l d x y) (fun _ _ => abin op l d x y) (fun _ _ => abin op l d x y) (abin op l d x y) (fun _ _ _ => abin op l d x y) (fun _ _ _ _ => abin op l d x y) (abin op l d x y) (fun _ => abin op l d x y) (abin op l d x y) (fun _ _ => abin op l d x y) (abin op l d x y) (fun _ _ => abin op l d x y) (fun _ => abin op l d x y) (fun _ => abin op l d x y)) (fun s => @AVal.casesOn (fun _ => Option AVal) y (fun _ => abin op l d x y) (fun _ _ => abin op l d x y) (fun s' => binS op l d s s') (abin op l d x y) (fun _ _ => abin op l d x y) (fun _ _ => abin op l d x y) (fun _ _ => abin op l d x y) (abin op l d x y) (fun _ _ _ => abin op l d x y) (fun _ _ _ _ => abin op l d x y) (abin op l d x y) (fun _ => abin op l d x y) (abin op l d x y) (fun _ _ => abin op l d x y) (abin op l d x y) (fun _ _ => abin op l d x y) (fun _ => abin op l d x y) (fun _ => abin op l d x y)) (abin op l d x y) (fun _ _ => abin op l d x y) (fun _ _ => abin op l d x y) (fun _ _ => abin op l d x y) (abin op l d x y) (fun _ _ _ => abin op l d x y) (fun _ _ _ _ => abin op l d x y) (abin op l d x y) (fun _ => abin op l d x y) (abin op l d x y) (fun _ _ => abin op l d x y) (abin op l d x y) (fun _ _ => abin op l d x y) (fun _ => abin op l d x y) (fun _ => abin op l d x y)
theorem binT_eq (op : BinOp) (l : Bool) (d : Option TypeDesc) (x y : AVal) : binT op l d x y = abin op l d x y := by
  cases x <;> try rfl
  · rename_i k a
    cases y <;> try rfl
    exact binI_eq op l d k a _ _
  · rename_i a
    cases y <;> try rfl
    exact binS_eq op l d a _
noncomputable def noLocsR : List AVal → Bool := @List.rec AVal (fun _ => Bool) true (fun v _ ih => cb (isLocR v) false ih)
theorem noLocsR_eq : ∀ l, noLocsR l = noLocs l
  | [] => rfl
  | v :: l => by
    show cb (isLocR v) false (noLocsR l) = _
    rw [cb_eq, isLocR_eq, noLocsR_eq l]
    simp only [noLocs, List.all_cons]
    cases v.isLoc <;> rfl
noncomputable def appL (a b : List AVal) : List AVal := @List.rec AVal (fun _ => List AVal) b (fun v _ ih => v :: ih) a
theorem appL_eq : ∀ a b, appL a b = a ++ b
  | [], _ => rfl
  | v :: a, b => by show v :: appL a b = _; rw [appL_eq a b]; rfl
noncomputable def lenL {α : Type} : List α → Nat := @List.rec α (fun _ => Nat) 0 (fun _ _ ih => Nat.succ ih)
theorem lenL_eq {α : Type} : ∀ l : List α, lenL l = l.length
  | [] => rfl
  | _ :: l => by show Nat.succ (lenL l) = _; rw [lenL_eq l]; rfl
noncomputable def rowB (s : TS) (h : Heap) (b off : Nat) : Option (List AVal × Nat) := ob (nth h.objs b) fun o => @AObj.rec (fun _ => Option (List AVal × Nat)) (fun l => some (l, off)) (fun _ => none) none o
noncomputable def rowL (s : TS) (i off : Nat) : Option (List AVal × Nat) := ob (nth s.boxes i) fun l => some (l, off)
noncomputable def rowT (s : TS) (h : Heap) (p : AVal) : Option (List AVal × Nat) :=
  @AVal.casesOn (fun _ => Option (List AVal × Nat)) p (fun _ => none) (fun _ _ => none) (fun _ => none) none (fun b off => rowB s h b off) (fun i off => rowL s i off) (fun l off => some (l, off)) none (fun _ _ _ => none) (fun _ _ _ _ => none) none (fun _ => none) none (fun _ _ => none) none (fun _ _ => none) (fun _ => none) (fun _ => none)
noncomputable def read1 (l : List AVal) (off : Nat) : Option AVal := ob (nth l off) fun v => some (stripR v)
noncomputable def tl (l : List AVal) : List AVal := @List.rec AVal (fun _ => List AVal) [] (fun _ t _ => t) l
noncomputable def dropL (n : Nat) (l : List AVal) : List AVal := @Nat.rec (fun _ => List AVal → List AVal) (fun l => l) (fun _ ih l => ih (tl l)) n l
noncomputable def takeS (l : List AVal) (n : Nat) : List AVal := @List.rec AVal (fun _ => Nat → List AVal) (fun _ => []) (fun a _ ih n => @Nat.rec (fun _ => List AVal) [] (fun m _ => stripR a :: ih m) n) l n
theorem dropL_eq : ∀ (n : Nat) (l : List AVal), dropL n l = l.drop n
  | 0, l => rfl
  | n + 1, l => by
    show dropL n (tl l) = _
    rw [dropL_eq n]
    cases l <;> simp [tl]
theorem takeS_eq : ∀ (l : List AVal) (n : Nat), takeS l n = (l.take n).map AVal.strip
  | [], n => by simp [takeS]
  | a :: l, 0 => by rfl
  | a :: l, n + 1 => by
    show stripR a :: takeS l n = _
    rw [takeS_eq l n, stripR_eq]; rfl
noncomputable def readA (n : Nat) (l : List AVal) (off : Nat) : Option AVal := cb (Nat.ble (Nat.add off n) (lenL l)) (some (.agg (takeS (dropL off l) n))) none
noncomputable def readT (agg : Bool) (n : Nat) (l : List AVal) (off : Nat) : Option AVal := @Bool.rec (fun _ => Option AVal) (read1 l off) (readA n l off) agg
noncomputable def loadT (s : TS) (h : Heap) (agg : Bool) (n : Nat) (p : AVal) : Option AVal := ob (rowT s h p) fun r => readT agg n r.1 r.2
noncomputable def storeB (s : TS) (h : Heap) (b off : Nat) (cs : List AVal) : Option (TS × Heap) := ob (nth h.objs b) fun o =>
  @AObj.rec (fun _ => Option (TS × Heap)) (fun l => cb (Nat.ble h.ro b && Nat.ble (Nat.add off (lenL cs)) (lenL l)) (@Heap.rec (fun _ => Option (TS × Heap)) (fun objs ro => some (s, ⟨setL (.cells (putL cs l off)) objs b, ro⟩)) h) none) (fun _ => none) none o
noncomputable def storeL (s : TS) (h : Heap) (i off : Nat) (cs : List AVal) : Option (TS × Heap) := ob (nth s.boxes i) fun l =>
  cb (Nat.ble (Nat.add off (lenL cs)) (lenL l)) (@TS.rec (fun _ => Option (TS × Heap)) (fun tr rest b df => some (⟨tr, rest, setL (putL cs l off) b i, df⟩, h)) s) none
noncomputable def storeT (s : TS) (h : Heap) (p : AVal) (cs : List AVal) : Option (TS × Heap) :=
  @AVal.casesOn (fun _ => Option (TS × Heap)) p (fun _ => none) (fun _ _ => none) (fun _ => none) none (fun b off => storeB s h b off cs) (fun i off => storeL s h i off cs) (fun _ _ => none) none (fun _ _ _ => none) (fun _ _ _ _ => none) none (fun _ => none) none (fun _ _ => none) none (fun _ _ => none) (fun _ => none) (fun _ => none)
variable {X : Ctx} {f : FuncId} {Y : FC} {s : TS} {h : Heap} {o : Oper}
theorem rowT_eq {p : AVal} : rowT s h p = rowAt (abs Y s) h p := by
  cases p <;> try rfl
  · rename_i b off
    show ob (nth h.objs b) _ = _
    rw [nth_eq]
    simp only [rowAt]
    cases h.objs[b]? with
    | none => rfl
    | some o => cases o <;> rfl
  · rename_i i off
    show ob (nth s.boxes i) _ = _
    rw [nth_eq]
    simp only [rowAt]
    show _ = (match s.boxes[i]? with | some l => some (l, off) | none => none)
    cases s.boxes[i]? <;> rfl
theorem readT_eq {agg : Bool} {n : Nat} {l : List AVal} {off : Nat} : readT agg n l off = readRow agg n l off := by
  cases agg with
  | true =>
    show cb (Nat.ble (off + n) (lenL l)) _ none = _
    rw [cb_eq, lenL_eq, takeS_eq, dropL_eq]
    rfl
  | false =>
    show ob (nth l off) _ = _
    rw [nth_eq]
    simp only [readRow]
    cases l[off]? with
    | none => rfl
    | some v => show some (stripR v) = some v.strip; rw [stripR_eq]
theorem loadT_eq {agg : Bool} {n : Nat} {p : AVal} : loadT s h agg n p = aload (abs Y s) h agg n p := by
  unfold loadT aload
  rw [rowT_eq (Y := Y)]
  cases rowAt (abs Y s) h p with
  | none => rfl
  | some r => exact readT_eq
theorem storeT_eq {p : AVal} {cs : List AVal} : (storeT s h p cs).map (fun r => (abs Y r.1, r.2)) = astore (abs Y s) h p cs := by
  cases p <;> try rfl
  · rename_i b off
    show Option.map _ (ob (nth h.objs b) _) = _
    rw [nth_eq]
    simp only [astore]
    cases h.objs[b]? with
    | none => rfl
    | some o => cases o with
      | cells l =>
        show Option.map _ (cb _ _ _) = cond _ _ _
        rw [cb_eq, lenL_eq, lenL_eq]
        show Option.map _ (cond (Nat.ble h.ro b && Nat.ble (off + cs.length) l.length) _ _) = _
        cases (Nat.ble h.ro b && Nat.ble (off + cs.length) l.length) with
        | false => rfl
        | true =>
          obtain ⟨objs, ro⟩ := h
          show some (abs Y s, (⟨setL (.cells (putL cs l off)) objs b, ro⟩ : Heap)) = _
          rw [setL_eq, putL_eq]; rfl
      | _ => rfl
  · rename_i i off
    show Option.map _ (ob (nth s.boxes i) _) = _
    rw [nth_eq]
    simp only [astore]
    show _ = (match s.boxes[i]? with | some l => _ | none => none)
    cases s.boxes[i]? with
    | none => rfl
    | some l =>
      show Option.map _ (cb _ _ _) = cond _ _ _
      rw [cb_eq, lenL_eq, lenL_eq]
      show Option.map _ (cond (Nat.ble (off + cs.length) l.length) _ _) = _
      cases (Nat.ble (off + cs.length) l.length) with
      | false => rfl
      | true =>
        obtain ⟨tr, rest, b, df⟩ := s
        show some ((⟨absE Y tr rest, setL (putL cs l off) b i, Y.n, df⟩ : FS), h) = _
        rw [setL_eq, putL_eq]; rfl
noncomputable def kMove1 (X : Ctx) (f : FuncId) (Y : FC) (s : TS) (h : Heap) (dst : Option Tmp) (x : Operand) (v : AVal) : Option OutT :=
  cb (isLin X f x || linDst X f dst) (putO Y (dropT Y s x) h dst v) (putO Y s h dst (stripAR v))
noncomputable def kMove (x : Operand) : StepT := fun X f Y s h o => ob (opT Y s x) fun v => kMove1 X f Y s h o.dst x v
noncomputable def kVal1 (x : Operand) (g : Ctx → AVal → Option AVal) : StepT := fun X f Y s h o => val1 Y s h o.dst (ob (opT Y s x) (g X))
noncomputable def kVal2 (x y : Operand) (g : Ctx → AVal → AVal → Option AVal) : StepT := fun X f Y s h o => val1 Y s h o.dst (ob (opT Y s x) fun a => ob (opT Y s y) (g X a))
noncomputable def kBin (op : BinOp) (t : TypeId) (x y : Operand) (_ : TypeId) : StepT := kVal2 x y fun X a b => binT op (Region.isConst x || Region.isConst y) (X.P.underlying t) a b
noncomputable def kUn (op : UnOp) (_ : TypeId) (x : Operand) : StepT := kVal1 x fun _ a => aun op a
noncomputable def kConv (t u : TypeId) (x : Operand) : StepT := kVal1 x fun X a => aconv X.P t u a
noncomputable def kFA (t : TypeId) (x : Operand) (i : Nat) : StepT := kVal1 x fun X a => afieldAddr X.P t a i
noncomputable def kF (t : TypeId) (x : Operand) (i : Nat) : StepT := kVal1 x fun X a => afield X.P t a i
noncomputable def kIA (t : TypeId) (x i : Operand) : StepT := kVal2 x i fun X a b => aindexAddr X.P t a b
noncomputable def idxS (l : List UInt8) (j : Int) : Option AVal := @Int.rec (fun _ => Option AVal) (fun n => ob (nth l n) fun b => some (.int .u8 b.toNat)) (fun _ => none) j
noncomputable def idxT (P : Program) (t : TypeId) (a b : AVal) : Option AVal :=
  @AVal.casesOn (fun _ => Option AVal) a (fun _ => none) (fun _ _ => none) (fun l => ob (P.underlying t) fun d => @AVal.casesOn (fun _ => Option AVal) b (fun _ => none) (fun _ j => cb (Nat.beq d.ctorIdx 3) (idxS l j) none) (fun _ => none) none (fun _ _ => none) (fun _ _ => none) (fun _ _ => none) none (fun _ _ _ => none) (fun _ _ _ _ => none) none (fun _ => none) none (fun _ _ => none) none (fun _ _ => none) (fun _ => none) (fun _ => none))
    none (fun _ _ => none) (fun _ _ => none) (fun _ _ => none) none (fun _ _ _ => none) (fun _ _ _ _ => none) none (fun _ => none) none (fun _ _ => none) none (fun _ _ => none) (fun _ => none) (fun _ => none)
noncomputable def kI (t : TypeId) (x i : Operand) : StepT := kVal2 x i fun X a b => aindex X.P t a b
theorem kVal1_eq (hY : Y.ok) (x : Operand) (g : Ctx → AVal → Option AVal) (hs : valOp X (abs Y s) h o.op = (match opnd (abs Y s).env x with | some a => g X a | none => none)) :
    (kVal1 x g X f Y s h o).map (absO Y) = (match valOp X (abs Y s) h o.op with | some v => cont? ((abs Y s).put o.dst v) h | none => none) := by
  unfold kVal1
  rw [val1_eq hY, hs, opT_eq]
  cases opnd (abs Y s).env x <;> rfl
theorem kVal2_eq (hY : Y.ok) (x y : Operand) (g : Ctx → AVal → AVal → Option AVal) (hs : valOp X (abs Y s) h o.op = (match opnd (abs Y s).env x, opnd (abs Y s).env y with | some a, some b => g X a b | _, _ => none)) :
    (kVal2 x y g X f Y s h o).map (absO Y) = (match valOp X (abs Y s) h o.op with | some v => cont? ((abs Y s).put o.dst v) h | none => none) := by
  unfold kVal2
  rw [val1_eq hY, hs, opT_eq, opT_eq]
  cases opnd (abs Y s).env x with
  | none => rfl
  | some a => cases opnd (abs Y s).env y <;> rfl
theorem kMove_eq (hY : Y.ok) (x : Operand) : (kMove x X f Y s h o).map (absO Y) = (match opnd (abs Y s).env x with
    | some v => cont? ((leave X f o.dst x (abs Y s)).put o.dst (moved X f o.dst x v)) h
    | none => none) := by
  unfold kMove
  rw [opT_eq]
  cases opnd (abs Y s).env x with
  | none => rfl
  | some v =>
    show (kMove1 X f Y s h o.dst x v).map (absO Y) = _
    unfold kMove1 leave moved
    rw [cb_eq]
    cases (isLin X f x || linDst X f o.dst) with
    | true =>
      simp only [cond_true]
      rw [putO_eq hY, dropT_eq hY]
    | false => simp only [cond_false]; rw [stripAR_eq]; exact putO_eq hY
end Go.Den
namespace Go.Den
open Go
variable {X : Ctx} {f : FuncId} {Y : FC} {s : TS} {h : Heap} {o : Oper}
theorem back_ok (hY : Y.ok) {r : Option Out} {out : OutT} (hb : back Y r = some out) : r = some (absO Y out) := by
  cases r with
  | none => cases hb
  | some r =>
    change cb (Nat.beq (outN r) Y.n) (some (ofO Y r)) none = some out at hb
    cases hn : Nat.beq (outN r) Y.n with
    | false => rw [hn] at hb; cases hb
    | true =>
      rw [hn] at hb
      have hn := Nat.eq_of_beq_eq_true hn
      cases hb
      cases r with
      | cont s' h' => show _ = some (Out.cont (abs Y (ofFS Y s')) h'); rw [abs_ofFS hY hn]
      | panic v s' h' => show _ = some (Out.panic v (abs Y (ofFS Y s')) h'); rw [abs_ofFS hY hn]
noncomputable def onBool (v : AVal) (g : Bool → Option OutT) : Option OutT :=
  @AVal.casesOn (fun _ => Option OutT) v g (fun _ _ => none) (fun _ => none) none (fun _ _ => none) (fun _ _ => none) (fun _ _ => none) none (fun _ _ _ => none) (fun _ _ _ _ => none) none (fun _ => none) none (fun _ _ => none) none (fun _ _ => none) (fun _ => none) (fun _ => none)
noncomputable def onTup (v : AVal) (g : List AVal → Option OutT) : Option OutT :=
  @AVal.casesOn (fun _ => Option OutT) v (fun _ => none) (fun _ _ => none) (fun _ => none) none (fun _ _ => none) (fun _ _ => none) (fun _ _ => none) none (fun _ _ _ => none) (fun _ _ _ _ => none) none (fun _ => none) none (fun _ _ => none) none (fun _ _ => none) (fun _ => none) g
noncomputable def onFn (v : AVal) (g : FuncId → List AVal → Option OutT) : Option OutT :=
  @AVal.casesOn (fun _ => Option OutT) v (fun _ => none) (fun _ _ => none) (fun _ => none) none (fun _ _ => none) (fun _ _ => none) (fun _ _ => none) none (fun _ _ _ => none) (fun _ _ _ _ => none) none (fun _ => none) none g none (fun _ _ => none) (fun _ => none) (fun _ => none)
noncomputable def kPick2 (Y : FC) (s : TS) (h : Heap) (o : Oper) (x : Operand) : Option OutT := val1 Y s h o.dst (ob (opT Y s x) fun v => some (stripAR v))
noncomputable def kPick (c a b : Operand) : StepT := fun X f Y s h o => ob (opT Y s c) fun v => onBool v fun c => kPick2 Y s h o (cb c a b)
noncomputable def kExtract (t : Operand) (i : Nat) : StepT := fun X f Y s h o => ob (opT Y s t) fun v => onTup v fun vs => val1 Y s h o.dst (ob (nth vs i) fun v => some (stripAR v))
noncomputable def kNil (x : Operand) : StepT := fun X f Y s h o => ob (opT Y s x) fun v =>
  @AVal.casesOn (fun _ => Option OutT) v (fun _ => none) (fun _ _ => none) (fun _ => none) none (fun b i => putO Y s h o.dst (.ptr b i)) (fun b i => putO Y s h o.dst (.loc b i)) (fun b i => putO Y s h o.dst (.ept b i)) none (fun _ _ _ => none) (fun _ _ _ _ => none) none (fun _ => none) none (fun g cs => putO Y s h o.dst (.fn g cs)) none (fun _ _ => none) (fun _ => none) (fun _ => none)
noncomputable def pushT (h : Heap) (o : AObj) : Heap := @Heap.rec (fun _ => Heap) (fun objs ro => ⟨objs ++ [o], ro⟩) h
noncomputable def newRow (Y : FC) (s : TS) (h : Heap) (dst : Option Tmp) (cs : List AVal) : Option OutT := putO Y s (pushT h (.cells cs)) dst (.ptr h.objs.length 0)
noncomputable def newBox (Y : FC) (s : TS) (h : Heap) (dst : Option Tmp) (cs : List AVal) : Option OutT :=
  @TS.rec (fun _ => Option OutT) (fun tr rest b df => putO Y ⟨tr, rest, b ++ [cs], df⟩ h dst (.loc b.length 0)) s
noncomputable def kAlloc2 (X : Ctx) (f : FuncId) (Y : FC) (s : TS) (h : Heap) (o : Oper) (z : AVal) (d : Tmp) : Option OutT :=
  cb z.isLoc none (cb (X.cfg.heapy f d) (newRow Y s h o.dst z.cells) (newBox Y s h o.dst z.cells))
noncomputable def kAlloc (t : TypeId) : StepT := fun X f Y s h o => ob (tyZero X.P t) fun z => ob o.dst fun d => kAlloc2 X f Y s h o z d
noncomputable def kBox2 (X : Ctx) (f : FuncId) (Y : FC) (s : TS) (h : Heap) (o : Oper) (x : Operand) (v : AVal) (d : Tmp) : Option OutT :=
  cb v.isLoc none (cb (X.cfg.heapy f d) (newRow Y (cb (isLin X f x) (dropT Y s x) s) h o.dst (cellsOf (isLin X f x) v)) (newBox Y s h o.dst (v.cells.map AVal.strip)))
noncomputable def kBox (_ : TypeId) (x : Operand) : StepT := fun X f Y s h o => ob (opT Y s x) fun v => ob o.dst fun d => kBox2 X f Y s h o x v d
noncomputable def kStore2 (X : Ctx) (f : FuncId) (Y : FC) (s : TS) (h : Heap) (o : Oper) (x : Operand) (a v : AVal) (n : Nat) : Option OutT :=
  cb (Nat.beq v.cells.length n && !v.isLoc) (ob (storeT (cb (isLin X f x) (dropT Y s x) s) h a (cellsOf (isLin X f x) v)) fun r => putO Y r.1 r.2 o.dst undefA) none
noncomputable def kStore (t : TypeId) (p x : Operand) : StepT := fun X f Y s h o => ob (opT Y s p) fun a => ob (opT Y s x) fun v => ob (tySize X.P t) fun n => kStore2 X f Y s h o x a v n
noncomputable def kLoad2 (Y : FC) (s : TS) (h : Heap) (o : Oper) (a : AVal) (n : Nat) (g : Bool) : Option OutT := val1 Y s h o.dst (loadT s h g n a)
noncomputable def kLoad (t : TypeId) (p : Operand) : StepT := fun X f Y s h o =>
  cb (linDst X f o.dst) (kAny X f Y s h o) (ob (opT Y s p) fun a => ob (tySize X.P t) fun n => ob (tyAgg X.P t) fun g => kLoad2 Y s h o a n g)
noncomputable def callOutT (Y : FC) (s : TS) (dst : Option Tmp) (q : ARes × Heap) : Option OutT := @ARes.rec (fun _ => Option OutT) (fun v => putO Y s q.2 dst v) (fun v => some (.panic v s q.2)) q.1
noncomputable def mapT (g : Operand → Option AVal) : List Operand → Option (List AVal) := @List.rec Operand (fun _ => Option (List AVal)) (some []) (fun x _ ih => ob (g x) fun v => ob ih fun vs => some (v :: vs))
theorem mapT_eq (g : Operand → Option AVal) : ∀ l, mapT g l = mapO g l
  | [] => rfl
  | x :: xs => by
    show ob (g x) _ = _
    simp only [mapO]
    cases g x with
    | none => rfl
    | some v =>
      show ob (mapT g xs) _ = _
      rw [mapT_eq g xs]
      cases mapO g xs <;> rfl
noncomputable def argsT (X : Ctx) (f : FuncId) (Y : FC) (s : TS) (l : List Operand) : Option (List AVal × TS) :=
  @List.rec Operand (fun _ => Option (List AVal × TS)) (some ([], s)) (fun x xs _ => ob (opT Y s x) fun v => ob (mapT (opT Y s) xs) fun vs => some (cb (isLin X f x) v (stripAR v) :: vs.map stripAR, cb (isLin X f x) (dropT Y s x) s)) l
noncomputable def fnAt (X : Ctx) (g : FuncId) : Option Func := nth X.P.funcs.toList g
theorem fnAt_eq (X : Ctx) (g : FuncId) : fnAt X g = X.P.funcs[g]? := by unfold fnAt; rw [nth_eq]; simp
noncomputable def hasBodyT (X : Ctx) (g : FuncId) : Bool := @Option.rec Func (fun _ => Bool) false (fun fn => fn.body.isSome) (fnAt X g)
theorem hasBodyT_eq (X : Ctx) (g : FuncId) : hasBodyT X g = hasBody X.P g := by
  unfold hasBodyT hasBody
  rw [fnAt_eq]
  cases X.P.funcs[g]? <;> rfl
noncomputable def kCallV2 (X : Ctx) (f : FuncId) (Y : FC) (h : Heap) (o : Oper) (g : FuncId) (caps : List AVal) (q : List AVal × TS) : Option OutT :=
  cb (noLocsR q.1 && hasBodyT X g) (ob (Y.call g (appL q.1 caps) h) fun r => callOutT Y q.2 o.dst r) none
noncomputable def kCallV (x : Operand) (args : Array Operand) : StepT := fun X f Y s h o => ob (opT Y s x) fun v => onFn v fun g caps => ob (argsT X f Y s args.toList) fun q => kCallV2 X f Y h o g caps q
noncomputable def kLen (args : Array Operand) (ts : Array TypeId) : StepT := fun X f Y s h o => ob (ts[0]?) fun t => ob (ob (args[0]?) fun x => opT Y s x) fun v => val1 Y s h o.dst (alen X.P h t v)
noncomputable def kCall (c : Go.Call) : StepT := @Callee.rec (fun _ => StepT) (fun x => kCallV x c.args) (fun _ _ => kAny) (fun b => cb (Nat.beq b.ctorIdx 8) (kLen c.args c.argTypes) kAny) c.callee
noncomputable def stepTab : Op → StepT := @Op.rec (fun _ => StepT)
  kMove kMove kPick kAlloc kBox (fun _ _ => kAny) (fun _ _ _ => kAny) (fun _ _ _ _ => kAny) kLoad kStore (fun _ => kAny) (fun _ => kAny) kNil kBin kUn kConv (fun _ _ => kAny) (fun _ _ => kAny) (fun _ _ _ => kAny) (fun _ _ => kAny) (fun _ _ => kAny)
  (fun _ _ _ => kAny) (fun _ _ _ _ _ => kAny) kFA kF kIA kI (fun _ _ _ _ => kAny) (fun _ _ _ _ => kAny) (fun _ _ _ => kAny) (fun _ _ _ _ => kAny) (fun _ _ => kAny) (fun _ _ => kAny) (fun _ => kAny) (fun _ _ _ _ => kAny) kExtract
  kCall (fun _ => kAny) (fun _ => kAny) (fun _ => kAny) (fun _ _ => kAny) (fun _ _ _ => kAny) (fun _ _ => kAny)
theorem back_map {α : Type} {r : Option OutT} {out : OutT} {g : OutT → Out} {q : Option Out} (e : r.map g = q) (h : r = some out) : q = some (g out) := by
  subst h; exact e.symm
theorem mapT_opT (l : List Operand) : mapT (opT Y s) l = mapO (opnd (abs Y s).env) l := by
  have : opT Y s = opnd (abs Y s).env := funext fun x => opT_eq x
  rw [this, mapT_eq]
theorem argsT_eq (hY : Y.ok) (l : List Operand) : (argsT X f Y s l).map (fun q => (q.1, abs Y q.2)) = argVals X f (abs Y s) l := by
  cases l with
  | nil => rfl
  | cons x xs =>
    show Option.map _ (ob (opT Y s x) _) = _
    simp only [argVals]
    rw [opT_eq]
    cases opnd (abs Y s).env x with
    | none => rfl
    | some v =>
      show Option.map _ (ob (mapT (opT Y s) xs) _) = _
      rw [mapT_opT]
      cases mapO (opnd (abs Y s).env) xs with
      | none => rfl
      | some vs =>
        show some (_, abs Y (cb (isLin X f x) (dropT Y s x) s)) = some (_, _)
        rw [cb_eq, cb_eq, stripAR_eq, show stripAR = AVal.stripA from funext stripAR_eq]
        cases isLin X f x with
        | true => simp only [cond_true]; rw [dropT_eq hY]
        | false => rfl
theorem stepTab_ok (hY : Y.ok) {out : OutT} : stepTab o.op X f Y s h o = some out → stepOp X Y.call f (abs Y s) h o = some (absO Y out) := by
  intro hs
  obtain ⟨dst, op, type, pos, after, guard⟩ := o
  cases op with
  | move x => exact back_map (α := Unit) (kMove_eq hY x) hs
  | assign x => exact back_map (α := Unit) (kMove_eq hY x) hs
  | binOp op t x y u => exact back_map (α := Unit) (kVal2_eq (f := f) (o := ⟨dst, .binOp op t x y u, type, pos, after, guard⟩) hY x y (fun X a b => binT op (Region.isConst x || Region.isConst y) (X.P.underlying t) a b) (by simp only [binT_eq]; rfl)) hs
  | unOp op t x => exact back_map (α := Unit) (kVal1_eq (f := f) (o := ⟨dst, .unOp op t x, type, pos, after, guard⟩) hY x (fun _ a => aun op a) rfl) hs
  | convert t u x => exact back_map (α := Unit) (kVal1_eq (f := f) (o := ⟨dst, .convert t u x, type, pos, after, guard⟩) hY x (fun X a => aconv X.P t u a) rfl) hs
  | fieldAddr t x i => exact back_map (α := Unit) (kVal1_eq (f := f) (o := ⟨dst, .fieldAddr t x i, type, pos, after, guard⟩) hY x (fun X a => afieldAddr X.P t a i) rfl) hs
  | field t x i => exact back_map (α := Unit) (kVal1_eq (f := f) (o := ⟨dst, .field t x i, type, pos, after, guard⟩) hY x (fun X a => afield X.P t a i) rfl) hs
  | indexAddr t x i => exact back_map (α := Unit) (kVal2_eq (f := f) (o := ⟨dst, .indexAddr t x i, type, pos, after, guard⟩) hY x i (fun X a b => aindexAddr X.P t a b) rfl) hs
  | index t x i => exact back_map (α := Unit) (kVal2_eq (f := f) (o := ⟨dst, .index t x i, type, pos, after, guard⟩) hY x i (fun X a b => aindex X.P t a b) rfl) hs
  | pick c a b =>
    refine back_map (α := Unit) (r := kPick c a b X f Y s h ⟨dst, .pick c a b, type, pos, after, guard⟩) (g := absO Y) ?_ hs
    unfold kPick
    rw [opT_eq]
    simp only [stepOp, valOp]
    cases opnd (abs Y s).env c with
    | none => rfl
    | some v => cases v with
      | bool b' =>
        show (kPick2 Y s h _ (cb b' a b)).map (absO Y) = _
        unfold kPick2
        rw [val1_eq hY, opT_eq, cb_eq]
        show _ = (match Option.map AVal.stripA (opnd (abs Y s).env (cond b' a b)) with | some v => cont? ((abs Y s).put dst v) h | none => none)
        cases opnd (abs Y s).env (cond b' a b) with
        | none => rfl
        | some v => show cont? ((abs Y s).put dst (stripAR v)) h = cont? ((abs Y s).put dst v.stripA) h; rw [stripAR_eq]
      | _ => rfl
  | extract t i =>
    refine back_map (α := Unit) (r := kExtract t i X f Y s h ⟨dst, .extract t i, type, pos, after, guard⟩) (g := absO Y) ?_ hs
    unfold kExtract
    rw [opT_eq]
    simp only [stepOp, valOp]
    cases opnd (abs Y s).env t with
    | none => rfl
    | some v => cases v with
      | tup vs =>
        show (val1 Y s h dst (ob (nth vs i) fun v => some (stripAR v))).map (absO Y) = _
        rw [val1_eq hY, nth_eq]
        show _ = (match Option.map AVal.stripA (vs[i]?) with | some v => cont? ((abs Y s).put dst v) h | none => none)
        cases vs[i]? with
        | none => rfl
        | some v => show cont? ((abs Y s).put dst (stripAR v)) h = cont? ((abs Y s).put dst v.stripA) h; rw [stripAR_eq]
      | _ => rfl
  | nilCheck x =>
    refine back_map (α := Unit) (r := kNil x X f Y s h ⟨dst, .nilCheck x, type, pos, after, guard⟩) (g := absO Y) ?_ hs
    unfold kNil
    rw [opT_eq]
    simp only [stepOp, valOp]
    cases opnd (abs Y s).env x with
    | none => rfl
    | some v => cases v <;> first | rfl | exact putO_eq hY
  | load t p =>
    change kLoad t p X f Y s h _ = _ at hs
    unfold kLoad at hs
    rw [cb_eq] at hs
    simp only at hs
    cases hl : linDst X f dst with
    | true => rw [hl, cond_true] at hs; exact back_ok hY hs
    | false =>
      rw [hl, cond_false] at hs
      simp only [stepOp, hl, cond_false]
      refine back_map (α := Unit) (g := absO Y) ?_ hs
      rw [opT_eq]
      simp only [valOp]
      cases opnd (abs Y s).env p with
      | none => rfl
      | some a =>
        show Option.map _ (ob (tySize X.P t) _) = _
        cases tySize X.P t with
        | none => rfl
        | some n =>
          show Option.map _ (ob (tyAgg X.P t) _) = _
          cases tyAgg X.P t with
          | none => rfl
          | some g =>
            show (kLoad2 Y s h _ a n g).map (absO Y) = _
            unfold kLoad2
            rw [val1_eq hY, loadT_eq (Y := Y)]
            rfl
  | store t p x =>
    refine back_map (α := Unit) (r := kStore t p x X f Y s h ⟨dst, .store t p x, type, pos, after, guard⟩) (g := absO Y) ?_ hs
    unfold kStore
    rw [opT_eq, opT_eq]
    simp only [stepOp]
    cases opnd (abs Y s).env p with
    | none => rfl
    | some a =>
      show Option.map _ (ob (opnd (abs Y s).env x) _) = _
      cases opnd (abs Y s).env x with
      | none => rfl
      | some v =>
        show Option.map _ (ob (tySize X.P t) _) = _
        cases tySize X.P t with
        | none => rfl
        | some n =>
          show (kStore2 X f Y s h _ x a v n).map (absO Y) = cond _ _ _
          unfold kStore2
          rw [cb_eq]
          cases (Nat.beq v.cells.length n && !v.isLoc) with
          | false => rfl
          | true =>
            simp only [cond_true]
            have e : cond (isLin X f x) ((abs Y s).drop x) (abs Y s) = abs Y (cb (isLin X f x) (dropT Y s x) s) := by
              rw [cb_eq]
              cases isLin X f x with
              | true => simp only [cond_true]; rw [dropT_eq hY]
              | false => rfl
            rw [e, ← storeT_eq]
            cases storeT (cb (isLin X f x) (dropT Y s x) s) h a (cellsOf (isLin X f x) v) with
            | none => rfl
            | some r => exact putO_eq hY
  | alloc t =>
    refine back_map (α := Unit) (r := kAlloc t X f Y s h ⟨dst, .alloc t, type, pos, after, guard⟩) (g := absO Y) ?_ hs
    unfold kAlloc
    simp only [stepOp]
    cases tyZero X.P t with
    | none => rfl
    | some z => cases dst with
      | none => rfl
      | some d =>
        show (kAlloc2 X f Y s h _ z d).map (absO Y) = cond _ _ _
        unfold kAlloc2
        rw [cb_eq, cb_eq]
        cases z.isLoc with
        | true => rfl
        | false =>
          simp only [cond_false]
          cases X.cfg.heapy f d with
          | true => obtain ⟨objs, ro⟩ := h; simp only [cond_true]; unfold newRow; exact putO_eq hY
          | false => obtain ⟨tr, rest, b, df⟩ := s; simp only [cond_false]; unfold newBox; exact putO_eq hY
  | box t x =>
    refine back_map (α := Unit) (r := kBox t x X f Y s h ⟨dst, .box t x, type, pos, after, guard⟩) (g := absO Y) ?_ hs
    unfold kBox
    rw [opT_eq]
    simp only [stepOp]
    cases opnd (abs Y s).env x with
    | none => rfl
    | some v => cases dst with
      | none => rfl
      | some d =>
        show (kBox2 X f Y s h _ x v d).map (absO Y) = cond _ _ _
        unfold kBox2
        rw [cb_eq, cb_eq]
        cases v.isLoc with
        | true => rfl
        | false =>
          simp only [cond_false]
          cases X.cfg.heapy f d with
          | true =>
            simp only [cond_true]
            have e : cond (isLin X f x) ((abs Y s).drop x) (abs Y s) = abs Y (cb (isLin X f x) (dropT Y s x) s) := by
              rw [cb_eq]
              cases isLin X f x with
              | true => simp only [cond_true]; rw [dropT_eq hY]
              | false => rfl
            rw [e]
            obtain ⟨objs, ro⟩ := h; unfold newRow; exact putO_eq hY
          | false => obtain ⟨tr, rest, b, df⟩ := s; simp only [cond_false]; unfold newBox; exact putO_eq hY
  | call c =>
    obtain ⟨callee, args, ts⟩ := c
    cases callee with
    | value x =>
      refine back_map (α := Unit) (r := kCallV x args X f Y s h ⟨dst, .call ⟨.value x, args, ts⟩, type, pos, after, guard⟩) (g := absO Y) ?_ hs
      unfold kCallV
      rw [opT_eq]
      simp only [stepOp]
      cases opnd (abs Y s).env x with
      | none => rfl
      | some v => cases v with
        | fn g caps =>
          show Option.map _ (ob (argsT X f Y s args.toList) _) = _
          rw [← argsT_eq hY]
          cases argsT X f Y s args.toList with
          | none => rfl
          | some q =>
            obtain ⟨vs, s'⟩ := q
            show (kCallV2 X f Y h _ g caps (vs, s')).map (absO Y) = cond _ _ _
            unfold kCallV2
            rw [cb_eq, noLocsR_eq, hasBodyT_eq]
            simp only [appL_eq]
            cases (noLocs vs && hasBody X.P g) with
            | false => rfl
            | true =>
              simp only [cond_true]
              cases Y.call g (vs ++ caps) h with
              | none => rfl
              | some r =>
                obtain ⟨r, h'⟩ := r
                cases r with
                | ret v => exact putO_eq hY
                | panic v => rfl
        | _ => rfl
    | invoke r m => exact back_ok hY hs
    | builtin b =>
      cases b with
      | len =>
        refine back_map (α := Unit) (r := kLen args ts X f Y s h ⟨dst, .call ⟨.builtin .len, args, ts⟩, type, pos, after, guard⟩) (g := absO Y) ?_ hs
        unfold kLen
        simp only [stepOp, valOp]
        cases ts[0]? with
        | none => rfl
        | some t =>
          show (ob (ob (args[0]?) fun x => opT Y s x) _).map (absO Y) = _
          cases args[0]? with
          | none => rfl
          | some x =>
            show (ob (opT Y s x) _).map (absO Y) = _
            rw [opT_eq]
            simp only [Option.bind_some]
            cases opnd (abs Y s).env x with
            | none => rfl
            | some v => exact val1_eq hY
      | _ => exact back_ok hY hs
  | _ => exact back_ok hY hs
end Go.Den
namespace Go.Den
open Go
def sfoot (X : Ctx) (f : FuncId) (o : Oper) : Option Foot :=
  match o.op with
  | .load .. => some ⟨true, true, linDst X f o.dst⟩
  | .store .. => some ⟨true, true, true⟩
  | .alloc _ | .box _ _ => some (cond (atDst X.cfg.heapy f o.dst) ⟨false, true, true⟩ ⟨true, false, true⟩)
  | .buildSlice .. => some (cond (atDst X.cfg.mutB f o.dst) ⟨false, true, true⟩ ⟨false, false, false⟩)
  | .makeMap .. | .makeSlice .. | .mapUpdate .. | .insert .. => some ⟨false, true, true⟩
  | .lookup .. => some ⟨false, true, false⟩
  | .panic _ | .defer .. => none
  | .call { callee := .builtin .len, .. } => some ⟨false, true, false⟩
  | .call { callee := .builtin .append, .. } => some ⟨false, true, true⟩
  | .call { callee := .builtin .copy, .. } => some ⟨false, true, true⟩
  | .call { callee := .value _, .. } => some ⟨false, true, true⟩
  | .slice t _ _ _ _ => cond (arrT X.P t) none (some ⟨false, false, false⟩)
  | _ => some ⟨false, false, false⟩
def Foot.le (a b : Foot) : Prop := (a.b = true → b.b = true) ∧ (a.h = true → b.h = true) ∧ (a.w = true → b.w = true)
theorem Foot.le_refl (a : Foot) : a.le a := ⟨id, id, id⟩
theorem Foot.none_le (a : Foot) : Foot.le ⟨false, false, false⟩ a := ⟨(fun h => by cases h), (fun h => by cases h), (fun h => by cases h)⟩
theorem clash_le {a a' b b' : Foot} (h1 : a.le a') (h2 : b.le b') (h : clash a b = true) : clash a' b' = true := by
  simp only [clash, Bool.and_eq_true, Bool.or_eq_true] at h ⊢
  obtain ⟨w, h⟩ := h
  exact ⟨h2.2.2 w, h.imp (fun q => ⟨h1.1 q.1, h2.1 q.2⟩) (fun q => ⟨h1.2.1 q.1, h2.2.1 q.2⟩)⟩
variable {X : Ctx} {call : Call} {f : FuncId} {s : FS} {h : Heap} {o : Oper}
theorem foot_of_step {sf : Foot} {s' : FS} {h' : Heap} (hs : stepOp X call f s h o = some (.cont s' h')) (hf : sfoot X f o = some sf) : ∃ ft, foot X f s.env o = some ft ∧ ft.le sf := by
  obtain ⟨dst, op, type, pos, after, guard⟩ := o
  cases op with
  | load t p =>
    simp only [sfoot, Option.some.injEq] at hf
    subst hf
    simp only [stepOp, valOp] at hs
    simp only [foot]
    cases hp : opnd s.env p with
    | none =>
      rw [hp] at hs
      cases hl : linDst X f dst <;> rw [hl] at hs <;> cases hs
    | some a =>
      rw [hp] at hs
      have key : a.isLoc = true ∨ (∃ b c, a = .ptr b c) ∨ (∃ b c, a = .ept b c) ∨ (rowAt s h a = none) := by
        cases a <;> first
          | exact .inl rfl
          | exact .inr (.inl ⟨_, _, rfl⟩)
          | exact .inr (.inr (.inl ⟨_, _, rfl⟩))
          | exact .inr (.inr (.inr rfl))
      cases a with
      | loc i c => exact ⟨_, rfl, ⟨fun _ => rfl, fun h => (by cases h), id⟩⟩
      | ptr b c => exact ⟨_, rfl, ⟨fun h => (by cases h), fun _ => rfl, id⟩⟩
      | ept b c => exact ⟨_, rfl, Foot.none_le _⟩
      | _ =>
        exfalso
        cases hl : linDst X f dst <;> rw [hl] at hs
        · simp only [cond_false] at hs
          cases h1 : tySize X.P t with
          | none => rw [h1] at hs; cases hs
          | some n =>
            rw [h1] at hs
            cases h2 : tyAgg X.P t with
            | none => rw [h2] at hs; cases hs
            | some g => rw [h2] at hs; cases hs
        · simp only [cond_true] at hs
          split at hs
          · rename_i e1 _ _
            cases e1
            cases hs
          · cases hs
  | store t p x =>
    simp only [sfoot, Option.some.injEq] at hf
    subst hf
    simp only [stepOp] at hs
    simp only [foot]
    cases hp : opnd s.env p with
    | none => rw [hp] at hs; cases hs
    | some a =>
      rw [hp] at hs
      cases a with
      | loc i c => exact ⟨_, rfl, ⟨fun _ => rfl, fun h => (by cases h), fun _ => rfl⟩⟩
      | ptr b c => exact ⟨_, rfl, ⟨fun h => (by cases h), fun _ => rfl, fun _ => rfl⟩⟩
      | ept b c => exact ⟨_, rfl, Foot.none_le _⟩
      | _ =>
        exfalso
        cases h1 : opnd s.env x with
        | none => rw [h1] at hs; cases hs
        | some v =>
          rw [h1] at hs
          cases h2 : tySize X.P t with
          | none => rw [h2] at hs; cases hs
          | some n =>
            rw [h2] at hs
            simp only [astore] at hs
            generalize (Nat.beq v.cells.length n && !v.isLoc) = c at hs
            cases c <;> cases hs
  | panic x => simp [sfoot] at hf
  | slice t x lo hi mx =>
    simp only [sfoot] at hf
    simp only [foot]
    cases hc : arrT X.P t <;> rw [hc] at hf <;> cases hf
    exact ⟨_, rfl, Foot.le_refl _⟩
  | defer c => simp [sfoot] at hf
  | alloc t => simp only [sfoot, Option.some.injEq] at hf; subst hf; exact ⟨_, rfl, Foot.le_refl _⟩
  | box t x => simp only [sfoot, Option.some.injEq] at hf; subst hf; exact ⟨_, rfl, Foot.le_refl _⟩
  | buildSlice t l ps => simp only [sfoot, Option.some.injEq] at hf; subst hf; exact ⟨_, rfl, Foot.le_refl _⟩
  | call c =>
    obtain ⟨callee, args, ts⟩ := c
    cases callee with
    | value g => simp only [sfoot, Option.some.injEq] at hf; subst hf; exact ⟨_, rfl, Foot.le_refl _⟩
    | invoke r m => simp only [sfoot, Option.some.injEq] at hf; subst hf; exact ⟨_, rfl, Foot.le_refl _⟩
    | builtin b =>
      cases b with
      | len =>
        simp only [sfoot, Option.some.injEq] at hf; subst hf
        simp only [foot]
        split
        · exact ⟨_, rfl, Foot.le_refl _⟩
        · exact ⟨_, rfl, Foot.none_le _⟩
      | append =>
        simp only [sfoot, Option.some.injEq] at hf; subst hf
        simp only [foot]
        refine ⟨_, rfl, ?_⟩
        cases atDst X.cfg.mutA f dst with
        | true => exact Foot.le_refl _
        | false =>
          simp only [cond_false]
          split
          · exact Foot.le_refl _
          · exact Foot.none_le _
      | copy => simp only [sfoot, Option.some.injEq] at hf; subst hf; exact ⟨_, rfl, Foot.le_refl _⟩
      | _ => simp only [sfoot, Option.some.injEq] at hf; subst hf; exact ⟨_, rfl, Foot.le_refl _⟩
  | _ => simp only [sfoot, Option.some.injEq] at hf; subst hf; exact ⟨_, rfl, Foot.le_refl _⟩
def badOf (masks : List Nat) (fs : List Foot) : List (Nat × Nat) :=
  (List.range fs.length).flatMap fun i => (List.range fs.length).filterMap fun j =>
    cond (Nat.beq i j || ordered masks i j) none (match fs[i]?, fs[j]? with
      | some a, some b => cond (clash a b) (some (i, j)) none
      | _, _ => none)
def badPairs (X : Ctx) (f : FuncId) (ops : Array Oper) : Option (List (Nat × Nat)) :=
  match mapO (sfoot X f) ops.toList with
  | some fs => some (badOf (masksOf ops.toList []) fs)
  | none => none
theorem badOf_spec {masks : List Nat} {fs : List Foot} {i j : Nat} {a b : Foot} (ha : fs[i]? = some a) (hb : fs[j]? = some b) (hc : clash a b = true) : (Nat.beq i j || ordered masks i j) = true ∨ (i, j) ∈ badOf masks fs := by
  cases hq : (Nat.beq i j || ordered masks i j) with
  | true => exact .inl rfl
  | false =>
    right
    have h1 := (List.getElem?_eq_some_iff.1 ha).1
    have h2 := (List.getElem?_eq_some_iff.1 hb).1
    simp only [badOf, List.mem_flatMap, List.mem_range, List.mem_filterMap]
    exact ⟨i, h1, j, h2, by rw [hq]; simp only [cond_false, ha, hb, hc, cond_true]⟩
section
variable {X : Ctx} {f : FuncId} {Y : FC} {s : TS} {h : Heap} {o : Oper}
noncomputable def gG (X : Ctx) (f : FuncId) (Y : FC) (s : TS) (h : Heap) (o : Oper) (want : Bool) (v : AVal) : Option OutT :=
  @AVal.casesOn (fun _ => Option OutT) v (fun b => cb (b == want) (stepTab o.op X f Y s h o) (putO Y s h o.dst undefA)) (fun _ _ => none) (fun _ => none) none (fun _ _ => none) (fun _ _ => none) (fun _ _ => none) none (fun _ _ _ => none) (fun _ _ _ _ => none) none (fun _ => none) none (fun _ _ => none) none (fun _ _ => none) (fun _ => none) (fun _ => putO Y s h o.dst undefA)
noncomputable def gStep (X : Ctx) (f : FuncId) (Y : FC) (ops : Array Oper) (o : Oper) (s : TS) (h : Heap) : Option OutT :=
  @Option.rec (Nat × Bool) (fun _ => Option OutT) (stepTab o.op X f Y s h o) (fun g => ob ((ops[g.1]?).bind (·.dst)) fun t => gG X f Y s h o g.2 (absE Y s.tr s.rest t)) o.guard
theorem gStep_ok (hY : Y.ok) {ops : Array Oper} {out : OutT} (hs : gStep X f Y ops o s h = some out) : stepG X Y.call f ops (abs Y s) h o = some (absO Y out) := by
  unfold gStep at hs
  unfold stepG wantedA
  cases hg : o.guard with
  | none => rw [hg] at hs; exact stepTab_ok hY hs
  | some g =>
    rw [hg] at hs
    change ob ((ops[g.1]?).bind (·.dst)) _ = _ at hs
    simp only
    cases ht : (ops[g.1]?).bind (·.dst) with
    | none => rw [ht] at hs; cases hs
    | some t =>
      rw [ht] at hs
      change gG X f Y s h o g.2 (absE Y s.tr s.rest t) = _ at hs
      show (match (match (abs Y s).env t with | .bool b => some (b == g.2) | .tup _ => some false | _ => none) with | some true => _ | some false => _ | none => _) = _
      have e : (abs Y s).env t = absE Y s.tr s.rest t := rfl
      rw [e]
      cases hv : absE Y s.tr s.rest t with
      | bool b =>
        rw [hv] at hs
        change cb (b == g.2) _ _ = _ at hs
        cases hb : (b == g.2) with
        | true => rw [hb] at hs; simp only [hb]; exact stepTab_ok hY hs
        | false => rw [hb] at hs; simp only [hb]; exact back_map (α := Unit) (putO_eq hY) hs
      | tup vs => rw [hv] at hs; exact back_map (α := Unit) (putO_eq hY) hs
      | _ => rw [hv] at hs; cases hs
structure EntT where
  o : Oper
  s : TS
  h : Heap
  s' : TS
  h' : Heap
noncomputable def toEnt (X : Ctx) (f : FuncId) (Y : FC) (ops : Array Oper) (A : EntT) : Ent :=
  ⟨A.o, (match wantedA ops (abs Y A.s).env A.o with
    | some true => (foot X f (abs Y A.s).env A.o).getD ⟨false, false, false⟩
    | _ => ⟨false, false, false⟩), abs Y A.s, A.h, abs Y A.s', A.h'⟩
abbrev TrT : Type := TS → Heap → Option (List EntT × OutT)
noncomputable def gTr2 (o : Oper) (s : TS) (h : Heap) (s' : TS) (h' : Heap) (r : List EntT × OutT) : Option (List EntT × OutT) := some (⟨o, s, h, s', h'⟩ :: r.1, r.2)
noncomputable def gTr (ih : TrT) (o : Oper) (s : TS) (h : Heap) (r : OutT) : Option (List EntT × OutT) := @OutT.rec (fun _ => Option (List EntT × OutT)) (fun s' h' => ob (ih s' h') (gTr2 o s h s' h')) (fun _ _ _ => none) r
noncomputable def traceT (X : Ctx) (f : FuncId) (Y : FC) (ops : Array Oper) : List Oper → TrT :=
  @List.rec Oper (fun _ => TrT) (fun s h => some ([], .cont s h)) fun o _ ih s h => ob (gStep X f Y ops o s h) (gTr ih o s h)
noncomputable def dynPair (X : Ctx) (f : FuncId) (Y : FC) (ops : Array Oper) (l : List EntT) (p : Nat × Nat) : Bool :=
  @Option.rec EntT (fun _ => Bool) false (fun A => @Option.rec EntT (fun _ => Bool) false (fun B => pairOK X Y.call f (masksOf ops.toList []) p.1 (toEnt X f Y ops A) p.2 (toEnt X f Y ops B)) (nth l p.2)) (nth l p.1)
noncomputable def allP (g : Nat × Nat → Bool) : List (Nat × Nat) → Bool := @List.rec _ (fun _ => Bool) true (fun p _ ih => cb (g p) ih false)
noncomputable def drawT2 (X : Ctx) (f : FuncId) (Y : FC) (ops : Array Oper) (bad : List (Nat × Nat)) (r : List EntT × OutT) : Option OutT := cb (allP (dynPair X f Y ops r.1) bad) (some r.2) none
noncomputable def slowT (X : Ctx) (f : FuncId) (Y : FC) (ops : Array Oper) (s : TS) (h : Heap) : Option OutT := back Y (runDraw X Y.call f ops (abs Y s) h)
noncomputable def drawT1 (X : Ctx) (f : FuncId) (Y : FC) (ops : Array Oper) (s : TS) (h : Heap) (bad : List (Nat × Nat)) : Option OutT := ob (traceT X f Y ops ops.toList s h) (drawT2 X f Y ops bad)
noncomputable def drawT (X : Ctx) (f : FuncId) (Y : FC) (ops : Array Oper) (s : TS) (h : Heap) : Option OutT :=
  @Option.rec OutT (fun _ => Option OutT) (slowT X f Y ops s h) (fun r => some r) (ob (badPairs X f ops) (drawT1 X f Y ops s h))
theorem allP_spec {g : Nat × Nat → Bool} : ∀ {l : List (Nat × Nat)}, allP g l = true → ∀ p, p ∈ l → g p = true
  | [], _, p, hp => by cases hp
  | q :: l, ha, p, hp => by
    change cb (g q) (allP g l) false = true at ha
    cases hq : g q with
    | false => rw [hq] at ha; cases ha
    | true =>
      rw [hq] at ha
      rcases List.mem_cons.1 hp with rfl | hp
      · exact hq
      · exact allP_spec ha p hp
def EntOK (X : Ctx) (f : FuncId) (Y : FC) (ops : Array Oper) (A : EntT) : Prop :=
  (∀ sf, sfoot X f A.o = some sf → (toEnt X f Y ops A).ft.le sf)
theorem traceT_ok (hY : Y.ok) {ops : Array Oper} : ∀ (os : List Oper) (s : TS) (h : Heap) (r : List EntT × OutT) (fs : List Foot), mapO (sfoot X f) os = some fs → traceT X f Y ops os s h = some r →
    ∃ s' h', r.2 = .cont s' h' ∧ trace X Y.call f ops os (abs Y s) h = some (r.1.map (toEnt X f Y ops), .cont (abs Y s') h') ∧
      ∀ (i : Nat) A, r.1[i]? = some A → ∃ sf, fs[i]? = some sf ∧ (toEnt X f Y ops A).ft.le sf
  | [], s, h, r, fs, hf, hs => by
    cases hs
    exact ⟨s, h, rfl, rfl, fun i A hi => by simp at hi⟩
  | o :: os, s, h, r, fs, hf, hs => by
    obtain ⟨sf, fs', e1, e2, rfl⟩ : ∃ sf fs', sfoot X f o = some sf ∧ mapO (sfoot X f) os = some fs' ∧ fs = sf :: fs' := by
      simp only [mapO] at hf
      cases h1 : sfoot X f o with
      | none => rw [h1] at hf; cases hf
      | some sf =>
        rw [h1] at hf
        cases h2 : mapO (sfoot X f) os with
        | none => rw [h2] at hf; cases hf
        | some fs' => rw [h2] at hf; cases hf; exact ⟨sf, fs', rfl, rfl, rfl⟩
    change ob (gStep X f Y ops o s h) (gTr (traceT X f Y ops os) o s h) = _ at hs
    cases hg : gStep X f Y ops o s h with
    | none => rw [hg] at hs; cases hs
    | some q =>
      rw [hg] at hs
      have hq := gStep_ok hY hg
      cases q with
      | panic v s' h' => cases hs
      | cont s' h' =>
        change ob (traceT X f Y ops os s' h') (gTr2 o s h s' h') = _ at hs
        cases ht : traceT X f Y ops os s' h' with
        | none => rw [ht] at hs; cases hs
        | some r' =>
          rw [ht] at hs
          cases hs
          obtain ⟨s2, h2, k1, k2, k3⟩ := traceT_ok hY os s' h' r' fs' e2 ht
          simp only [stepG] at hq
          refine ⟨s2, h2, k1, ?_, ?_⟩
          · unfold trace
            cases hw : wantedA ops (abs Y s).env o with
            | none => rw [hw] at hq; cases hq
            | some b =>
              rw [hw] at hq
              cases b with
              | false =>
                simp only at hq
                unfold cont? at hq
                cases hp : (abs Y s).put o.dst undefA with
                | none => rw [hp] at hq; cases hq
                | some s1 =>
                  rw [hp] at hq
                  simp only [Option.some.injEq, absO, Out.cont.injEq] at hq
                  obtain ⟨q1, q2⟩ := hq
                  subst q1; subst q2
                  simp only [hp, k2]
                  have : toEnt X f Y ops ⟨o, s, h, s', h⟩ = ⟨o, ⟨false, false, false⟩, abs Y s, h, abs Y s', h⟩ := by simp only [toEnt, hw]
                  show _ = some (toEnt X f Y ops ⟨o, s, h, s', h⟩ :: _, _)
                  rw [this]
              | true =>
                simp only at hq
                obtain ⟨ft, g1, g2⟩ := foot_of_step hq e1
                simp only [g1, hq, absO, k2]
                have : toEnt X f Y ops ⟨o, s, h, s', h'⟩ = ⟨o, ft, abs Y s, h, abs Y s', h'⟩ := by simp only [toEnt, hw, g1, Option.getD_some]
                show _ = some (toEnt X f Y ops ⟨o, s, h, s', h'⟩ :: _, _)
                rw [this]
          · intro i A hi
            cases i with
            | zero =>
              simp [gTr2] at hi
              subst hi
              refine ⟨sf, rfl, ?_⟩
              cases hw : wantedA ops (abs Y s).env o with
              | none => simp only [toEnt, hw]; exact Foot.none_le _
              | some b =>
                cases b with
                | false => simp only [toEnt, hw]; exact Foot.none_le _
                | true =>
                  rw [hw] at hq
                  obtain ⟨ft, g1, g2⟩ := foot_of_step hq e1
                  simp only [toEnt, hw, g1, Option.getD_some]; exact g2
            | succ i => exact k3 i A (by simpa [gTr2] using hi)
theorem allI_of {α : Type} {p : Nat → α → Bool} : ∀ {l : List α} {k : Nat}, (∀ i x, l[i]? = some x → p (k + i) x = true) → allI p l k = true
  | [], _, _ => rfl
  | y :: ys, k, h => by
    simp only [allI, Bool.and_eq_true]
    refine ⟨by simpa using h 0 y rfl, allI_of fun i x hi => ?_⟩
    have := h (i + 1) x (by simpa using hi)
    rw [← this]; congr 1; omega
theorem drawT_ok (hY : Y.ok) {ops : Array Oper} {out : OutT} (hd : drawT X f Y ops s h = some out) : runDraw X Y.call f ops (abs Y s) h = some (absO Y out) := by
  unfold drawT at hd
  cases hr : ob (badPairs X f ops) (drawT1 X f Y ops s h) with
  | none => rw [hr] at hd; exact back_ok hY hd
  | some r =>
    rw [hr] at hd
    cases hd
    cases hb : badPairs X f ops with
    | none => rw [hb] at hr; cases hr
    | some bad =>
      rw [hb] at hr
      unfold badPairs at hb
      cases hm : mapO (sfoot X f) ops.toList with
      | none => rw [hm] at hb; cases hb
      | some fs =>
        rw [hm] at hb
        cases hb
        change ob (traceT X f Y ops ops.toList s h) (drawT2 X f Y ops _) = _ at hr
        cases ht : traceT X f Y ops ops.toList s h with
        | none => rw [ht] at hr; cases hr
        | some q =>
          rw [ht] at hr
          change cb (allP _ _) (some q.2) none = _ at hr
          cases ha : allP (dynPair X f Y ops q.1) (badOf (masksOf ops.toList []) fs) with
          | false => rw [ha] at hr; cases hr
          | true =>
            rw [ha] at hr
            cases hr
            obtain ⟨s', h', k1, k2, k3⟩ := traceT_ok hY _ _ _ _ _ hm ht
            unfold runDraw
            simp only [k2]
            have : allI (fun i A => allI (fun j B => pairOK X Y.call f (masksOf ops.toList []) i A j B) (q.1.map (toEnt X f Y ops)) 0) (q.1.map (toEnt X f Y ops)) 0 = true := by
              refine allI_of fun i A' hA' => allI_of fun j B' hB' => ?_
              rw [List.getElem?_map] at hA' hB'
              cases hA : q.1[i]? with
              | none => rw [hA] at hA'; cases hA'
              | some A =>
                cases hB : q.1[j]? with
                | none => rw [hB] at hB'; cases hB'
                | some B =>
                  rw [hA] at hA'; rw [hB] at hB'
                  cases hA'; cases hB'
                  simp only [Nat.zero_add]
                  cases hc : clash (toEnt X f Y ops A).ft (toEnt X f Y ops B).ft with
                  | false => simp only [pairOK, hc, cond_false]
                  | true =>
                    obtain ⟨a, a1, a2⟩ := k3 i A hA
                    obtain ⟨b, b1, b2⟩ := k3 j B hB
                    rcases badOf_spec (masks := masksOf ops.toList []) a1 b1 (clash_le a2 b2 hc) with h3 | h3
                    · simp only [pairOK, hc, cond_true, h3, Bool.true_or]
                    · have := allP_spec ha _ h3
                      unfold dynPair at this
                      simp only [nth_eq, hA, hB] at this
                      exact this
            rw [this, cond_true, k1]
            rfl
end
end Go.Den
namespace Go.Den
open Go
theorem envOf_get' : ∀ (l : List AVal) (t : Nat), envOf l t = (l[t]?).getD undefA
  | [], t => by simp [envOf]
  | v :: vs, 0 => by simp [envOf]
  | v :: vs, t + 1 => by simp [envOf, envOf_get' vs t]
variable {X : Ctx} {f : FuncId} {Y : FC} {s : TS} {h : Heap} {o : Oper}
abbrev OpsT : Type := TS → Heap → Option OutT
noncomputable def gOps (r : OpsT) (o : OutT) : Option OutT := @OutT.rec (fun _ => Option OutT) r (fun v s h => some (.panic v s h)) o
noncomputable def opsT' (X : Ctx) (f : FuncId) (Y : FC) (ops : Array Oper) : List Oper → OpsT :=
  @List.rec Oper (fun _ => OpsT) (fun s h => some (.cont s h)) fun o _ ih s h => ob (gStep X f Y ops o s h) (gOps ih)
theorem opsT_ok (hY : Y.ok) {ops : Array Oper} : ∀ (l : List Oper) (s : TS) (h : Heap) (out : OutT), opsT' X f Y ops l s h = some out → runOps X Y.call f ops l (abs Y s) h = some (absO Y out)
  | [], s, h, out, hs => by cases hs; rfl
  | o :: rest, s, h, out, hs => by
    change ob (gStep X f Y ops o s h) (gOps (opsT' X f Y ops rest)) = _ at hs
    unfold runOps
    cases hg : gStep X f Y ops o s h with
    | none => rw [hg] at hs; cases hs
    | some r =>
      rw [hg] at hs
      rw [gStep_ok hY hg]
      cases r with
      | cont s' h' => exact opsT_ok hY rest s' h' out hs
      | panic v s' h' => cases hs; rfl
abbrev ResT : Type := AExit × TS × Heap
noncomputable def absR (Y : FC) (r : ResT) : Res := (r.1, abs Y r.2.1, r.2.2)
abbrev RunT : Type := TS → Heap → Option ResT
noncomputable def ofOutT (o : OutT) : Option ResT := @OutT.rec (fun _ => Option ResT) (fun s h => some (.normal, s, h)) (fun v s h => some (.panic v, s, h)) o
noncomputable def gSeq (r : RunT) (q : ResT) : Option ResT := @AExit.rec (fun _ => Option ResT) (r q.2.1 q.2.2) (fun _ => some q) (some q) (fun _ => some q) q.1
noncomputable def gCond (a b : RunT) (s : TS) (h : Heap) (v : AVal) : Option ResT :=
  @AVal.casesOn (fun _ => Option ResT) v (fun c => cb c (a s h) (b s h)) (fun _ _ => none) (fun _ => none) none (fun _ _ => none) (fun _ _ => none) (fun _ _ => none) none (fun _ _ _ => none) (fun _ _ _ _ => none) none (fun _ => none) none (fun _ _ => none) none (fun _ _ => none) (fun _ => none) (fun _ => none)
noncomputable def gBlock (id : Nat) (q : ResT) : Option ResT := @AExit.rec (fun _ => Option ResT) (some q) (fun j => cb (Nat.beq j id) (some (.normal, q.2)) (some q)) (some q) (fun _ => some q) q.1
noncomputable def cutT (s : TS) : TS := @TS.rec (fun _ => TS) (fun tr _ b df => ⟨tr, fun _ => undefA, b, df⟩) s
noncomputable def gLoop : Nat → RunT → RunT := @Nat.rec (fun _ => RunT → RunT) (fun _ _ _ => none) fun _ ih b s h => ob (b s h) (gSeq fun s h => ih b (cutT s) h)
noncomputable def runT (X : Ctx) (f : FuncId) (Y : FC) (fuel : Nat) : Code → RunT :=
  @Code.rec (fun _ => RunT) (fun s h => some (.normal, s, h)) (fun _ ops draw s h => ob (cb draw (drawT X f Y ops s h) (opsT' X f Y ops ops.toList s h)) ofOutT)
    (fun _ _ a b s h => ob (a s h) (gSeq b)) (fun c _ _ a b s h => ob (opT Y s c) (gCond a b s h)) (fun id _ a s h => ob (a s h) (gBlock id)) (fun _ a s h => gLoop fuel a s h)
    (fun _ _ _ _ _ _ _ _ => none) (fun id s h => some (.exit id, s, h)) (fun _ _ _ _ => none) (fun _ _ _ => none) (fun _ _ _ => none) (fun s h => some (.ret, s, h)) (fun _ _ _ => none)
theorem cutT_eq : abs Y (cutT s) = (abs Y s).compact := by
  obtain ⟨tr, rest, b, df⟩ := s
  show (⟨absE Y tr fun _ => undefA, b, Y.n, df⟩ : FS) = ⟨fun x => ((tab (absE Y tr rest) Y.n [])[x]?).getD undefA, b, Y.n, df⟩
  congr 1
  funext x
  rw [tab_get]
  by_cases hx : x < Y.n
  · rw [if_pos hx, absE_lt hx, Option.getD_some, absE_lt hx]
  · rw [if_neg hx, absE_ge hx]; simp
theorem gLoop_ok {b : RunT} {b' : FS → Heap → Option Res} (hb : ∀ s h q, b s h = some q → b' (abs Y s) h = some (absR Y q)) :
    ∀ (n : Nat) (s : TS) (h : Heap) (q : ResT), gLoop n b s h = some q → loopN n b' (abs Y s) h = some (absR Y q)
  | 0, s, h, q, hs => by cases hs
  | n + 1, s, h, q, hs => by
    change ob (b s h) (gSeq fun s h => gLoop n b (cutT s) h) = _ at hs
    unfold loopN
    cases hq : b s h with
    | none => rw [hq] at hs; cases hs
    | some r =>
      rw [hq] at hs
      rw [hb _ _ _ hq]
      obtain ⟨e, s', h'⟩ := r
      cases e with
      | normal =>
        have := gLoop_ok hb n (cutT s') h' q hs
        rw [cutT_eq] at this
        exact this
      | exit i => cases hs; rfl
      | ret => cases hs; rfl
      | panic v => cases hs; rfl
theorem runT_ok (hY : Y.ok) (fuel : Nat) : ∀ (c : Code) (s : TS) (h : Heap) (q : ResT), runT X f Y fuel c s h = some q → run X Y.call f fuel c (abs Y s) h = some (absR Y q)
  | .skip, s, h, q, hs => by cases hs; rfl
  | .exit id, s, h, q, hs => by cases hs; rfl
  | .ret, s, h, q, hs => by cases hs; rfl
  | .region id ops draw, s, h, q, hs => by
    change ob (cb draw (drawT X f Y ops s h) (opsT' X f Y ops ops.toList s h)) ofOutT = _ at hs
    unfold run
    cases draw with
    | true =>
      change ob (drawT X f Y ops s h) ofOutT = _ at hs
      simp only [cond_true]
      cases hd : drawT X f Y ops s h with
      | none => rw [hd] at hs; cases hs
      | some r =>
        rw [hd] at hs
        rw [drawT_ok hY hd]
        cases r <;> (cases hs; rfl)
    | false =>
      change ob (opsT' X f Y ops ops.toList s h) ofOutT = _ at hs
      simp only [cond_false]
      cases hd : opsT' X f Y ops ops.toList s h with
      | none => rw [hd] at hs; cases hs
      | some r =>
        rw [hd] at hs
        rw [opsT_ok hY _ _ _ _ hd]
        cases r <;> (cases hs; rfl)
  | .seq a b, s, h, q, hs => by
    change ob (runT X f Y fuel a s h) (gSeq (runT X f Y fuel b)) = _ at hs
    unfold run
    cases hq : runT X f Y fuel a s h with
    | none => rw [hq] at hs; cases hs
    | some r =>
      rw [hq] at hs
      rw [runT_ok hY fuel a s h r hq]
      obtain ⟨e, s', h'⟩ := r
      cases e with
      | normal => exact runT_ok hY fuel b s' h' q hs
      | exit i => cases hs; rfl
      | ret => cases hs; rfl
      | panic v => cases hs; rfl
  | .cond c a b, s, h, q, hs => by
    change ob (opT Y s c) (gCond (runT X f Y fuel a) (runT X f Y fuel b) s h) = _ at hs
    rw [opT_eq] at hs
    unfold run
    cases hv : opnd (abs Y s).env c with
    | none => rw [hv] at hs; cases hs
    | some v =>
      rw [hv] at hs
      cases v with
      | bool c =>
        cases c with
        | true => exact runT_ok hY fuel a s h q hs
        | false => exact runT_ok hY fuel b s h q hs
      | _ => cases hs
  | .block id a, s, h, q, hs => by
    change ob (runT X f Y fuel a s h) (gBlock id) = _ at hs
    unfold run
    cases hq : runT X f Y fuel a s h with
    | none => rw [hq] at hs; cases hs
    | some r =>
      rw [hq] at hs
      rw [runT_ok hY fuel a s h r hq]
      obtain ⟨e, s', h'⟩ := r
      cases e with
      | exit i =>
        change cb (Nat.beq i id) (some (AExit.normal, s', h')) (some (AExit.exit i, s', h')) = _ at hs
        show cond (Nat.beq i id) (some (AExit.normal, abs Y s', h')) (some (AExit.exit i, abs Y s', h')) = _
        cases hb : Nat.beq i id <;> (rw [hb] at hs; cases hs; rfl)
      | normal => cases hs; rfl
      | ret => cases hs; rfl
      | panic v => cases hs; rfl
  | .loop a, s, h, q, hs => by
    change gLoop fuel (runT X f Y fuel a) s h = _ at hs
    unfold run
    exact gLoop_ok (fun s h q hq => runT_ok hY fuel a s h q hq) fuel s h q hs
  | .rangeFunc .., s, h, q, hs => by cases hs
  | .scope _, s, h, q, hs => by cases hs
  | .label _, s, h, q, hs => by cases hs
  | .goto _, s, h, q, hs => by cases hs
  | .refuse _, s, h, q, hs => by cases hs
noncomputable def startT (args : List AVal) : TS := ⟨tabT (fun t => (nth args t).getD undefA), fun t => (nth args t).getD undefA, [], []⟩
noncomputable def resT (X : Ctx) (Y : FC) (s : TS) (h : Heap) : ResultVar → Option AVal := @ResultVar.rec (fun _ => Option AVal)
  (fun t => cb (isLocR (absE Y s.tr s.rest t)) none (some (stripAR (absE Y s.tr s.rest t)))) (fun a t => ob (tySize X.P t) fun n => ob (tyAgg X.P t) fun g => loadT s h g n (absE Y s.tr s.rest a))
theorem resT_eq {rv : ResultVar} : resT X Y s h rv = resultOf X (abs Y s) h rv := by
  cases rv with
  | tmp t =>
    show cb (isLocR (absE Y s.tr s.rest t)) none (some (stripAR (absE Y s.tr s.rest t))) = _
    rw [cb_eq, isLocR_eq, stripAR_eq]; rfl
  | cell a t =>
    show ob (tySize X.P t) _ = _
    simp only [resultOf]
    cases tySize X.P t with
    | none => rfl
    | some n =>
      show ob (tyAgg X.P t) _ = _
      cases tyAgg X.P t with
      | none => rfl
      | some g => exact loadT_eq
noncomputable def mapRT (g : ResultVar → Option AVal) : List ResultVar → Option (List AVal) := @List.rec ResultVar (fun _ => Option (List AVal)) (some []) (fun x _ ih => ob (g x) fun v => ob ih fun vs => some (v :: vs))
theorem mapRT_eq (g : ResultVar → Option AVal) : ∀ l, mapRT g l = mapO g l
  | [] => rfl
  | x :: xs => by
    show ob (g x) _ = _
    simp only [mapO]
    cases g x with
    | none => rfl
    | some v =>
      show ob (mapRT g xs) _ = _
      rw [mapRT_eq g xs]
      cases mapO g xs <;> rfl
noncomputable def resultsT (X : Ctx) (fn : Func) (f : FuncId) (Y : FC) (s : TS) (h : Heap) : Option (ARes × Heap) := cb (X.cfg.pureF f) (ownRes (abs Y s) h fn.results.toList) (ob (mapRT (resT X Y s h) fn.results.toList) fun vs => handBack X f vs h)
theorem resultsT_eq {fn : Func} : resultsT X fn f Y s h = results X fn f (abs Y s) h := by
  unfold resultsT results
  rw [cb_eq, mapRT_eq, show resT X Y s h = resultOf X (abs Y s) h from funext fun rv => resT_eq]
  cases mapO (resultOf X (abs Y s) h) fn.results.toList <;> rfl
noncomputable def endT (X : Ctx) (f : FuncId) (Y : FC) (fn : Func) (fuel : Nat) (q : ResT) : Option (ARes × Heap) :=
  @AExit.rec (fun _ => Option (ARes × Heap)) (@List.rec _ (fun _ => Option (ARes × Heap)) (resultsT X fn f Y q.2.1 q.2.2) (fun _ _ _ => none) q.2.1.defs) (fun _ => none)
    (@List.rec _ (fun _ => Option (ARes × Heap)) (resultsT X fn f Y q.2.1 q.2.2) (fun _ _ _ => none) q.2.1.defs) (fun v => @List.rec _ (fun _ => Option (ARes × Heap)) (some (.panic v, q.2.2)) (fun _ _ _ => none) q.2.1.defs) q.1
noncomputable def bodyT2 (X : Ctx) (f : FuncId) (Y : FC) (fuel : Nat) (fn : Func) (args : List AVal) (h : Heap) (c : Code) : Option (ARes × Heap) :=
  cb (Nat.ble args.length Y.n && Nat.ble Y.n 256) (ob (runT X f Y fuel c (startT args) h) (endT X f Y fn fuel)) none
noncomputable def bodyT1 (X : Ctx) (call : Call) (fuel : Nat) (f : FuncId) (args : List AVal) (h : Heap) (fn : Func) : Option (ARes × Heap) :=
  ob fn.body (bodyT2 X f ⟨call, fn.ntmps⟩ fuel fn args h)
noncomputable def bodyT (X : Ctx) (call : Call) (fuel : Nat) (f : FuncId) (args : List AVal) (h : Heap) : Option (ARes × Heap) :=
  cb (X.cfg.defers f) (body X call fuel f args h) (ob (fnAt X f) (bodyT1 X call fuel f args h))
noncomputable def denT (X : Ctx) (prims : Prims) : Nat → Call :=
  @Nat.rec (fun _ => Call) (fun _ _ _ => none) fun n ih f args h => @Option.rec _ (fun _ => Option (ARes × Heap)) (bodyT X ih n f args h) (fun p => p args h) (prims f)
theorem startT_abs {args : List AVal} (hY : Y.ok) : abs Y (startT args) = { env := envOf args, boxes := [], n := Y.n, defs := [] } := by
  unfold startT abs
  have e : (fun t => (nth args t).getD undefA) = envOf args := by
    funext t
    rw [nth_eq, envOf_get']
  simp only [e, absE_tab hY]
theorem bodyT2_ok {call : Call} {fuel : Nat} {fn : Func} {args : List AVal} {c : Code} {r : ARes × Heap} (hfn : X.P.funcs[f]? = some fn) (hc : fn.body = some c)
    (hb : bodyT2 X f ⟨call, fn.ntmps⟩ fuel fn args h c = some r) : body X call fuel f args h = some r := by
  unfold bodyT2 at hb
  rw [cb_eq] at hb
  cases hq : (Nat.ble args.length fn.ntmps && Nat.ble fn.ntmps 256) with
  | false => rw [show (Nat.ble args.length (FC.mk call fn.ntmps).n && Nat.ble (FC.mk call fn.ntmps).n 256) = false from hq] at hb; cases hb
  | true =>
    rw [show (Nat.ble args.length (FC.mk call fn.ntmps).n && Nat.ble (FC.mk call fn.ntmps).n 256) = true from hq, cond_true] at hb
    simp only [Bool.and_eq_true] at hq
    have hY : (FC.mk call fn.ntmps).ok := Nat.le_of_ble_eq_true hq.2
    unfold body
    simp only [hfn, hc, hq.1, cond_true]
    cases hr : runT X f ⟨call, fn.ntmps⟩ fuel c (startT args) h with
    | none => rw [hr] at hb; cases hb
    | some q =>
      rw [hr] at hb
      have := runT_ok hY fuel c _ h q hr
      rw [startT_abs hY] at this
      rw [show (⟨envOf args, [], (FC.mk call fn.ntmps).n, []⟩ : FS) = { env := envOf args, boxes := [], n := fn.ntmps, defs := [] } from rfl] at this
      rw [this]
      obtain ⟨e, s', h'⟩ := q
      change endT X f ⟨call, fn.ntmps⟩ fn fuel (e, s', h') = some r at hb
      have hd : (abs ⟨call, fn.ntmps⟩ s').defs = s'.defs := rfl
      cases e with
      | normal =>
        simp only [absR, hd]
        cases hdf : s'.defs with
        | nil =>
          have hb' : resultsT X fn f ⟨call, fn.ntmps⟩ s' h' = some r := by
            simp only [endT, hdf] at hb; exact hb
          rw [resultsT_eq] at hb'
          exact hb'
        | cons a b => simp only [endT, hdf] at hb; cases hb
      | ret =>
        simp only [absR, hd]
        cases hdf : s'.defs with
        | nil =>
          have hb' : resultsT X fn f ⟨call, fn.ntmps⟩ s' h' = some r := by
            simp only [endT, hdf] at hb; exact hb
          rw [resultsT_eq] at hb'
          exact hb'
        | cons a b => simp only [endT, hdf] at hb; cases hb
      | panic v =>
        simp only [absR, hd]
        cases hdf : s'.defs with
        | nil => simp only [endT, hdf] at hb; exact hb
        | cons a b => simp only [endT, hdf] at hb; cases hb
      | exit i => cases hb
theorem bodyT_ok {call : Call} {fuel : Nat} {args : List AVal} {r : ARes × Heap} (hb : bodyT X call fuel f args h = some r) : body X call fuel f args h = some r := by
  unfold bodyT at hb
  rw [cb_eq] at hb
  cases hd : X.cfg.defers f with
  | true => rw [hd] at hb; exact hb
  | false =>
    rw [hd, cond_false, fnAt_eq] at hb
    cases hfn : X.P.funcs[f]? with
    | none => rw [hfn] at hb; cases hb
    | some fn =>
      rw [hfn] at hb
      change ob fn.body _ = _ at hb
      cases hc : fn.body with
      | none => rw [hc] at hb; cases hb
      | some c => rw [hc] at hb; exact bodyT2_ok hfn hc hb
end Go.Den
namespace Go.Den
open Go
theorem denT_sound {X : Ctx} {prims : Prims} (hm : X.P.follows .mixedOrders = true) (hP : PlainNames X.P) (hds : ∀ g fn c, X.P.funcs[g]? = some fn → fn.body = some c → drawsOK X g c = true) (hpr : PrimSim X.P prims) :
    ∀ n, CallSim X.P (denT X prims n)
  | 0 => fun f args h r h' hr => by cases hr
  | n + 1 => by
    have ih := denT_sound hm hP hds hpr n
    intro f args h r h' hr E w cargs hH hA
    change @Option.rec _ (fun _ => Option (ARes × Heap)) (bodyT X (denT X prims n) n f args h) (fun p => p args h) (prims f) = _ at hr
    cases hp : prims f with
    | some p => rw [hp] at hr; exact hpr f p hp args h r h' hr E w cargs hH hA
    | none => rw [hp] at hr; exact body_sound hP ih (draw_sim hm hP ih) hds n f args h r h' (bodyT_ok hr) E w cargs hH hA
end Go.Den
