/-
  SPEC, RULES: what expressions and statements come to, step by step.
-/
import Derived.Test.YthbcdilmfgfndaaGreatDoorZl
import Derived.Test.YthbcdilmfgfndaaGreatDoorZm
set_option linter.unusedSimpArgs false
set_option linter.unusedVariables false
namespace Go.Wf
open Go
variable {E : Env} {F : Fn} {f : Fr} {s s' : St} {k : Nat}
theorem chk_of {e : Ex} {v : Int} (h : exprS E F f e s = some (.ok v s')) (hv : in32 v = true) : chkS E F f e s = some (.ok v s') := by
  unfold chkS; rw [h]; simp only [hv]
theorem bind_of {α β : Type} {m : M α} {g : α → M β} {a : α} (h : m s = some (.ok a s')) : (m >>= g) s = g a s' := by
  show M.bind m g s = _
  unfold M.bind; rw [h]
theorem in32_of {v : Int} (h1 : -2147483648 ≤ v) (h2 : v ≤ 2147483647) : in32 v = true := by simp [in32]; omega
theorem w32_of {v : Int} (h1 : -2147483648 ≤ v) (h2 : v ≤ 2147483647) : w32 v = v := by
  have e : w32 v = (v + 2147483648) % 4294967296 - 2147483648 := by
    unfold w32 IntKind.wrap
    simp [IntKind.signed, IntKind.bits]
    omega
  rw [e]; omega
theorem e_const {t : Ty} {i : Int} {nm : Nm} {x : List Ex} (hi : in32 i = true) : (lvl E (k + 1)).expr f (.mk 0 t i nm x) s = some (.ok i s) := by
  show chkS E (lvl E k) f (.mk 0 t i nm x) s = _
  exact chk_of rfl hi
theorem p_glob {t : Ty} {i : Int} {nm : Nm} {x : List Ex} {l : Loc} (h1 : dot nm = true) (h2 : findR nm f = none) (h3 : findR nm E.vars = some l) : (lvl E (k + 1)).place f (.mk 1 t i nm x) s = some (.ok l s) := by
  show placeS E (lvl E k) f (.mk 1 t i nm x) s = _
  unfold placeS
  simp only [if_true, h1, h2, h3, need]
theorem p_idx {t : Ty} {i : Int} {nm : Nm} {a j : Ex} {p : Loc} {v : Int} {n : Nat} (h1 : (lvl E k).place f a s = some (.ok p s)) (h2 : (lvl E k).expr f j s = some (.ok v s)) (h3 : 0 ≤ v) (h4 : v < a.t.n) (h5 : words E.R E.k t = some n) (h6 : p.o + v.toNat * n ≤ far) :
    (lvl E (k + 1)).place f (.mk 2 t i nm [a, j]) s = some (.ok ⟨p.b, p.o + v.toNat * n⟩ s) := by
  have e : (lvl E (k + 1)).place f (.mk 2 t i nm [a, j]) s = ((lvl E k).place f a >>= fun p => (lvl E k).expr f j >>= fun v => must (decide (0 ≤ v) && decide (v < a.t.n)) 1 >>= fun _ => W E t >>= fun n => locM p.b (p.o + v.toNat * n)) s := rfl
  rw [e, bind_of h1, bind_of h2]
  have hm : must (decide (0 ≤ v) && decide (v < a.t.n)) 1 s = some (.ok () s) := by
    have : (decide (0 ≤ v) && decide (v < a.t.n)) = true := by simp [h3, h4]
    rw [this]; rfl
  rw [bind_of hm]
  have hw : W E t s = some (.ok n s) := by simp [W, need, h5]
  rw [bind_of hw]
  simp [locM, h6]
theorem e_load {op : Int} {t : Ty} {i : Int} {nm : Nm} {x : List Ex} {l : Loc} {v : Int} {blk : List Int} (hop : op = 1 ∨ op = 2) (h1 : (lvl E k).place f (.mk op t i nm x) s = some (.ok l s)) (h2 : s.mem[l.b]? = some blk) (h3 : blk[l.o]? = some v) (h4 : in32 v = true) :
    (lvl E (k + 1)).expr f (.mk op t i nm x) s = some (.ok v s) := by
  refine chk_of ?_ h4
  have e : exprS E (lvl E k) f (.mk op t i nm x) s = ((lvl E k).place f (.mk op t i nm x) >>= fun p => loadL p) s := by
    rcases hop with rfl | rfl <;> rfl
  rw [e, bind_of h1]
  simp [loadL, h2, h3]
theorem e_un {op : Int} {t : Ty} {i : Int} {nm : Nm} {a : Ex} {v r : Int} (hop : op = 7 ∨ op = 8 ∨ op = 27 ∨ op = 28 ∨ op = 32 ∨ op = 33) (h1 : (lvl E k).expr f a s = some (.ok v s)) (h2 : un op a.t.form v = some (some r)) (h4 : in32 r = true) :
    (lvl E (k + 1)).expr f (.mk op t i nm [a]) s = some (.ok r s) := by
  refine chk_of ?_ h4
  have e : exprS E (lvl E k) f (.mk op t i nm [a]) s = ((lvl E k).expr f a >>= fun v => match un op a.t.form v with
    | none => stuck
    | some none => trap 6
    | some (some r) => pure r) s := by
    rcases hop with rfl | rfl | rfl | rfl | rfl | rfl <;> rfl
  rw [e, bind_of h1]
  simp only [h2]; rfl
theorem e_bin {op : Int} {t : Ty} {i : Int} {nm : Nm} {a b : Ex} {v w r : Int} (hop : op = 9 ∨ op = 10 ∨ op = 16 ∨ op = 20) (h1 : (lvl E k).expr f a s = some (.ok v s)) (h1' : (lvl E k).expr f b s = some (.ok w s)) (h2 : bin op a.t.form v w = some (some r)) (h4 : in32 r = true) :
    (lvl E (k + 1)).expr f (.mk op t i nm [a, b]) s = some (.ok r s) := by
  refine chk_of ?_ h4
  have e : exprS E (lvl E k) f (.mk op t i nm [a, b]) s = ((lvl E k).expr f a >>= fun v => (lvl E k).expr f b >>= fun w => match bin op a.t.form v w with
    | none => stuck
    | some none => trap 4
    | some (some r) => pure r) s := by
    rcases hop with rfl | rfl | rfl | rfl <;> rfl
  rw [e, bind_of h1, bind_of h1']
  simp only [h2]; rfl
theorem e_andF {t : Ty} {i : Int} {nm : Nm} {a b : Ex} (h1 : (lvl E k).expr f a s = some (.ok 0 s)) : (lvl E (k + 1)).expr f (.mk 15 t i nm [a, b]) s = some (.ok 0 s) := by
  refine chk_of ?_ rfl
  have e : exprS E (lvl E k) f (.mk 15 t i nm [a, b]) s = ((lvl E k).expr f a >>= fun v => if v = 0 ∨ v = 1 then (if (v = 1 ∧ (15 : Int) = 14) ∨ (v = 0 ∧ (15 : Int) = 15) then pure v else (lvl E k).expr f b) else stuck) s := rfl
  rw [e, bind_of h1]; rfl
theorem e_andT {t : Ty} {i : Int} {nm : Nm} {a b : Ex} {v : Int} (h1 : (lvl E k).expr f a s = some (.ok 1 s)) (h2 : (lvl E k).expr f b s = some (.ok v s)) (h3 : in32 v = true) : (lvl E (k + 1)).expr f (.mk 15 t i nm [a, b]) s = some (.ok v s) := by
  refine chk_of ?_ h3
  have e : exprS E (lvl E k) f (.mk 15 t i nm [a, b]) s = ((lvl E k).expr f a >>= fun v => if v = 0 ∨ v = 1 then (if (v = 1 ∧ (15 : Int) = 14) ∨ (v = 0 ∧ (15 : Int) = 15) then pure v else (lvl E k).expr f b) else stuck) s := rfl
  rw [e, bind_of h1]
  exact h2
theorem e_eof {t : Ty} {i : Int} {nm : Nm} {x : List Ex} : (lvl E (k + 1)).expr f (.mk 34 t i nm x) s = some (.ok (flag s.inp.isEmpty) s) := by
  show chkS E (lvl E k) f (.mk 34 t i nm x) s = _
  refine chk_of (v := flag s.inp.isEmpty) rfl ?_
  cases s.inp.isEmpty <;> rfl
theorem burn_of (h : 0 < s.fuel) : burn s = some (.ok () { s with fuel := s.fuel - 1 }) := by
  unfold burn; rw [if_neg (by omega)]
theorem keep_of {l : Loc} {v : Int} {blk : List Int} (h1 : s.mem[l.b]? = some blk) (h2 : l.o < blk.length) : keepL l v s = some (.ok () { s with mem := s.mem.set l.b (blk.set l.o v) }) := by
  simp [keepL, h1, h2]
theorem load_of {l : Loc} {v : Int} {blk : List Int} (h1 : s.mem[l.b]? = some blk) (h2 : blk[l.o]? = some v) : loadL l s = some (.ok v s) := by
  simp [loadL, h1, h2]
theorem b_nil : bodyS E F f [] s = some (.ok () s) := rfl
theorem b_cons {a : Sm} {l : List Sm} {s1 : St} {r : Rs Unit} (h0 : 0 < s.fuel) (h1 : stmtS E F f a { s with fuel := s.fuel - 1 } = some (.ok () s1)) (h2 : bodyS E F f l s1 = some r) : bodyS E F f (a :: l) s = some r := by
  have e : bodyS E F f (a :: l) s = (burn >>= fun _ => stmtS E F f a >>= fun _ => bodyS E F f l) s := rfl
  rw [e, bind_of (burn_of h0), bind_of h1, h2]
theorem b_lvl {l : List Sm} {r : Rs Unit} (h0 : l.length ≤ far) (h : bodyS E (lvl E k) f l s = some r) : (lvl E (k + 1)).body f l s = some r := by
  have e : (lvl E (k + 1)).body f l s = (okL l.length >>= fun _ => bodyS E (lvl E k) f l) s := rfl
  have h1 : okL l.length s = some (.ok () s) := by simp [okL, h0]
  rw [e, bind_of h1, h]
theorem s_assign {to e : Ex} {b : List (List Sm)} {i : List Int} {p : Loc} {v : Int} {blk : List Int} (h0 : ¬ (e.op = 0 ∧ e.t.form = 6)) (h0' : ¬ (to.t.form = 7 ∨ to.t.form = 8)) (h1 : F.place f to s = some (.ok p s)) (h2 : F.expr f e s = some (.ok v s)) (h3 : s.mem[p.b]? = some blk) (h4 : p.o < blk.length) :
    stmtS E F f (.mk 0 [to, e] b i) s = some (.ok () { s with mem := s.mem.set p.b (blk.set p.o v) }) := by
  have e1 : stmtS E F f (.mk 0 [to, e] b i) s = assignS E F f to e s := rfl
  rw [e1]
  unfold assignS
  rw [bind_of h1]
  have e2 : (if e.op = 0 ∧ e.t.form = 6 then (do okL e.s.length; keepAll p (e.s.map byteI ++ [0])) else if to.t.form = 7 ∨ to.t.form = 8 then (do
    let q ← F.place f e
    let n ← W E to.t
    let l ← wordsAt q n
    keepAll p l) else (do
    let v ← F.expr f e
    keepL p v) : M Unit) = (F.expr f e >>= fun v => keepL p v) := by rw [if_neg h0, if_neg h0']
  refine (congrFun e2 s).trans ?_
  rw [bind_of h2, keep_of h3 h4]
theorem s_change {op : Int} {to e : Ex} {b : List (List Sm)} {i : List Int} {p : Loc} {v w r : Int} {blk : List Int} (hop : (op = 7 ∧ r = w32 (w + v)) ∨ (op = 8 ∧ r = w32 (w - v))) (h1 : F.place f to s = some (.ok p s)) (h2 : F.expr f e s = some (.ok v s)) (h3 : s.mem[p.b]? = some blk) (h4 : blk[p.o]? = some w) :
    stmtS E F f (.mk op [to, e] b i) s = some (.ok () { s with mem := s.mem.set p.b (blk.set p.o r) }) := by
  have hl : p.o < blk.length := by
    rcases Nat.lt_or_ge p.o blk.length with q | q
    · exact q
    · rw [List.getElem?_eq_none q] at h4; cases h4
  rcases hop with ⟨rfl, rfl⟩ | ⟨rfl, rfl⟩
  · have e1 : stmtS E F f (.mk 7 [to, e] b i) s = (F.place f to >>= fun p => F.expr f e >>= fun x => loadL p >>= fun w => keepL p (w32 (w + x))) s := rfl
    rw [e1, bind_of h1, bind_of h2, bind_of (load_of h3 h4), keep_of h3 hl]
  · have e1 : stmtS E F f (.mk 8 [to, e] b i) s = (F.place f to >>= fun p => F.expr f e >>= fun x => loadL p >>= fun w => keepL p (w32 (w - x))) s := rfl
    rw [e1, bind_of h1, bind_of h2, bind_of (load_of h3 h4), keep_of h3 hl]
theorem s_read {e : Ex} {b : List (List Sm)} {i : List Int} {p : Loc} {blk : List Int} {c : UInt8} {l : List UInt8} (h1 : F.place f e s = some (.ok p s)) (hi : s.inp = c :: l) (h3 : s.mem[p.b]? = some blk) (h4 : p.o < blk.length) :
    stmtS E F f (.mk 13 [e] b i) s = some (.ok () { s with inp := l, mem := s.mem.set p.b (blk.set p.o (byteI c)) }) := by
  have e1 : stmtS E F f (.mk 13 [e] b i) s = (F.place f e >>= fun p => readS >>= fun v => keepL p v) s := rfl
  have h5 : readS s = some (.ok (byteI c) { s with inp := l }) := by simp [readS, hi]
  rw [e1, bind_of h1, bind_of h5]
  exact keep_of (s := { s with inp := l }) h3 h4
theorem s_put {e : Ex} {b : List (List Sm)} {i : List Int} {v : Int} (h1 : F.expr f e s = some (.ok v s)) (hl : s.out.length + 1 ≤ most) :
    stmtS E F f (.mk 15 [e] b i) s = some (.ok () { s with out := s.out ++ [byteOf v] }) := by
  have e1 : stmtS E F f (.mk 15 [e] b i) s = (F.expr f e >>= fun v => put [byteOf v]) s := rfl
  rw [e1, bind_of h1]
  simp [put, hl]
theorem wh_stop {e : Ex} {l : List Sm} (h0 : 0 < s.fuel) (h1 : (lvl E k).expr f e { s with fuel := s.fuel - 1 } = some (.ok 0 { s with fuel := s.fuel - 1 })) : (lvl E (k + 1)).whl f [e] [l] s = some (.ok () { s with fuel := s.fuel - 1 }) := by
  have e1 : (lvl E (k + 1)).whl f [e] [l] s = (okL 1 >>= fun _ => againS (lvl E k) f [e] [l] >>= fun r => match r with | true => (lvl E k).whl f [e] [l] | false => pure ()) s := rfl
  have h2 : okL 1 s = some (.ok () s) := rfl
  have h3 : againS (lvl E k) f [e] [l] s = some (.ok false { s with fuel := s.fuel - 1 }) := by
    have e2 : againS (lvl E k) f [e] [l] s = (burn >>= fun _ => (lvl E k).expr f e >>= fun v => if v = 0 then againS (lvl E k) f [] [] else (lvl E k).body f l >>= fun _ => pure true) s := rfl
    rw [e2, bind_of (burn_of h0), bind_of h1]; rfl
  rw [e1, bind_of h2, bind_of h3]; rfl
theorem wh_next {e : Ex} {l : List Sm} {v : Int} {s1 : St} {r : Rs Unit} (h0 : 0 < s.fuel) (h1 : (lvl E k).expr f e { s with fuel := s.fuel - 1 } = some (.ok v { s with fuel := s.fuel - 1 })) (hv : v ≠ 0) (h2 : (lvl E k).body f l { s with fuel := s.fuel - 1 } = some (.ok () s1)) (h3 : (lvl E k).whl f [e] [l] s1 = some r) :
    (lvl E (k + 1)).whl f [e] [l] s = some r := by
  have e1 : (lvl E (k + 1)).whl f [e] [l] s = (okL 1 >>= fun _ => againS (lvl E k) f [e] [l] >>= fun r => match r with | true => (lvl E k).whl f [e] [l] | false => pure ()) s := rfl
  have h2' : okL 1 s = some (.ok () s) := rfl
  have h3' : againS (lvl E k) f [e] [l] s = some (.ok true s1) := by
    have e2 : againS (lvl E k) f [e] [l] s = (burn >>= fun _ => (lvl E k).expr f e >>= fun v => if v = 0 then againS (lvl E k) f [] [] else (lvl E k).body f l >>= fun _ => pure true) s := rfl
    rw [e2, bind_of (burn_of h0), bind_of h1]
    refine (congrFun (if_neg hv) _).trans ?_
    rw [bind_of h2]; rfl
  rw [e1, bind_of h2', bind_of h3']; exact h3
theorem s_while {x : List Ex} {b : List (List Sm)} {i : List Int} : stmtS E F f (.mk 3 x b i) s = F.whl f x b s := rfl
theorem fr_stop {p : Loc} {last x : Int} {l : List Sm} {blk : List Int} (h0 : 0 < s.fuel) (h1 : s.mem[p.b]? = some blk) (h2 : blk[p.o]? = some x) (h3 : last < x) : (lvl E (k + 1)).forl f p last 1 l s = some (.ok () { s with fuel := s.fuel - 1 }) := by
  have e1 : (lvl E (k + 1)).forl f p last 1 l s = (burn >>= fun _ => loadL p >>= fun x => if (0 < (1 : Int) ∧ last < x) ∨ ((1 : Int) < 0 ∧ x < last) then pure () else ((lvl E k).body f l >>= fun _ => loadL p >>= fun y => keepL p (w32 (y + 1)) >>= fun _ => (lvl E k).forl f p last 1 l)) s := rfl
  rw [e1, bind_of (burn_of h0), bind_of (load_of (s := { s with fuel := s.fuel - 1 }) h1 h2)]
  refine (congrFun (if_pos (.inl ⟨by decide, h3⟩)) _).trans rfl
theorem fr_next {p : Loc} {last x y : Int} {l : List Sm} {blk blk' : List Int} {s1 : St} {r : Rs Unit} (h0 : 0 < s.fuel) (h1 : s.mem[p.b]? = some blk) (h2 : blk[p.o]? = some x) (h3 : ¬ last < x) (h4 : (lvl E k).body f l { s with fuel := s.fuel - 1 } = some (.ok () s1)) (h5 : s1.mem[p.b]? = some blk') (h6 : blk'[p.o]? = some y)
    (h7 : (lvl E k).forl f p last 1 l { s1 with mem := s1.mem.set p.b (blk'.set p.o (w32 (y + 1))) } = some r) : (lvl E (k + 1)).forl f p last 1 l s = some r := by
  have hl : p.o < blk'.length := by
    rcases Nat.lt_or_ge p.o blk'.length with q | q
    · exact q
    · rw [List.getElem?_eq_none q] at h6; cases h6
  have e1 : (lvl E (k + 1)).forl f p last 1 l s = (burn >>= fun _ => loadL p >>= fun x => if (0 < (1 : Int) ∧ last < x) ∨ ((1 : Int) < 0 ∧ x < last) then pure () else ((lvl E k).body f l >>= fun _ => loadL p >>= fun y => keepL p (w32 (y + 1)) >>= fun _ => (lvl E k).forl f p last 1 l)) s := rfl
  rw [e1, bind_of (burn_of h0), bind_of (load_of (s := { s with fuel := s.fuel - 1 }) h1 h2)]
  refine (congrFun (if_neg (by omega)) _).trans ?_
  rw [bind_of h4, bind_of (load_of h5 h6), bind_of (keep_of h5 hl)]
  exact h7
theorem s_for {v a z : Ex} {l : List Sm} {p : Loc} {first last : Int} {blk : List Int} {r : Rs Unit} (h1 : F.place f v s = some (.ok p s)) (h2 : F.expr f a s = some (.ok first s)) (h3 : s.mem[p.b]? = some blk) (h4 : p.o < blk.length)
    (h5 : F.expr f z { s with mem := s.mem.set p.b (blk.set p.o first) } = some (.ok last { s with mem := s.mem.set p.b (blk.set p.o first) })) (h6 : F.forl f p last 1 l { s with mem := s.mem.set p.b (blk.set p.o first) } = some r) :
    stmtS E F f (.mk 5 [v, a, z] [l] [1]) s = some r := by
  have e1 : stmtS E F f (.mk 5 [v, a, z] [l] [1]) s = (F.place f v >>= fun p => F.expr f a >>= fun first => keepL p first >>= fun _ => F.expr f z >>= fun last => F.forl f p last 1 l) s := rfl
  rw [e1, bind_of h1, bind_of h2, bind_of (keep_of h3 h4), bind_of h5, h6]
end Go.Wf
namespace Go.Wf
open Go
variable {E : Env} {F : Fn} {f : Fr} {s s' : St} {k : Nat}
theorem s_int {e : Ex} {b : List (List Sm)} {i : List Int} {v : Int} (h1 : F.expr f e s = some (.ok v s)) (hv : ioOK v = true) (hl : s.out.length + (decI v).length ≤ most) :
    stmtS E F f (.mk 14 [e] b i) s = some (.ok () { s with out := s.out ++ decI v }) := by
  have e1 : stmtS E F f (.mk 14 [e] b i) s = (F.expr f e >>= fun v => match ioOK v with | true => put (decI v) | false => stuck) s := rfl
  rw [e1, bind_of h1]
  simp only [hv]
  simp [put, hl]
theorem s_ln {b : List (List Sm)} {i : List Int} (hl : s.out.length + 1 ≤ most) : stmtS E F f (.mk 17 [] b i) s = some (.ok () { s with out := s.out ++ [10] }) := by
  have e1 : stmtS E F f (.mk 17 [] b i) s = put [10] s := rfl
  rw [e1]
  simp [put, hl]
theorem s_read0 {e : Ex} {b : List (List Sm)} {i : List Int} {p : Loc} {blk : List Int} (h1 : F.place f e s = some (.ok p s)) (hi : s.inp = []) (h3 : s.mem[p.b]? = some blk) (h4 : p.o < blk.length) :
    stmtS E F f (.mk 13 [e] b i) s = some (.ok () { s with mem := s.mem.set p.b (blk.set p.o 0) }) := by
  have e1 : stmtS E F f (.mk 13 [e] b i) s = (F.place f e >>= fun p => readS >>= fun v => keepL p v) s := rfl
  have h5 : readS s = some (.ok 0 s) := by simp [readS, hi]
  rw [e1, bind_of h1, bind_of h5]
  exact keep_of h3 h4
theorem decN_len3 {n : Nat} (h : n < 1000) : (decN n).length ≤ 3 := by
  have one : ∀ m, m < 10 → (decN m).length = 1 := fun m hm => by unfold decN; rw [if_pos hm]; rfl
  have two : ∀ m, m < 100 → (decN m).length ≤ 2 := fun m hm => by
    unfold decN
    split
    · simp
    · rw [List.length_append, one _ (by omega)]; simp
  unfold decN
  split
  · simp
  · have := two (n / 10) (by omega)
    rw [List.length_append]; simp; omega
theorem decI_nat (n : Nat) : decI (n : Int) = decN n := by
  unfold decI; rw [if_neg (by omega)]; simp
end Go.Wf
namespace Go.Wf.Reads
open Go Go.Wf
abbrev tInt : Ty := .mk 1 0 [] []
abbrev tChr : Ty := .mk 2 0 [] []
abbrev tBoo : Ty := .mk 3 0 [] []
abbrev vC : Ex := .mk 1 tChr 0 [77, 46, 99] []
abbrev vN : Ex := .mk 1 tInt 0 [77, 46, 110] []
abbrev lit (n : Int) : Ex := .mk 0 tInt n [] []
abbrev g1 : Ex := .mk 8 tBoo 0 [] [.mk 34 tBoo 0 [] []]
abbrev rdC : Sm := .mk 13 [vC] [] []
abbrev wrC : Sm := .mk 14 [.mk 32 tInt 0 [] [vC]] [] []
abbrev B1 : List Sm := [rdC, wrC, .mk 15 [.mk 0 tChr 32 [] []] [] [], .mk 7 [vN, lit 1] [] []]
abbrev body : List Sm := [.mk 3 [g1] [B1] [], rdC, wrC, .mk 17 [] [] [], .mk 14 [vN] [] []]
abbrev vars : List Vr := [⟨[99], false, tChr⟩, ⟨[110], false, tInt⟩]
def D : Md := ⟨[77], [], [], [], [], vars, [], body⟩
abbrev VS : Fr := [([77, 46, 110], ⟨1, 0⟩), ([77, 46, 99], ⟨0, 0⟩)]
abbrev ES (K : Nat) : Env := ⟨[], K + 3, VS, []⟩
abbrev st (fuel : Int) (inp out : List UInt8) (c n : Int) : St := ⟨fuel, 0, inp, out, 0, [[c], [n]], []⟩
variable {K k : Nat} {fuel : Int} {inp out : List UInt8} {c n : Int}
theorem x_lit {i : Int} (h : in32 i = true) {s : St} : (lvl (ES K) (k + 1)).expr [] (lit i) s = some (.ok i s) := e_const h
theorem x_C (h : in32 c = true) : (lvl (ES K) (k + 2)).expr [] vC (st fuel inp out c n) = some (.ok c (st fuel inp out c n)) := e_load (.inl rfl) (p_glob rfl rfl rfl) rfl rfl h
theorem x_N (h : in32 n = true) : (lvl (ES K) (k + 2)).expr [] vN (st fuel inp out c n) = some (.ok n (st fuel inp out c n)) := e_load (.inl rfl) (p_glob rfl rfl rfl) rfl rfl h
theorem x_ord (h : in32 c = true) : (lvl (ES K) (k + 3)).expr [] (.mk 32 tInt 0 [] [vC]) (st fuel inp out c n) = some (.ok c (st fuel inp out c n)) := e_un (by simp) (x_C (k := k) h) rfl h
def outR : List UInt8 → List UInt8
  | [] => []
  | b :: l => decN b.toNat ++ [32] ++ outR l
theorem small {m : Nat} (h : m ≤ 1000) : in32 (m : Int) = true := in32_of (by omega) (by omega)
theorem smallO {m : Nat} (h : m ≤ 1000) : ioOK (m : Int) = true := by simp [ioOK]; omega
theorem w_rd {l : List UInt8} {b : UInt8} : stmtS (ES K) (lvl (ES K) (k + 1)) [] rdC (st fuel (b :: l) out c n) = some (.ok () (st fuel l out (byteI b) n)) := s_read (E := ES K) (p := ⟨0, 0⟩) (blk := [c]) (p_glob rfl rfl rfl) rfl rfl (by show 0 < 1; omega)
theorem w_rd0 : stmtS (ES K) (lvl (ES K) (k + 1)) [] rdC (st fuel [] out c n) = some (.ok () (st fuel [] out 0 n)) := s_read0 (E := ES K) (p := ⟨0, 0⟩) (blk := [c]) (p_glob rfl rfl rfl) rfl rfl (by show 0 < 1; omega)
theorem w_wr {m : Nat} (hm : m < 256) (ho : out.length ≤ 900) : stmtS (ES K) (lvl (ES K) (k + 3)) [] wrC (st fuel inp out (m : Int) n) = some (.ok () (st fuel inp (out ++ decN m) (m : Int) n)) := by
  have hd := decN_len3 (n := m) (by omega)
  have := s_int (E := ES K) (b := []) (i := []) (x_ord (K := K) (k := k) (fuel := fuel) (inp := inp) (out := out) (n := n) (small (m := m) (by omega))) (smallO (by omega)) (by
    rw [decI_nat]
    show out.length + _ ≤ 1000000
    omega)
  rw [decI_nat] at this
  exact this
theorem w_sp (ho : out.length ≤ 990) : stmtS (ES K) (lvl (ES K) (k + 1)) [] (.mk 15 [.mk 0 tChr 32 [] []] [] []) (st fuel inp out c n) = some (.ok () (st fuel inp (out ++ [32]) c n)) :=
  s_put (E := ES K) (v := 32) (e_const rfl) (by show out.length + 1 ≤ 1000000; omega)
theorem w_inc : stmtS (ES K) (lvl (ES K) (k + 1)) [] (.mk 7 [vN, lit 1] [] []) (st fuel inp out c n) = some (.ok () (st fuel inp out c (w32 (n + 1)))) := s_change (E := ES K) (p := ⟨1, 0⟩) (blk := [n]) (v := 1) (w := n) (.inl ⟨rfl, rfl⟩) (p_glob rfl rfl rfl) (x_lit rfl) rfl rfl
theorem w_pn {m : Nat} (hm : m < 256) (ho : out.length ≤ 900) : stmtS (ES K) (lvl (ES K) (k + 2)) [] (.mk 14 [vN] [] []) (st fuel inp out c (m : Int)) = some (.ok () (st fuel inp (out ++ decN m) c (m : Int))) := by
  have hd := decN_len3 (n := m) (by omega)
  have := s_int (E := ES K) (b := []) (i := []) (x_N (K := K) (k := k) (fuel := fuel) (inp := inp) (out := out) (c := c) (small (m := m) (by omega))) (smallO (by omega)) (by
    rw [decI_nat]
    show out.length + _ ≤ 1000000
    omega)
  rw [decI_nat] at this
  exact this
theorem w_ln (ho : out.length ≤ 990) : stmtS (ES K) (lvl (ES K) k) [] (.mk 17 [] [] []) (st fuel inp out c n) = some (.ok () (st fuel inp (out ++ [10]) c n)) := s_ln (E := ES K) (by show out.length + 1 ≤ 1000000; omega)
theorem reads : ∀ (l2 : List UInt8) (n : Nat) (out : List UInt8) (c fuel : Int) (k : Nat), n + l2.length ≤ 60 → out.length + 4 * l2.length ≤ 800 → 5 * (l2.length : Int) + 1 ≤ fuel →
    ∃ c', (lvl (ES K) (k + l2.length + 9)).whl [] [g1] [B1] (st fuel l2 out c n) = some (.ok () (st (fuel - (5 * (l2.length : Int) + 1)) [] (out ++ outR l2) c' ((n + l2.length : Nat) : Int)))
  | [], n, out, c, fuel, k, h, ho, hf => by
    refine ⟨c, ?_⟩
    have e : fuel - (5 * ((([] : List UInt8).length : Nat) : Int) + 1) = fuel - 1 := by simp
    rw [e]
    simp only [outR, List.append_nil, List.length_nil, Nat.add_zero]
    exact wh_stop (k := k + 8) (by show 0 < fuel; simp at hf; omega) (e_un (.inr (.inl rfl)) (e_eof (k := k + 6)) rfl rfl)
  | b :: l2, n, out, c, fuel, k, h, ho, hf => by
    simp only [List.length_cons] at h ho hf
    have hb := b.toNat_lt
    have hd := decN_len3 (n := b.toNat) (by omega)
    obtain ⟨c', ih⟩ := reads l2 (n + 1) (out ++ decN b.toNat ++ [32]) (byteI b) (fuel - 1 - 1 - 1 - 1 - 1) k (by omega) (by simp; omega) (by omega)
    refine ⟨c', ?_⟩
    have hl : k + (b :: l2).length + 9 = (k + l2.length + 9) + 1 := by simp; omega
    rw [hl]
    have hg : (lvl (ES K) (k + l2.length + 9)).expr [] g1 (st (fuel - 1) (b :: l2) out c n) = some (.ok 1 (st (fuel - 1) (b :: l2) out c n)) := e_un (.inr (.inl rfl)) (e_eof (k := k + l2.length + 7)) rfl rfl
    refine wh_next (by show 0 < fuel; omega) hg (by decide) (s1 := st (fuel - 1 - 1 - 1 - 1 - 1) l2 (out ++ decN b.toNat ++ [32]) (byteI b) ((n + 1 : Nat) : Int)) ?_ ?_
    · have e : decI (byteI b) = decN b.toNat := decI_nat _
      have e2 : w32 ((n : Int) + 1) = ((n + 1 : Nat) : Int) := by rw [w32_of (by omega) (by omega)]; simp
      have t1 := w_rd (K := K) (k := k + l2.length + 7) (fuel := fuel - 1 - 1) (l := l2) (b := b) (out := out) (c := c) (n := n)
      have t2 := w_wr (K := K) (k := k + l2.length + 5) (fuel := fuel - 1 - 1 - 1) (inp := l2) (out := out) (m := b.toNat) (n := n) (by omega) (by omega)
      have t3 := w_sp (K := K) (k := k + l2.length + 7) (fuel := fuel - 1 - 1 - 1 - 1) (inp := l2) (out := out ++ decN b.toNat) (c := byteI b) (n := n) (by simp; omega)
      have t4 := w_inc (K := K) (k := k + l2.length + 7) (fuel := fuel - 1 - 1 - 1 - 1 - 1) (inp := l2) (out := out ++ decN b.toNat ++ [32]) (c := byteI b) (n := n)
      rw [e2] at t4
      exact b_lvl (k := k + l2.length + 8) (by show 4 ≤ 1000000000000; omega) (b_cons (by show 0 < fuel - 1; omega) t1 (b_cons (by show 0 < fuel - 1 - 1; omega) t2 (b_cons (by show 0 < fuel - 1 - 1 - 1; omega) t3 (b_cons (by show 0 < fuel - 1 - 1 - 1 - 1; omega) t4 b_nil))))
    · have e3 : out ++ outR (b :: l2) = out ++ decN b.toNat ++ [32] ++ outR l2 := by simp [outR]
      have e4 : fuel - (5 * ((b :: l2).length : Int) + 1) = fuel - 1 - 1 - 1 - 1 - 1 - (5 * (l2.length : Int) + 1) := by simp; omega
      have e5 : ((n + (b :: l2).length : Nat) : Int) = ((n + 1 + l2.length : Nat) : Int) := by simp; omega
      rw [e3, e4, e5]
      exact ih
theorem outR_len : ∀ l : List UInt8, (outR l).length ≤ 4 * l.length
  | [] => by simp [outR]
  | b :: l => by
    have hb := b.toNat_lt
    have hd := decN_len3 (n := b.toNat) (by omega)
    have := outR_len l
    simp [outR]; omega
theorem start_vars (inp : List UInt8) : varsOf ⟨[], 203, [], []⟩ [D] [] ⟨1000, 0, inp, [], 0, [], []⟩ = some (.ok VS (st 1000 inp [] 0 0)) := rfl
theorem whole (inp : List UInt8) (h : inp.length ≤ 60) : ∃ s', runS 203 [D] (startS 0 1000 inp) = some (.ok () s') ∧ s'.out = outR inp ++ [48, 10] ++ decN inp.length := by
  obtain ⟨c', r1⟩ := reads (K := 200) inp 0 [] 0 (1000 - 1) (193 - inp.length) (by omega) (by simp; omega) (by omega)
  rw [List.nil_append, Nat.zero_add] at r1
  have ol := outR_len inp
  have s1 : stmtS (ES 200) (lvl (ES 200) 202) [] (.mk 3 [g1] [B1] []) (st (1000 - 1) inp [] 0 0) = some (.ok () (st (1000 - 1 - (5 * (inp.length : Int) + 1)) [] (outR inp) c' inp.length)) := by
    rw [s_while, show (202 : Nat) = 193 - inp.length + inp.length + 9 by omega]
    exact r1
  generalize hf1 : (1000 : Int) - 1 - (5 * (inp.length : Int) + 1) = f1 at s1
  have sb : (lvl (ES 200) 203).body [] body (st 1000 inp [] 0 0) = some (.ok () (st (f1 - 1 - 1 - 1 - 1) [] (outR inp ++ [48, 10] ++ decN inp.length) 0 inp.length)) := by
    have t2 := w_rd0 (K := 200) (k := 201) (fuel := f1 - 1) (out := outR inp) (c := c') (n := inp.length)
    have t3 := w_wr (K := 200) (k := 199) (fuel := f1 - 1 - 1) (inp := []) (out := outR inp) (m := 0) (n := inp.length) (by omega) (by omega)
    have e0 : decN 0 = [48] := by unfold decN; rw [if_pos (by omega)]; rfl
    rw [e0] at t3
    have t4 := w_ln (K := 200) (k := 202) (fuel := f1 - 1 - 1 - 1) (inp := []) (out := outR inp ++ [48]) (c := 0) (n := inp.length) (by simp; omega)
    have t5 := w_pn (K := 200) (k := 200) (fuel := f1 - 1 - 1 - 1 - 1) (inp := []) (out := outR inp ++ [48] ++ [10]) (c := 0) (m := inp.length) (by omega) (by simp; omega)
    have e1 : outR inp ++ [48, 10] ++ decN inp.length = outR inp ++ [48] ++ [10] ++ decN inp.length := by simp
    rw [e1]
    exact b_lvl (k := 202) (by show 5 ≤ 1000000000000; omega) (b_cons (by show (0 : Int) < 1000; omega) s1 (b_cons (by show 0 < f1; omega) t2 (b_cons (by show 0 < f1 - 1; omega) t3 (b_cons (by show 0 < f1 - 1 - 1; omega) t4 (b_cons (by show 0 < f1 - 1 - 1 - 1; omega) t5 b_nil)))))
  refine ⟨st (f1 - 1 - 1 - 1 - 1) [] (outR inp ++ [48, 10] ++ decN inp.length) 0 inp.length, ?_, rfl⟩
  · have e : runS 203 [D] (startS 0 1000 inp) = (varsOf ⟨[], 203, [], []⟩ [D] [] >>= fun g => bodiesS (lvl ⟨[], 203, g, []⟩ 203) [D]) ⟨1000, 0, inp, [], 0, [], []⟩ := rfl
    rw [e, bind_of (start_vars inp)]
    have e' : bodiesS (lvl ⟨[], 203, VS, []⟩ 203) [D] (st 1000 inp [] 0 0) = ((lvl (ES 200) 203).body [] body >>= fun _ => bodiesS (lvl (ES 200) 203) []) (st 1000 inp [] 0 0) := rfl
    rw [e', bind_of sb]; rfl
end Go.Wf.Reads
