/-
  SPEC, RULES: what expressions and statements come to, step by step.
-/
import Derived.Test.YthbcdilmfgfndaaGreatDoorZl
import Derived.Test.YthbcdilmfgfndaaGreatDoorZm
set_option linter.unusedSimpArgs false
set_option linter.unusedVariables false
namespace Go.Wf
open Go
variable {E : Env} {F : Fn} {f : Fr} {s s' : St} {k : Nat}
theorem chk_of {e : Ex} {v : Int} (h : exprS E F f e s = some (.ok v s')) (hv : in32 v = true) : chkS E F f e s = some (.ok v s') := by
  unfold chkS; rw [h]; simp only [hv]
theorem bind_of {α β : Type} {m : M α} {g : α → M β} {a : α} (h : m s = some (.ok a s')) : (m >>= g) s = g a s' := by
  show M.bind m g s = _
  unfold M.bind; rw [h]
theorem in32_of {v : Int} (h1 : -2147483648 ≤ v) (h2 : v ≤ 2147483647) : in32 v = true := by simp [in32]; omega
theorem w32_of {v : Int} (h1 : -2147483648 ≤ v) (h2 : v ≤ 2147483647) : w32 v = v := by
  have e : w32 v = (v + 2147483648) % 4294967296 - 2147483648 := by
    unfold w32 IntKind.wrap
    simp [IntKind.signed, IntKind.bits]
    omega
  rw [e]; omega
theorem e_const {t : Ty} {i : Int} {nm : Nm} {x : List Ex} (hi : in32 i = true) : (lvl E (k + 1)).expr f (.mk 0 t i nm x) s = some (.ok i s) := by
  show chkS E (lvl E k) f (.mk 0 t i nm x) s = _
  exact chk_of rfl hi
theorem p_glob {t : Ty} {i : Int} {nm : Nm} {x : List Ex} {l : Loc} (h1 : dot nm = true) (h2 : findR nm f = none) (h3 : findR nm E.vars = some l) : (lvl E (k + 1)).place f (.mk 1 t i nm x) s = some (.ok l s) := by
  show placeS E (lvl E k) f (.mk 1 t i nm x) s = _
  unfold placeS
  simp only [if_true, h1, h2, h3, need]
theorem p_idx {t : Ty} {i : Int} {nm : Nm} {a j : Ex} {p : Loc} {v : Int} {n : Nat} (h1 : (lvl E k).place f a s = some (.ok p s)) (h2 : (lvl E k).expr f j s = some (.ok v s)) (h3 : 0 ≤ v) (h4 : v < a.t.n) (h5 : words E.R E.k t = some n) (h6 : p.o + v.toNat * n ≤ far) :
    (lvl E (k + 1)).place f (.mk 2 t i nm [a, j]) s = some (.ok ⟨p.b, p.o + v.toNat * n⟩ s) := by
  have e : (lvl E (k + 1)).place f (.mk 2 t i nm [a, j]) s = ((lvl E k).place f a >>= fun p => (lvl E k).expr f j >>= fun v => must (decide (0 ≤ v) && decide (v < a.t.n)) 1 >>= fun _ => W E t >>= fun n => locM p.b (p.o + v.toNat * n)) s := rfl
  rw [e, bind_of h1, bind_of h2]
  have hm : must (decide (0 ≤ v) && decide (v < a.t.n)) 1 s = some (.ok () s) := by
    have : (decide (0 ≤ v) && decide (v < a.t.n)) = true := by simp [h3, h4]
    rw [this]; rfl
  rw [bind_of hm]
  have hw : W E t s = some (.ok n s) := by simp [W, need, h5]
  rw [bind_of hw]
  simp [locM, h6]
theorem e_load {op : Int} {t : Ty} {i : Int} {nm : Nm} {x : List Ex} {l : Loc} {v : Int} {blk : List Int} (hop : op = 1 ∨ op = 2) (h1 : (lvl E k).place f (.mk op t i nm x) s = some (.ok l s)) (h2 : s.mem[l.b]? = some blk) (h3 : blk[l.o]? = some v) (h4 : in32 v = true) :
    (lvl E (k + 1)).expr f (.mk op t i nm x) s = some (.ok v s) := by
  refine chk_of ?_ h4
  have e : exprS E (lvl E k) f (.mk op t i nm x) s = ((lvl E k).place f (.mk op t i nm x) >>= fun p => loadL p) s := by
    rcases hop with rfl | rfl <;> rfl
  rw [e, bind_of h1]
  simp [loadL, h2, h3]
theorem e_un {op : Int} {t : Ty} {i : Int} {nm : Nm} {a : Ex} {v r : Int} (hop : op = 7 ∨ op = 8 ∨ op = 27 ∨ op = 28 ∨ op = 32 ∨ op = 33) (h1 : (lvl E k).expr f a s = some (.ok v s)) (h2 : un op a.t.form v = some (some r)) (h4 : in32 r = true) :
    (lvl E (k + 1)).expr f (.mk op t i nm [a]) s = some (.ok r s) := by
  refine chk_of ?_ h4
  have e : exprS E (lvl E k) f (.mk op t i nm [a]) s = ((lvl E k).expr f a >>= fun v => match un op a.t.form v with
    | none => stuck
    | some none => trap 6
    | some (some r) => pure r) s := by
    rcases hop with rfl | rfl | rfl | rfl | rfl | rfl <;> rfl
  rw [e, bind_of h1]
  simp only [h2]; rfl
theorem e_bin {op : Int} {t : Ty} {i : Int} {nm : Nm} {a b : Ex} {v w r : Int} (hop : op = 9 ∨ op = 10 ∨ op = 16 ∨ op = 20) (h1 : (lvl E k).expr f a s = some (.ok v s)) (h1' : (lvl E k).expr f b s = some (.ok w s)) (h2 : bin op a.t.form v w = some (some r)) (h4 : in32 r = true) :
    (lvl E (k + 1)).expr f (.mk op t i nm [a, b]) s = some (.ok r s) := by
  refine chk_of ?_ h4
  have e : exprS E (lvl E k) f (.mk op t i nm [a, b]) s = ((lvl E k).expr f a >>= fun v => (lvl E k).expr f b >>= fun w => match bin op a.t.form v w with
    | none => stuck
    | some none => trap 4
    | some (some r) => pure r) s := by
    rcases hop with rfl | rfl | rfl | rfl <;> rfl
  rw [e, bind_of h1, bind_of h1']
  simp only [h2]; rfl
theorem e_andF {t : Ty} {i : Int} {nm : Nm} {a b : Ex} (h1 : (lvl E k).expr f a s = some (.ok 0 s)) : (lvl E (k + 1)).expr f (.mk 15 t i nm [a, b]) s = some (.ok 0 s) := by
  refine chk_of ?_ rfl
  have e : exprS E (lvl E k) f (.mk 15 t i nm [a, b]) s = ((lvl E k).expr f a >>= fun v => if v = 0 ∨ v = 1 then (if (v = 1 ∧ (15 : Int) = 14) ∨ (v = 0 ∧ (15 : Int) = 15) then pure v else (lvl E k).expr f b) else stuck) s := rfl
  rw [e, bind_of h1]; rfl
theorem e_andT {t : Ty} {i : Int} {nm : Nm} {a b : Ex} {v : Int} (h1 : (lvl E k).expr f a s = some (.ok 1 s)) (h2 : (lvl E k).expr f b s = some (.ok v s)) (h3 : in32 v = true) : (lvl E (k + 1)).expr f (.mk 15 t i nm [a, b]) s = some (.ok v s) := by
  refine chk_of ?_ h3
  have e : exprS E (lvl E k) f (.mk 15 t i nm [a, b]) s = ((lvl E k).expr f a >>= fun v => if v = 0 ∨ v = 1 then (if (v = 1 ∧ (15 : Int) = 14) ∨ (v = 0 ∧ (15 : Int) = 15) then pure v else (lvl E k).expr f b) else stuck) s := rfl
  rw [e, bind_of h1]
  exact h2
theorem e_eof {t : Ty} {i : Int} {nm : Nm} {x : List Ex} : (lvl E (k + 1)).expr f (.mk 34 t i nm x) s = some (.ok (flag s.inp.isEmpty) s) := by
  show chkS E (lvl E k) f (.mk 34 t i nm x) s = _
  refine chk_of (v := flag s.inp.isEmpty) rfl ?_
  cases s.inp.isEmpty <;> rfl
theorem burn_of (h : 0 < s.fuel) : burn s = some (.ok () { s with fuel := s.fuel - 1 }) := by
  unfold burn; rw [if_neg (by omega)]
theorem keep_of {l : Loc} {v : Int} {blk : List Int} (h1 : s.mem[l.b]? = some blk) (h2 : l.o < blk.length) : keepL l v s = some (.ok () { s with mem := s.mem.set l.b (blk.set l.o v) }) := by
  simp [keepL, h1, h2]
theorem load_of {l : Loc} {v : Int} {blk : List Int} (h1 : s.mem[l.b]? = some blk) (h2 : blk[l.o]? = some v) : loadL l s = some (.ok v s) := by
  simp [loadL, h1, h2]
theorem b_nil : bodyS E F f [] s = some (.ok () s) := rfl
theorem b_cons {a : Sm} {l : List Sm} {s1 : St} {r : Rs Unit} (h0 : 0 < s.fuel) (h1 : stmtS E F f a { s with fuel := s.fuel - 1 } = some (.ok () s1)) (h2 : bodyS E F f l s1 = some r) : bodyS E F f (a :: l) s = some r := by
  have e : bodyS E F f (a :: l) s = (burn >>= fun _ => stmtS E F f a >>= fun _ => bodyS E F f l) s := rfl
  rw [e, bind_of (burn_of h0), bind_of h1, h2]
theorem b_lvl {l : List Sm} {r : Rs Unit} (h0 : l.length ≤ far) (h : bodyS E (lvl E k) f l s = some r) : (lvl E (k + 1)).body f l s = some r := by
  have e : (lvl E (k + 1)).body f l s = (okL l.length >>= fun _ => bodyS E (lvl E k) f l) s := rfl
  have h1 : okL l.length s = some (.ok () s) := by simp [okL, h0]
  rw [e, bind_of h1, h]
theorem s_assign {to e : Ex} {b : List (List Sm)} {i : List Int} {p : Loc} {v : Int} {blk : List Int} (h0 : ¬ (e.op = 0 ∧ e.t.form = 6)) (h0' : ¬ (to.t.form = 7 ∨ to.t.form = 8)) (h1 : F.place f to s = some (.ok p s)) (h2 : F.expr f e s = some (.ok v s)) (h3 : s.mem[p.b]? = some blk) (h4 : p.o < blk.length) :
    stmtS E F f (.mk 0 [to, e] b i) s = some (.ok () { s with mem := s.mem.set p.b (blk.set p.o v) }) := by
  have e1 : stmtS E F f (.mk 0 [to, e] b i) s = assignS E F f to e s := rfl
  rw [e1]
  unfold assignS
  rw [bind_of h1]
  have e2 : (if e.op = 0 ∧ e.t.form = 6 then (do okL e.s.length; keepAll p (e.s.map byteI ++ [0])) else if to.t.form = 7 ∨ to.t.form = 8 then (do
    let q ← F.place f e
    let n ← W E to.t
    let l ← wordsAt q n
    keepAll p l) else (do
    let v ← F.expr f e
    keepL p v) : M Unit) = (F.expr f e >>= fun v => keepL p v) := by rw [if_neg h0, if_neg h0']
  refine (congrFun e2 s).trans ?_
  rw [bind_of h2, keep_of h3 h4]
theorem s_change {op : Int} {to e : Ex} {b : List (List Sm)} {i : List Int} {p : Loc} {v w r : Int} {blk : List Int} (hop : (op = 7 ∧ r = w32 (w + v)) ∨ (op = 8 ∧ r = w32 (w - v))) (h1 : F.place f to s = some (.ok p s)) (h2 : F.expr f e s = some (.ok v s)) (h3 : s.mem[p.b]? = some blk) (h4 : blk[p.o]? = some w) :
    stmtS E F f (.mk op [to, e] b i) s = some (.ok () { s with mem := s.mem.set p.b (blk.set p.o r) }) := by
  have hl : p.o < blk.length := by
    rcases Nat.lt_or_ge p.o blk.length with q | q
    · exact q
    · rw [List.getElem?_eq_none q] at h4; cases h4
  rcases hop with ⟨rfl, rfl⟩ | ⟨rfl, rfl⟩
  · have e1 : stmtS E F f (.mk 7 [to, e] b i) s = (F.place f to >>= fun p => F.expr f e >>= fun x => loadL p >>= fun w => keepL p (w32 (w + x))) s := rfl
    rw [e1, bind_of h1, bind_of h2, bind_of (load_of h3 h4), keep_of h3 hl]
  · have e1 : stmtS E F f (.mk 8 [to, e] b i) s = (F.place f to >>= fun p => F.expr f e >>= fun x => loadL p >>= fun w => keepL p (w32 (w - x))) s := rfl
    rw [e1, bind_of h1, bind_of h2, bind_of (load_of h3 h4), keep_of h3 hl]
theorem s_read {e : Ex} {b : List (List Sm)} {i : List Int} {p : Loc} {blk : List Int} {c : UInt8} {l : List UInt8} (h1 : F.place f e s = some (.ok p s)) (hi : s.inp = c :: l) (h3 : s.mem[p.b]? = some blk) (h4 : p.o < blk.length) :
    stmtS E F f (.mk 13 [e] b i) s = some (.ok () { s with inp := l, mem := s.mem.set p.b (blk.set p.o (byteI c)) }) := by
  have e1 : stmtS E F f (.mk 13 [e] b i) s = (F.place f e >>= fun p => readS >>= fun v => keepL p v) s := rfl
  have h5 : readS s = some (.ok (byteI c) { s with inp := l }) := by simp [readS, hi]
  rw [e1, bind_of h1, bind_of h5]
  exact keep_of (s := { s with inp := l }) h3 h4
theorem s_put {e : Ex} {b : List (List Sm)} {i : List Int} {v : Int} (h1 : F.expr f e s = some (.ok v s)) (hl : s.out.length + 1 ≤ most) :
    stmtS E F f (.mk 15 [e] b i) s = some (.ok () { s with out := s.out ++ [byteOf v] }) := by
  have e1 : stmtS E F f (.mk 15 [e] b i) s = (F.expr f e >>= fun v => put [byteOf v]) s := rfl
  rw [e1, bind_of h1]
  simp [put, hl]
theorem wh_stop {e : Ex} {l : List Sm} (h0 : 0 < s.fuel) (h1 : (lvl E k).expr f e { s with fuel := s.fuel - 1 } = some (.ok 0 { s with fuel := s.fuel - 1 })) : (lvl E (k + 1)).whl f [e] [l] s = some (.ok () { s with fuel := s.fuel - 1 }) := by
  have e1 : (lvl E (k + 1)).whl f [e] [l] s = (okL 1 >>= fun _ => againS (lvl E k) f [e] [l] >>= fun r => match r with | true => (lvl E k).whl f [e] [l] | false => pure ()) s := rfl
  have h2 : okL 1 s = some (.ok () s) := rfl
  have h3 : againS (lvl E k) f [e] [l] s = some (.ok false { s with fuel := s.fuel - 1 }) := by
    have e2 : againS (lvl E k) f [e] [l] s = (burn >>= fun _ => (lvl E k).expr f e >>= fun v => if v = 0 then againS (lvl E k) f [] [] else (lvl E k).body f l >>= fun _ => pure true) s := rfl
    rw [e2, bind_of (burn_of h0), bind_of h1]; rfl
  rw [e1, bind_of h2, bind_of h3]; rfl
theorem wh_next {e : Ex} {l : List Sm} {v : Int} {s1 : St} {r : Rs Unit} (h0 : 0 < s.fuel) (h1 : (lvl E k).expr f e { s with fuel := s.fuel - 1 } = some (.ok v { s with fuel := s.fuel - 1 })) (hv : v ≠ 0) (h2 : (lvl E k).body f l { s with fuel := s.fuel - 1 } = some (.ok () s1)) (h3 : (lvl E k).whl f [e] [l] s1 = some r) :
    (lvl E (k + 1)).whl f [e] [l] s = some r := by
  have e1 : (lvl E (k + 1)).whl f [e] [l] s = (okL 1 >>= fun _ => againS (lvl E k) f [e] [l] >>= fun r => match r with | true => (lvl E k).whl f [e] [l] | false => pure ()) s := rfl
  have h2' : okL 1 s = some (.ok () s) := rfl
  have h3' : againS (lvl E k) f [e] [l] s = some (.ok true s1) := by
    have e2 : againS (lvl E k) f [e] [l] s = (burn >>= fun _ => (lvl E k).expr f e >>= fun v => if v = 0 then againS (lvl E k) f [] [] else (lvl E k).body f l >>= fun _ => pure true) s := rfl
    rw [e2, bind_of (burn_of h0), bind_of h1]
    refine (congrFun (if_neg hv) _).trans ?_
    rw [bind_of h2]; rfl
  rw [e1, bind_of h2', bind_of h3']; exact h3
theorem s_while {x : List Ex} {b : List (List Sm)} {i : List Int} : stmtS E F f (.mk 3 x b i) s = F.whl f x b s := rfl
theorem fr_stop {p : Loc} {last x : Int} {l : List Sm} {blk : List Int} (h0 : 0 < s.fuel) (h1 : s.mem[p.b]? = some blk) (h2 : blk[p.o]? = some x) (h3 : last < x) : (lvl E (k + 1)).forl f p last 1 l s = some (.ok () { s with fuel := s.fuel - 1 }) := by
  have e1 : (lvl E (k + 1)).forl f p last 1 l s = (burn >>= fun _ => loadL p >>= fun x => if (0 < (1 : Int) ∧ last < x) ∨ ((1 : Int) < 0 ∧ x < last) then pure () else ((lvl E k).body f l >>= fun _ => loadL p >>= fun y => keepL p (w32 (y + 1)) >>= fun _ => (lvl E k).forl f p last 1 l)) s := rfl
  rw [e1, bind_of (burn_of h0), bind_of (load_of (s := { s with fuel := s.fuel - 1 }) h1 h2)]
  refine (congrFun (if_pos (.inl ⟨by decide, h3⟩)) _).trans rfl
theorem fr_next {p : Loc} {last x y : Int} {l : List Sm} {blk blk' : List Int} {s1 : St} {r : Rs Unit} (h0 : 0 < s.fuel) (h1 : s.mem[p.b]? = some blk) (h2 : blk[p.o]? = some x) (h3 : ¬ last < x) (h4 : (lvl E k).body f l { s with fuel := s.fuel - 1 } = some (.ok () s1)) (h5 : s1.mem[p.b]? = some blk') (h6 : blk'[p.o]? = some y)
    (h7 : (lvl E k).forl f p last 1 l { s1 with mem := s1.mem.set p.b (blk'.set p.o (w32 (y + 1))) } = some r) : (lvl E (k + 1)).forl f p last 1 l s = some r := by
  have hl : p.o < blk'.length := by
    rcases Nat.lt_or_ge p.o blk'.length with q | q
    · exact q
    · rw [List.getElem?_eq_none q] at h6; cases h6
  have e1 : (lvl E (k + 1)).forl f p last 1 l s = (burn >>= fun _ => loadL p >>= fun x => if (0 < (1 : Int) ∧ last < x) ∨ ((1 : Int) < 0 ∧ x < last) then pure () else ((lvl E k).body f l >>= fun _ => loadL p >>= fun y => keepL p (w32 (y + 1)) >>= fun _ => (lvl E k).forl f p last 1 l)) s := rfl
  rw [e1, bind_of (burn_of h0), bind_of (load_of (s := { s with fuel := s.fuel - 1 }) h1 h2)]
  refine (congrFun (if_neg (by omega)) _).trans ?_
  rw [bind_of h4, bind_of (load_of h5 h6), bind_of (keep_of h5 hl)]
  exact h7
theorem s_for {v a z : Ex} {l : List Sm} {p : Loc} {first last : Int} {blk : List Int} {r : Rs Unit} (h1 : F.place f v s = some (.ok p s)) (h2 : F.expr f a s = some (.ok first s)) (h3 : s.mem[p.b]? = some blk) (h4 : p.o < blk.length)
    (h5 : F.expr f z { s with mem := s.mem.set p.b (blk.set p.o first) } = some (.ok last { s with mem := s.mem.set p.b (blk.set p.o first) })) (h6 : F.forl f p last 1 l { s with mem := s.mem.set p.b (blk.set p.o first) } = some r) :
    stmtS E F f (.mk 5 [v, a, z] [l] [1]) s = some r := by
  have e1 : stmtS E F f (.mk 5 [v, a, z] [l] [1]) s = (F.place f v >>= fun p => F.expr f a >>= fun first => keepL p first >>= fun _ => F.expr f z >>= fun last => F.forl f p last 1 l) s := rfl
  rw [e1, bind_of h1, bind_of h2, bind_of (keep_of h3 h4), bind_of h5, h6]
end Go.Wf
namespace Go.Wf.Sorts
open Go Go.Wf
abbrev tInt : Ty := .mk 1 0 [] []
abbrev tChr : Ty := .mk 2 0 [] []
abbrev tBoo : Ty := .mk 3 0 [] []
abbrev tArr : Ty := .mk 7 30 [] [tChr]
abbrev vA : Ex := .mk 1 tArr 0 [77, 46, 97] []
abbrev vC : Ex := .mk 1 tChr 0 [77, 46, 99] []
abbrev vN : Ex := .mk 1 tInt 0 [77, 46, 110] []
abbrev vI : Ex := .mk 1 tInt 0 [77, 46, 105] []
abbrev vJ : Ex := .mk 1 tInt 0 [77, 46, 106] []
abbrev lit (n : Int) : Ex := .mk 0 tInt n [] []
abbrev aAt (e : Ex) : Ex := .mk 2 tChr 0 [] [vA, e]
abbrev sub1 (e : Ex) : Ex := .mk 10 tInt 0 [] [e, lit 1]
abbrev g1 : Ex := .mk 8 tBoo 0 [] [.mk 34 tBoo 0 [] []]
abbrev B1 : List Sm := [.mk 13 [aAt vN] [] [], .mk 7 [vN, lit 1] [] []]
abbrev g2 : Ex := .mk 15 tBoo 0 [] [.mk 20 tBoo 0 [] [vJ, lit 0], .mk 20 tBoo 0 [] [aAt (.mk 9 tInt 0 [] [sub1 vJ, .mk 32 tInt 0 [] [.mk 16 tBoo 0 [] [vJ, lit 0]]]), vC]]
abbrev B2 : List Sm := [.mk 0 [aAt vJ, aAt (sub1 vJ)] [] [], .mk 8 [vJ, lit 1] [] []]
abbrev B3 : List Sm := [.mk 0 [vJ, vI] [] [], .mk 0 [vC, aAt vI] [] [], .mk 3 [g2] [B2] [], .mk 0 [aAt vJ, vC] [] []]
abbrev B4 : List Sm := [.mk 15 [aAt vI] [] []]
abbrev body : List Sm := [.mk 3 [g1] [B1] [], .mk 5 [vI, lit 1, sub1 vN] [B3] [1], .mk 5 [vI, lit 0, sub1 vN] [B4] [1]]
abbrev vars : List Vr := [⟨[97], false, tArr⟩, ⟨[99], false, tChr⟩, ⟨[110], false, tInt⟩, ⟨[105], false, tInt⟩, ⟨[106], false, tInt⟩]
def D : Md := ⟨[77], [], [], [], [], vars, [], body⟩
abbrev VS : Fr := [([77, 46, 106], ⟨4, 0⟩), ([77, 46, 105], ⟨3, 0⟩), ([77, 46, 110], ⟨2, 0⟩), ([77, 46, 99], ⟨1, 0⟩), ([77, 46, 97], ⟨0, 0⟩)]
abbrev ES (K : Nat) : Env := ⟨[], K + 3, VS, []⟩
abbrev st (fuel : Int) (inp out : List UInt8) (A : List Int) (c n i j : Int) : St := ⟨fuel, 0, inp, out, 0, [A, [c], [n], [i], [j]], []⟩
variable {K k : Nat} {fuel : Int} {inp out : List UInt8} {A : List Int} {c n i j : Int}
theorem w_chr : words [] (K + 3) tChr = some 1 := by
  unfold words
  have : rightT (K + 2 + 1) tChr = true := rfl
  rw [if_pos this]; rfl
theorem x_lit (h : in32 i = true) {s : St} : (lvl (ES K) (k + 1)).expr [] (lit i) s = some (.ok i s) := e_const h
theorem x_C (h : in32 c = true) : (lvl (ES K) (k + 2)).expr [] vC (st fuel inp out A c n i j) = some (.ok c (st fuel inp out A c n i j)) := e_load (.inl rfl) (p_glob rfl rfl rfl) rfl rfl h
theorem x_N (h : in32 n = true) : (lvl (ES K) (k + 2)).expr [] vN (st fuel inp out A c n i j) = some (.ok n (st fuel inp out A c n i j)) := e_load (.inl rfl) (p_glob rfl rfl rfl) rfl rfl h
theorem x_I (h : in32 i = true) : (lvl (ES K) (k + 2)).expr [] vI (st fuel inp out A c n i j) = some (.ok i (st fuel inp out A c n i j)) := e_load (.inl rfl) (p_glob rfl rfl rfl) rfl rfl h
theorem x_J (h : in32 j = true) : (lvl (ES K) (k + 2)).expr [] vJ (st fuel inp out A c n i j) = some (.ok j (st fuel inp out A c n i j)) := e_load (.inl rfl) (p_glob rfl rfl rfl) rfl rfl h
theorem x_sub {e : Ex} {v : Int} {s : St} (ht : e.t.form = 1) (h : (lvl (ES K) (k + 1)).expr [] e s = some (.ok v s)) (h1 : -1000 ≤ v) (h2 : v ≤ 1000) : (lvl (ES K) (k + 2)).expr [] (sub1 e) s = some (.ok (v - 1) s) := by
  refine e_bin (.inr (.inl rfl)) h (x_lit rfl) ?_ (in32_of (by omega) (by omega))
  have : bin 10 e.t.form v 1 = some (some (w32 (v - 1))) := by rw [ht]; rfl
  rw [this, w32_of (by omega) (by omega)]
theorem p_at {e : Ex} {v : Nat} {s : St} (h : (lvl (ES K) (k + 1)).expr [] e s = some (.ok (v : Int) s)) (hv : v < 30) : (lvl (ES K) (k + 2)).place [] (aAt e) s = some (.ok ⟨0, v⟩ s) := by
  have := p_idx (E := ES K) (f := []) (k := k + 1) (t := tChr) (i := 0) (nm := []) (a := vA) (j := e) (s := s) (p := ⟨0, 0⟩) (v := (v : Int)) (n := 1) (p_glob rfl rfl rfl) h (by omega) (by show (v : Int) < 30; omega) w_chr (by show 0 + (v : Int).toNat * 1 ≤ 1000000000000; omega)
  rw [this]
  congr 3; show 0 + (v : Int).toNat * 1 = v; omega
theorem x_at {e : Ex} {v : Nat} {x : Int} (h : (lvl (ES K) (k + 1)).expr [] e (st fuel inp out A c n i j) = some (.ok (v : Int) (st fuel inp out A c n i j))) (hv : v < 30) (hx : A[v]? = some x) (hi : in32 x = true) :
    (lvl (ES K) (k + 3)).expr [] (aAt e) (st fuel inp out A c n i j) = some (.ok x (st fuel inp out A c n i j)) := e_load (.inr rfl) (p_at h hv) rfl hx hi
def rd (l : List UInt8) : List Int := l.map byteI ++ List.replicate (30 - l.length) 0
theorem rd_len {l : List UInt8} (h : l.length ≤ 30) : (rd l).length = 30 := by simp [rd]; omega
theorem rd_set {l : List UInt8} {b : UInt8} (h : l.length < 30) : (rd l).set l.length (byteI b) = rd (l ++ [b]) := by
  obtain ⟨m, hm⟩ : ∃ m, 30 - l.length = m + 1 := ⟨30 - l.length - 1, by omega⟩
  have h2 : 30 - (l ++ [b]).length = m := by simp; omega
  unfold rd
  rw [hm, h2, List.replicate_succ, List.set_append_right _ _ (by simp)]
  simp
theorem small {m : Nat} (h : m ≤ 1000) : in32 (m : Int) = true := in32_of (by omega) (by omega)
theorem reads : ∀ (l2 l1 : List UInt8) (fuel : Int) (k : Nat), l1.length + l2.length ≤ 20 → 3 * (l2.length : Int) + 1 ≤ fuel →
    ∃ fuel', fuel - (3 * (l2.length : Int) + 1) ≤ fuel' ∧ (lvl (ES K) (k + l2.length + 9)).whl [] [g1] [B1] (st fuel l2 [] (rd l1) 0 l1.length 0 0) = some (.ok () (st fuel' [] [] (rd (l1 ++ l2)) 0 ((l1 ++ l2).length : Nat) 0 0))
  | [], l1, fuel, k, h, hf => by
    refine ⟨fuel - 1, by simp, ?_⟩
    rw [List.append_nil]
    exact wh_stop (k := k + 8) (by show 0 < fuel; simp at hf; omega) (e_un (.inr (.inl rfl)) (e_eof (k := k + 6)) rfl rfl)
  | b :: l2, l1, fuel, k, h, hf => by
    simp only [List.length_cons] at h hf
    obtain ⟨f1, hf1, ih⟩ := reads l2 (l1 ++ [b]) (fuel - 1 - 1 - 1) k (by simp; omega) (by omega)
    refine ⟨f1, by simp only [List.length_cons]; omega, ?_⟩
    have hl : k + (b :: l2).length + 9 = (k + l2.length + 9) + 1 := by simp; omega
    rw [hl]
    have hg : (lvl (ES K) (k + l2.length + 9)).expr [] g1 (st (fuel - 1) (b :: l2) [] (rd l1) 0 l1.length 0 0) = some (.ok 1 (st (fuel - 1) (b :: l2) [] (rd l1) 0 l1.length 0 0)) := e_un (.inr (.inl rfl)) (e_eof (k := k + l2.length + 7)) rfl rfl
    refine wh_next (by show 0 < fuel; omega) hg (by decide) (s1 := st (fuel - 1 - 1 - 1) l2 [] (rd (l1 ++ [b])) 0 ((l1 ++ [b]).length : Nat) 0 0) ?_ ?_
    · refine b_lvl (k := k + l2.length + 8) (by show 2 ≤ 1000000000000; omega) (b_cons (by show 0 < fuel - 1; omega) (s_read (p_at (k := k + l2.length + 6) (x_N (k := k + l2.length + 5) (small (by omega))) (by omega)) rfl rfl (by show l1.length < (rd l1).length; rw [rd_len (by omega)]; omega))
        (b_cons (by show 0 < fuel - 1 - 1; omega) (s_change (.inl ⟨rfl, rfl⟩) (p_glob (k := k + l2.length + 7) rfl rfl rfl) (x_lit (k := k + l2.length + 7) rfl) rfl rfl) ?_))
      have e1 : (rd l1).set l1.length (byteI b) = rd (l1 ++ [b]) := rd_set (by omega)
      have e2 : w32 ((l1.length : Int) + 1) = ((l1 ++ [b]).length : Nat) := by rw [w32_of (by omega) (by omega)]; simp
      show some (Rs.ok () (⟨fuel - 1 - 1 - 1, 0, l2, [], 0, [(rd l1).set l1.length (byteI b), [0], [w32 ((l1.length : Int) + 1)], [0], [0]], []⟩ : St)) = _
      rw [e1, e2]
    · have e3 : l1 ++ b :: l2 = (l1 ++ [b]) ++ l2 := by simp
      rw [e3]
      exact ih
end Go.Wf.Sorts
namespace Go.Wf.Sorts
open Go Go.Wf
variable {K k : Nat} {fuel : Int} {inp out : List UInt8} {A : List Int} {c n i j : Int}
def byt (x : Int) : Prop := 0 ≤ x ∧ x ≤ 255
theorem byt32 {x : Int} (h : byt x) : in32 x = true := in32_of (by have := h.1; omega) (by have := h.2; omega)
theorem gt_at {a : Nat} {e1 e2 : Ex} {t : Ty} {v w : Int} {s : St} (h1 : (lvl (ES K) a).expr [] e1 s = some (.ok v s)) (h2 : (lvl (ES K) a).expr [] e2 s = some (.ok w s)) : (lvl (ES K) (a + 1)).expr [] (.mk 20 t 0 [] [e1, e2]) s = some (.ok (flag (decide (w < v))) s) :=
  e_bin (.inr (.inr (.inr rfl))) h1 h2 rfl (by cases decide (w < v) <;> rfl)
theorem g2_zero (a : Nat) : (lvl (ES K) (a + 9)).expr [] g2 (st fuel inp out A c n i 0) = some (.ok 0 (st fuel inp out A c n i 0)) :=
  e_andF (gt_at (x_J (k := a + 5) rfl) (x_lit (k := a + 6) rfl))
theorem g2_at (a : Nat) {m : Nat} {x : Int} (hm : m < 29) (hx : A[m]? = some x) (hb : byt x) (hc : byt c) : (lvl (ES K) (a + 9)).expr [] g2 (st fuel inp out A c n i ((m + 1 : Nat) : Int)) = some (.ok (flag (decide (c < x))) (st fuel inp out A c n i ((m + 1 : Nat) : Int))) := by
  have hj : in32 ((m + 1 : Nat) : Int) = true := small (by omega)
  have first := gt_at (K := K) (a := a + 7) (t := tBoo) (x_J (k := a + 5) (fuel := fuel) (inp := inp) (out := out) (A := A) (c := c) (n := n) (i := i) hj) (x_lit (k := a + 6) (i := 0) rfl)
  have hd : decide ((0 : Int) < ((m + 1 : Nat) : Int)) = true := decide_eq_true (by omega)
  rw [hd] at first
  have e16 : (lvl (ES K) (a + 3)).expr [] (.mk 16 tBoo 0 [] [vJ, lit 0]) (st fuel inp out A c n i ((m + 1 : Nat) : Int)) = some (.ok 0 (st fuel inp out A c n i ((m + 1 : Nat) : Int))) := by
    refine e_bin (.inr (.inr (.inl rfl))) (x_J (k := a) hj) (x_lit (k := a + 1) rfl) ?_ rfl
    have : (((m + 1 : Nat) : Int) == 0) = false := by simp; omega
    show some (some (flag (((m + 1 : Nat) : Int) == 0))) = _
    rw [this]; rfl
  have e32 : (lvl (ES K) (a + 4)).expr [] (.mk 32 tInt 0 [] [.mk 16 tBoo 0 [] [vJ, lit 0]]) (st fuel inp out A c n i ((m + 1 : Nat) : Int)) = some (.ok 0 (st fuel inp out A c n i ((m + 1 : Nat) : Int))) := e_un (.inr (.inr (.inr (.inr (.inl rfl))))) e16 rfl rfl
  have es := x_sub (K := K) (k := a + 2) (e := vJ) rfl (x_J (k := a + 1) (fuel := fuel) (inp := inp) (out := out) (A := A) (c := c) (n := n) (i := i) hj) (by omega) (by omega)
  have e9 : (lvl (ES K) (a + 5)).expr [] (.mk 9 tInt 0 [] [sub1 vJ, .mk 32 tInt 0 [] [.mk 16 tBoo 0 [] [vJ, lit 0]]]) (st fuel inp out A c n i ((m + 1 : Nat) : Int)) = some (.ok (m : Int) (st fuel inp out A c n i ((m + 1 : Nat) : Int))) := by
    have hs : in32 (m : Int) = true := small (by omega)
    have h2 : bin 9 (sub1 vJ).t.form (((m + 1 : Nat) : Int) - 1) 0 = some (some (m : Int)) := by
      have e : bin 9 (sub1 vJ).t.form (((m + 1 : Nat) : Int) - 1) 0 = some (some (w32 (((m + 1 : Nat) : Int) - 1 + 0))) := rfl
      rw [e, w32_of (by omega) (by omega)]
      have e' : ((m + 1 : Nat) : Int) - 1 + 0 = (m : Int) := by omega
      rw [e']
    exact e_bin (.inl rfl) es e32 h2 hs
  have eA := x_at (K := K) (k := a + 4) e9 (by omega) hx (byt32 hb)
  exact e_andT first (gt_at eA (x_C (k := a + 5) (byt32 hc))) (by cases decide (c < x) <;> rfl)
theorem get_mid {L R : List Int} {x : Int} : (L ++ x :: R)[L.length]? = some x := by simp
theorem set_mid {L R : List Int} {x y : Int} : (L ++ x :: R).set L.length y = L ++ y :: R := by simp
theorem inner (hc : byt c) (rest : List Int) : ∀ (m : Nat) (L1 L2 : List Int) (h : Int) (fuel : Int) (k : Nat), L1.length = m → m < 30 → (∀ x ∈ L1, byt x) → 3 * (m : Int) + 1 ≤ fuel → (L1 ++ h :: (L2 ++ rest)).length = 30 →
    ∃ (fuel' : Int) (L1' L2' : List Int) (h' : Int), fuel - (3 * (m : Int) + 1) ≤ fuel' ∧ L1' ++ L2' = L1 ++ L2 ∧ (∀ x ∈ L2', x ∈ L2 ∨ c < x) ∧ (∀ x, L1'.getLast? = some x → x ≤ c) ∧
      (lvl (ES K) (k + m + 12)).whl [] [g2] [B2] (st fuel inp out (L1 ++ h :: (L2 ++ rest)) c n i L1.length) = some (.ok () (st fuel' inp out (L1' ++ h' :: (L2' ++ rest)) c n i L1'.length))
  | 0, L1, L2, h, fuel, k, hm, hlt, hb, hf, hlen => by
    have e0 : L1 = [] := List.eq_nil_of_length_eq_zero hm
    subst e0
    exact ⟨fuel - 1, [], L2, h, by simp, rfl, fun x hx => .inl hx, fun x hx => by simp at hx, wh_stop (k := k + 11) (by show 0 < fuel; omega) (g2_zero (k + 2))⟩
  | m + 1, L1, L2, h, fuel, k, hm, hlt, hb, hf, hlen => by
    obtain ⟨L, x, rfl⟩ : ∃ L x, L1 = L ++ [x] := by
      rcases List.eq_nil_or_concat L1 with e | ⟨L, x, e⟩
      · subst e; simp at hm
      · exact ⟨L, x, by simpa using e⟩
    have hL : L.length = m := by simpa using hm
    have hx : byt x := hb x (by simp)
    have eA : (L ++ [x]) ++ h :: (L2 ++ rest) = L ++ x :: (h :: (L2 ++ rest)) := by simp
    have elen : ((L ++ [x]).length : Int) = ((m + 1 : Nat) : Int) := by rw [hm]
    have hg := g2_at (K := K) (fuel := fuel - 1) (inp := inp) (out := out) (n := n) (i := i) (k + m + 3) (A := L ++ x :: (h :: (L2 ++ rest))) (m := m) (by omega) (by rw [← hL]; exact get_mid) hx hc
    have hk : k + (m + 1) + 12 = (k + m + 12) + 1 := by omega
    by_cases hcx : c < x
    · rw [decide_eq_true hcx] at hg
      obtain ⟨f', L1', L2', h', i1, i2, i3, i4, i5⟩ := inner hc rest m L (x :: L2) x (fuel - 1 - 1 - 1) k hL (by omega) (fun y hy => hb y (by simp [hy])) (by omega) (by simp at hlen ⊢; omega)
      refine ⟨f', L1', L2', h', by omega, by rw [i2]; simp, fun y hy => ?_, i4, ?_⟩
      · rcases i3 y hy with q | q
        · rcases List.mem_cons.1 q with rfl | q
          · exact .inr hcx
          · exact .inl q
        · exact .inr q
      · rw [hk, eA, elen]
        refine wh_next (by show 0 < fuel; omega) hg (by decide) (s1 := st (fuel - 1 - 1 - 1) inp out (L ++ x :: (x :: L2 ++ rest)) c n i L.length) ?_ i5
        have hj : in32 ((m + 1 : Nat) : Int) = true := small (by omega)
        have pl := p_at (K := K) (k := k + m + 9) (e := vJ) (v := m + 1) (x_J (k := k + m + 8) (fuel := fuel - 1 - 1) (inp := inp) (out := out) (A := L ++ x :: (h :: (L2 ++ rest))) (c := c) (n := n) (i := i) hj) (by omega)
        have sb := x_sub (K := K) (k := k + m + 7) (e := vJ) rfl (x_J (k := k + m + 6) (fuel := fuel - 1 - 1) (inp := inp) (out := out) (A := L ++ x :: (h :: (L2 ++ rest))) (c := c) (n := n) (i := i) hj) (by omega) (by omega)
        have em : ((m + 1 : Nat) : Int) - 1 = (m : Int) := by omega
        rw [em] at sb
        have va := x_at (K := K) (k := k + m + 8) sb (by omega) (by rw [← hL]; exact get_mid) (byt32 hx)
        have hl2 : (L ++ x :: (h :: (L2 ++ rest))).length = 30 := by rw [← hlen]; simp
        refine b_lvl (k := k + m + 11) (by show 2 ≤ 1000000000000; omega) (b_cons (by show 0 < fuel - 1; omega) (s_assign (by decide) (by decide) pl va rfl (by show m + 1 < (L ++ x :: (h :: (L2 ++ rest))).length; rw [hl2]; omega))
          (b_cons (by show 0 < fuel - 1 - 1; omega) (s_change (.inr ⟨rfl, rfl⟩) (p_glob (k := k + m + 10) rfl rfl rfl) (x_lit (k := k + m + 10) rfl) rfl rfl) ?_))
        have a1 : (L ++ x :: (h :: (L2 ++ rest))).set (m + 1) x = L ++ x :: (x :: L2 ++ rest) := by
          have e2 : L ++ x :: (h :: (L2 ++ rest)) = (L ++ [x]) ++ h :: (L2 ++ rest) := by simp
          have e3 : m + 1 = (L ++ [x]).length := by simp [hL]
          rw [e2, e3, set_mid]; simp
        have a2 : w32 (((m + 1 : Nat) : Int) - 1) = (L.length : Int) := by rw [w32_of (by omega) (by omega), hL]; omega
        show some (Rs.ok () (⟨fuel - 1 - 1 - 1, 0, inp, out, 0, [(L ++ x :: (h :: (L2 ++ rest))).set (m + 1) x, [c], [n], [i], [w32 (((m + 1 : Nat) : Int) - 1)]], []⟩ : St)) = _
        rw [a1, a2]
    · rw [decide_eq_false hcx] at hg
      refine ⟨fuel - 1, L ++ [x], L2, h, by omega, rfl, fun y hy => .inl hy, fun y hy => ?_, ?_⟩
      · have : (L ++ [x]).getLast? = some x := by simp
        rw [this] at hy; cases hy; omega
      · rw [hk, eA, elen]
        exact wh_stop (k := k + m + 12) (by show 0 < fuel; omega) hg
end Go.Wf.Sorts
namespace Go.Wf.Sorts
open Go Go.Wf
variable {K k : Nat} {fuel : Int} {inp out : List UInt8} {A : List Int} {c n i j : Int}
theorem le_last {x : Int} : ∀ {l : List Int}, l.Pairwise (· ≤ ·) → (∀ y, l.getLast? = some y → y ≤ x) → ∀ a ∈ l, a ≤ x
  | [], _, _, a, ha => by cases ha
  | [b], _, h, a, ha => by
    rcases List.mem_singleton.1 ha with rfl
    exact h a rfl
  | b :: b' :: l, hp, h, a, ha => by
    have hp' := List.pairwise_cons.1 hp
    have ih := le_last (x := x) hp'.2 (fun y hy => h y (by simpa [List.getLast?_cons] using hy))
    rcases List.mem_cons.1 ha with rfl | q
    · exact Int.le_trans (hp'.1 b' List.mem_cons_self) (ih b' List.mem_cons_self)
    · exact ih a q
theorem outer (Z : List Int) : ∀ (R L : List Int) (fuel : Int) (k : Nat) (c0 j0 : Int), L.Pairwise (· ≤ ·) → (∀ x ∈ L, byt x) → (∀ x ∈ R, byt x) → (L ++ (R ++ Z)).length = 30 → L.length + R.length ≤ 20 → 70 * (R.length : Int) + 1 ≤ fuel →
    ∃ (fuel' : Int) (L' : List Int) (c' j' : Int), fuel - (70 * (R.length : Int) + 1) ≤ fuel' ∧ L'.Pairwise (· ≤ ·) ∧ L'.Perm (L ++ R) ∧
      (lvl (ES K) (k + R.length + 60)).forl [] ⟨3, 0⟩ (((L.length + R.length : Nat) : Int) - 1) 1 B3 (st fuel inp out (L ++ (R ++ Z)) c0 n L.length j0) = some (.ok () (st fuel' inp out (L' ++ Z) c' n ((L.length + R.length : Nat) : Int) j'))
  | [], L, fuel, k, c0, j0, hs, hL, hR, hlen, hle, hf => by
    refine ⟨fuel - 1, L, c0, j0, by simp, hs, by simp, ?_⟩
    exact fr_stop (k := k + 59) (by show 0 < fuel; simp at hf; omega) rfl rfl (by simp; omega)
  | x :: R, L, fuel, k, c0, j0, hs, hL, hR, hlen, hle, hf => by
    simp only [List.length_cons] at hle hf
    have hx : byt x := hR x (by simp)
    have hi : in32 (L.length : Int) = true := small (by omega)
    obtain ⟨f1, L1, L2, h', j1, j2, j3, j4, j5⟩ := inner (K := K) (c := x) (n := n) (i := (L.length : Int)) (inp := inp) (out := out) hx (R ++ Z) L.length L [] x (fuel - 1 - 1 - 1 - 1) (k + R.length + 47 - L.length) rfl (by omega) hL (by omega) (by simpa using hlen)
    rw [List.append_nil] at j2
    have hl12 : L1.length + L2.length = L.length := by rw [← j2]; simp
    have hsp : (L1 ++ x :: L2).Pairwise (· ≤ ·) := by
      have hs' : (L1 ++ L2).Pairwise (· ≤ ·) := by rw [j2]; exact hs
      rw [List.pairwise_append] at hs' ⊢
      have hlt : ∀ b ∈ L2, x ≤ b := fun b hb => by
        rcases j3 b hb with q | q
        · cases q
        · omega
      refine ⟨hs'.1, List.pairwise_cons.2 ⟨hlt, hs'.2.1⟩, fun a ha b hb => ?_⟩
      have ax := le_last hs'.1 j4 a ha
      rcases List.mem_cons.1 hb with rfl | q
      · exact ax
      · exact Int.le_trans ax (hlt b q)
    have hpm : (L1 ++ x :: L2).Perm (x :: L) := by rw [← j2]; exact List.perm_middle
    have hby : ∀ y ∈ L1 ++ x :: L2, byt y := fun y hy => by
      rcases List.mem_cons.1 (hpm.mem_iff.1 hy) with rfl | q
      · exact hx
      · exact hL y q
    have hlen2 : (L1 ++ x :: L2).length = L.length + 1 := by rw [hpm.length_eq]; rfl
    obtain ⟨f2, L', c', jj', i1, i2, i3, i4⟩ := outer Z R (L1 ++ x :: L2) (f1 - 1) k x L1.length hsp hby (fun y hy => hR y (by simp [hy])) (by rw [List.length_append, hlen2]; simp at hlen ⊢; omega) (by omega) (by omega)
    refine ⟨f2, L', c', jj', by simp only [List.length_cons]; omega, i2, ?_, ?_⟩
    · refine i3.trans ?_
      have : (L1 ++ x :: L2 ++ R).Perm (x :: L ++ R) := hpm.append_right R
      exact this.trans List.perm_middle.symm
    · have hk : k + (x :: R).length + 60 = (k + R.length + 60) + 1 := by simp; omega
      have eN : L.length + (x :: R).length = L.length + 1 + R.length := by simp; omega
      rw [hk, eN]
      rw [hlen2] at i4
      have eA : L ++ (x :: R ++ Z) = L ++ x :: (R ++ Z) := rfl
      rw [eA]
      have hA : (L ++ x :: (R ++ Z)).length = 30 := hlen
      refine fr_next (by show 0 < fuel; omega) rfl rfl (by omega) (s1 := st (f1 - 1) inp out (L1 ++ x :: (L2 ++ (R ++ Z))) x n L.length L1.length) ?_ rfl rfl ?_
      · have q1 := x_I (K := K) (k := k + R.length + 57) (fuel := fuel - 1 - 1) (inp := inp) (out := out) (A := L ++ x :: (R ++ Z)) (c := c0) (n := n) (j := j0) hi
        have q2 := x_at (K := K) (k := k + R.length + 56) (e := vI) (v := L.length) (x_I (K := K) (k := k + R.length + 55) (fuel := fuel - 1 - 1 - 1) (inp := inp) (out := out) (A := L ++ x :: (R ++ Z)) (c := c0) (n := n) (j := (L.length : Int)) hi) (by omega) get_mid (byt32 hx)
        have q3 : stmtS (ES K) (lvl (ES K) (k + R.length + 59)) [] (.mk 3 [g2] [B2] []) (st (fuel - 1 - 1 - 1 - 1) inp out (L ++ x :: (R ++ Z)) x n L.length L.length) = some (.ok () (st f1 inp out (L1 ++ h' :: (L2 ++ (R ++ Z))) x n L.length L1.length)) := by
          rw [s_while, show k + R.length + 59 = (k + R.length + 47 - L.length) + L.length + 12 by omega]
          exact j5
        have hj1 : in32 (L1.length : Int) = true := small (by omega)
        have q4 := p_at (K := K) (k := k + R.length + 57) (e := vJ) (v := L1.length) (x_J (k := k + R.length + 56) (fuel := f1 - 1) (inp := inp) (out := out) (A := L1 ++ h' :: (L2 ++ (R ++ Z))) (c := x) (n := n) (i := (L.length : Int)) hj1) (by omega)
        have q5 := x_C (K := K) (k := k + R.length + 57) (fuel := f1 - 1) (inp := inp) (out := out) (A := L1 ++ h' :: (L2 ++ (R ++ Z))) (n := n) (i := (L.length : Int)) (j := (L1.length : Int)) (byt32 hx)
        refine b_lvl (k := k + R.length + 59) (by show 4 ≤ 1000000000000; omega)
          (b_cons (by show 0 < fuel - 1; omega) (s_assign (by decide) (by decide) (p_glob (k := k + R.length + 58) rfl rfl rfl) q1 rfl (by show 0 < 1; omega))
          (b_cons (by show 0 < fuel - 1 - 1; omega) (s_assign (by decide) (by decide) (p_glob (k := k + R.length + 58) rfl rfl rfl) q2 rfl (by show 0 < 1; omega))
          (b_cons (by show 0 < fuel - 1 - 1 - 1; omega) q3
          (b_cons (by show 0 < f1; omega) (s_assign (by decide) (by decide) q4 q5 rfl (by show L1.length < (L1 ++ h' :: (L2 ++ (R ++ Z))).length; simp)) ?_))))
        show some (Rs.ok () (⟨f1 - 1, 0, inp, out, 0, [(L1 ++ h' :: (L2 ++ (R ++ Z))).set L1.length x, [x], [n], [(L.length : Int)], [(L1.length : Int)]], []⟩ : St)) = _
        rw [set_mid]
      · have e1 : w32 ((L.length : Int) + 1) = ((L.length + 1 : Nat) : Int) := by rw [w32_of (by omega) (by omega)]; omega
        have e2 : L1 ++ x :: (L2 ++ (R ++ Z)) = (L1 ++ x :: L2) ++ (R ++ Z) := by simp
        show (lvl (ES K) (k + R.length + 60)).forl [] ⟨3, 0⟩ (((L.length + 1 + R.length : Nat) : Int) - 1) 1 B3 (⟨f1 - 1, 0, inp, out, 0, [L1 ++ x :: (L2 ++ (R ++ Z)), [x], [n], [w32 ((L.length : Int) + 1)], [(L1.length : Int)]], []⟩ : St) = _
        rw [e1, e2]
        exact i4
theorem prints (Z : List Int) : ∀ (R L : List Int) (out : List UInt8) (fuel : Int) (k : Nat), (∀ x ∈ R, byt x) → (L ++ (R ++ Z)).length = 30 → L.length + R.length ≤ 20 → 2 * (R.length : Int) + 1 ≤ fuel → out.length + R.length ≤ 1000 →
    ∃ (fuel' : Int), (lvl (ES K) (k + R.length + 9)).forl [] ⟨3, 0⟩ (((L.length + R.length : Nat) : Int) - 1) 1 B4 (st fuel inp out (L ++ (R ++ Z)) c n L.length j) = some (.ok () (st fuel' inp (out ++ R.map byteOf) (L ++ (R ++ Z)) c n ((L.length + R.length : Nat) : Int) j))
  | [], L, out, fuel, k, hR, hlen, hle, hf, ho => by
    refine ⟨fuel - 1, ?_⟩
    rw [List.map_nil, List.append_nil]
    exact fr_stop (k := k + 8) (by show 0 < fuel; simp at hf; omega) rfl rfl (by simp; omega)
  | x :: R, L, out, fuel, k, hR, hlen, hle, hf, ho => by
    simp only [List.length_cons] at hle hf ho
    have hx : byt x := hR x (by simp)
    have hi : in32 (L.length : Int) = true := small (by omega)
    have hm : Go.Wf.most = 1000000 := rfl
    obtain ⟨f2, i4⟩ := prints Z R (L ++ [x]) (out ++ [byteOf x]) (fuel - 1 - 1) k (fun y hy => hR y (by simp [hy])) (by simpa using hlen) (by simp; omega) (by omega) (by simp; omega)
    refine ⟨f2, ?_⟩
    have hk : k + (x :: R).length + 9 = (k + R.length + 9) + 1 := by simp; omega
    have eN : L.length + (x :: R).length = L.length + 1 + R.length := by simp; omega
    have eL : (L ++ [x]).length = L.length + 1 := by simp
    have eA : L ++ (x :: R ++ Z) = L ++ x :: (R ++ Z) := rfl
    have eA' : (L ++ [x]) ++ (R ++ Z) = L ++ x :: (R ++ Z) := by simp
    have eo : out ++ (x :: R).map byteOf = (out ++ [byteOf x]) ++ R.map byteOf := by simp
    rw [hk, eN, eA, eo]
    rw [eL, eA'] at i4
    refine fr_next (by show 0 < fuel; omega) rfl rfl (by omega) (s1 := st (fuel - 1 - 1) inp (out ++ [byteOf x]) (L ++ x :: (R ++ Z)) c n L.length j) ?_ rfl rfl ?_
    · have q := x_at (K := K) (k := k + R.length + 5) (e := vI) (v := L.length) (x_I (K := K) (k := k + R.length + 4) (fuel := fuel - 1 - 1) (inp := inp) (out := out) (A := L ++ x :: (R ++ Z)) (c := c) (n := n) (j := j) hi) (by omega) get_mid (byt32 hx)
      exact b_lvl (k := k + R.length + 8) (by show 1 ≤ 1000000000000; omega) (b_cons (by show 0 < fuel - 1; omega) (s_put q (by show out.length + 1 ≤ 1000000; omega)) b_nil)
    · have e1 : w32 ((L.length : Int) + 1) = ((L.length + 1 : Nat) : Int) := by rw [w32_of (by omega) (by omega)]; omega
      show (lvl (ES K) (k + R.length + 9)).forl [] ⟨3, 0⟩ (((L.length + 1 + R.length : Nat) : Int) - 1) 1 B4 (⟨fuel - 1 - 1, 0, inp, out ++ [byteOf x], 0, [L ++ x :: (R ++ Z), [c], [n], [w32 ((L.length : Int) + 1)], [j]], []⟩ : St) = _
      rw [e1]
      exact i4
end Go.Wf.Sorts
namespace Go.Wf.Sorts
open Go Go.Wf
theorem start_vars (inp : List UInt8) : varsOf ⟨[], 203, [], []⟩ [D] [] ⟨5000, 0, inp, [], 0, [], []⟩ = some (.ok VS (st 5000 inp [] (List.replicate 30 0) 0 0 0 0)) := rfl
theorem byt_byteI (b : UInt8) : byt (byteI b) := by
  have := b.toNat_lt
  constructor <;> unfold byteI <;> omega
theorem byteOf_byteI (b : UInt8) : byteOf (byteI b) = b := by
  have h := b.toNat_lt
  unfold byteOf byteI
  have : ((b.toNat : Int) % 256).toNat = b.toNat := by omega
  rw [this]; simp
theorem stage2 (inp : List UInt8) (h : inp.length ≤ 20) (f1 : Int) (hf : 2000 ≤ f1) : ∃ (f2 : Int) (L' : List Int) (c' i' j' : Int), f1 - 1500 ≤ f2 ∧ L'.Pairwise (· ≤ ·) ∧ L'.Perm (inp.map byteI) ∧
    stmtS (ES 200) (lvl (ES 200) 202) [] (.mk 5 [vI, lit 1, sub1 vN] [B3] [1]) (st f1 [] [] (rd inp) 0 inp.length 0 0) = some (.ok () (st f2 [] [] (L' ++ List.replicate (30 - inp.length) 0) c' inp.length i' j')) := by
  have hn : in32 (inp.length : Int) = true := small (by omega)
  have last := x_sub (K := 200) (k := 200) (e := vN) rfl (x_N (k := 199) (fuel := f1) (inp := []) (out := []) (A := rd inp) (c := 0) (i := 1) (j := 0) hn) (by omega) (by omega)
  cases inp with
  | nil =>
    refine ⟨f1 - 1, [], 0, 1, 0, by omega, .nil, .refl _, ?_⟩
    exact s_for (p_glob (k := 201) rfl rfl rfl) (x_lit (k := 201) rfl) rfl (by show 0 < 1; omega) last (fr_stop (k := 201) (by show 0 < f1; omega) rfl rfl (by decide))
  | cons b l =>
    simp only [List.length_cons] at h
    have hZ : rd (b :: l) = [byteI b] ++ (l.map byteI ++ List.replicate (30 - (l.length + 1)) 0) := by simp [rd]
    obtain ⟨f2, L', c', j', o1, o2, o3, o4⟩ := outer (K := 200) (n := ((b :: l).length : Nat)) (inp := []) (out := []) (List.replicate (30 - (l.length + 1)) 0) (l.map byteI) [byteI b] f1 (142 - l.length) 0 0 (by simp) (fun x hx => by rcases List.mem_singleton.1 hx with rfl; exact byt_byteI b)
      (fun x hx => by obtain ⟨y, _, rfl⟩ := List.mem_map.1 hx; exact byt_byteI y) (by simp; omega) (by simp; omega) (by simp; omega)
    refine ⟨f2, L', c', (((([byteI b] : List Int).length + (l.map byteI).length : Nat)) : Int), j', ?_, o2, by simpa using o3, ?_⟩
    · simp at o1; omega
    · have e1 : 142 - l.length + (l.map byteI).length + 60 = 202 := by simp; omega
      have e2 : ((([byteI b] : List Int).length + (l.map byteI).length : Nat) : Int) - 1 = (((b :: l).length : Nat) : Int) - 1 := by simp; omega
      rw [e1, e2, ← hZ] at o4
      exact s_for (p_glob (k := 201) rfl rfl rfl) (x_lit (k := 201) rfl) rfl (by show 0 < 1; omega) last o4
theorem whole (inp : List UInt8) (h : inp.length ≤ 20) : ∃ s', runS 203 [D] (startS 0 5000 inp) = some (.ok () s') ∧ s'.out.Perm inp ∧ s'.out.Pairwise (fun a b => a.toNat ≤ b.toNat) := by
  obtain ⟨f1, hf1, r1⟩ := reads (K := 200) inp [] (5000 - 1) (193 - inp.length) (by simpa using h) (by omega)
  rw [List.nil_append] at r1
  obtain ⟨f2, L', c', i', j', y1, y2, y3, y4⟩ := stage2 inp h (f1 - 1) (by omega)
  have hl : L'.length = inp.length := by rw [y3.length_eq]; simp
  have hb : ∀ x ∈ L', byt x := fun x hx => by
    obtain ⟨y, _, rfl⟩ := List.mem_map.1 (y3.mem_iff.1 hx); exact byt_byteI y
  have hn : in32 (inp.length : Int) = true := small (by omega)
  obtain ⟨f3, p3⟩ := prints (K := 200) (c := c') (n := (inp.length : Int)) (j := j') (inp := []) (List.replicate (30 - inp.length) 0) L' [] [] (f2 - 1) (193 - inp.length) hb (by simp [hl]; omega) (by simp [hl]; omega) (by rw [hl]; omega) (by simp [hl]; omega)
  have e1 : 193 - inp.length + L'.length + 9 = 202 := by omega
  have e2 : ((([] : List Int).length + L'.length : Nat) : Int) = (inp.length : Int) := by simp [hl]
  rw [e1, e2] at p3
  have last := x_sub (K := 200) (k := 200) (e := vN) rfl (x_N (k := 199) (fuel := f2 - 1) (inp := []) (out := []) (A := L' ++ List.replicate (30 - inp.length) 0) (c := c') (i := 0) (j := j') hn) (by omega) (by omega)
  have s3 : stmtS (ES 200) (lvl (ES 200) 202) [] (.mk 5 [vI, lit 0, sub1 vN] [B4] [1]) (st (f2 - 1) [] [] (L' ++ List.replicate (30 - inp.length) 0) c' inp.length i' j') = some (.ok () (st f3 [] (L'.map byteOf) (L' ++ List.replicate (30 - inp.length) 0) c' inp.length inp.length j')) :=
    s_for (p_glob (k := 201) rfl rfl rfl) (x_lit (k := 201) rfl) rfl (by show 0 < 1; omega) last p3
  have s1 : stmtS (ES 200) (lvl (ES 200) 202) [] (.mk 3 [g1] [B1] []) (st (5000 - 1) inp [] (List.replicate 30 0) 0 0 0 0) = some (.ok () (st f1 [] [] (rd inp) 0 inp.length 0 0)) := by
    rw [s_while, show (202 : Nat) = 193 - inp.length + inp.length + 9 by omega]
    exact r1
  have sb : (lvl (ES 200) 203).body [] body (st 5000 inp [] (List.replicate 30 0) 0 0 0 0) = some (.ok () (st f3 [] (L'.map byteOf) (L' ++ List.replicate (30 - inp.length) 0) c' inp.length inp.length j')) :=
    b_lvl (k := 202) (by show 3 ≤ 1000000000000; omega) (b_cons (by show (0 : Int) < 5000; omega) s1 (b_cons (by show 0 < f1; omega) y4 (b_cons (by show 0 < f2; omega) s3 b_nil)))
  refine ⟨st f3 [] (L'.map byteOf) (L' ++ List.replicate (30 - inp.length) 0) c' inp.length inp.length j', ?_, ?_, ?_⟩
  · have e : runS 203 [D] (startS 0 5000 inp) = (varsOf ⟨[], 203, [], []⟩ [D] [] >>= fun g => bodiesS (lvl ⟨[], 203, g, []⟩ 203) [D]) ⟨5000, 0, inp, [], 0, [], []⟩ := rfl
    rw [e, bind_of (start_vars inp)]
    have e' : bodiesS (lvl ⟨[], 203, VS, []⟩ 203) [D] (st 5000 inp [] (List.replicate 30 0) 0 0 0 0) = ((lvl (ES 200) 203).body [] body >>= fun _ => bodiesS (lvl (ES 200) 203) []) (st 5000 inp [] (List.replicate 30 0) 0 0 0 0) := rfl
    rw [e', bind_of sb]; rfl
  · have := y3.map byteOf
    rw [List.map_map] at this
    have e : (byteOf ∘ byteI) = id := by funext b; exact byteOf_byteI b
    rw [e, List.map_id] at this
    exact this
  · show (L'.map byteOf).Pairwise _
    rw [List.pairwise_map]
    refine y2.imp_of_mem fun {a b} ha hb' hab => ?_
    obtain ⟨x, _, rfl⟩ := List.mem_map.1 (y3.mem_iff.1 ha)
    obtain ⟨y, _, rfl⟩ := List.mem_map.1 (y3.mem_iff.1 hb')
    rw [byteOf_byteI, byteOf_byteI]
    unfold byteI at hab; omega
end Go.Wf.Sorts
