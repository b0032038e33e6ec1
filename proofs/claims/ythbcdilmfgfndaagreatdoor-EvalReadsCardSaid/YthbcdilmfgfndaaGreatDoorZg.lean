/-
  GUIDED RUNS, PART A: the evaluator over opaque leaves: what it is told, what it owes.
-/
import Derived.Test.YthbcdilmfgfndaaGreatDoorZd
import Derived.Test.YthbcdilmfgfndaaGreatDoorZf
set_option linter.unusedSimpArgs false
set_option linter.unusedVariables false
namespace Go.Den
open Go
inductive Gd where
  | gb (b : Bool)
  | pb (b : Bool)
  | cb (b : Bool)
  | val (v : AVal)
  | call (r : ARes) (h : Heap)
  | st (h : Heap)
  | lp (r : Res)
  | ap (v : AVal)
  | am (v : AVal) (h : Heap)
  | mu (h : Heap)
  | go (v : AVal) (h : Heap)
  | ld (v : AVal) (h : Heap)
  | mk (n : Nat)
  | cp (n : Nat) (h : Heap)
  | bx (l : List AVal)
  | bs (l l' : List AVal)
abbrev Gs := List (Nat × Gd)
def All : List Prop → Prop
  | [] => True
  | p :: ps => p ∧ All ps
theorem All.app : ∀ {a b : List Prop}, All (a ++ b) → All a ∧ All b
  | [], _, h => ⟨trivial, h⟩
  | _ :: _, _, h => by
    obtain ⟨h1, h2⟩ := All.app h.2
    exact ⟨⟨h.1, h1⟩, h2⟩
def headG (k : Nat) : Gs → Option Gd
  | (j, g) :: _ => cond (Nat.beq j k) (some g) none
  | [] => none
def tailG : Gs → Gs
  | _ :: r => r
  | [] => []
def isVal (X : Ctx) (f : FuncId) (o : Oper) : Bool :=
  match o.op with
  | .load _ _ => !linDst X f o.dst
  | .pick .. | .nilCheck _ | .binOp .. | .unOp .. | .convert .. | .makeInterface .. | .makeFunc .. | .slice .. | .fieldAddr .. | .field .. | .indexAddr .. | .index .. | .lookup .. | .typeAssert .. | .extract .. => true
  | .call { callee := .builtin .len, .. } | .call { callee := .builtin .max, .. } | .call { callee := .builtin .min, .. } => true
  | _ => false
theorem isVal_step {X : Ctx} {call : Call} {f : FuncId} {s : FS} {h : Heap} {o : Oper} (hv : isVal X f o = true) :
    stepOp X call f s h o = (match valOp X s h o.op with | some v => cont? (s.put o.dst v) h | none => none) := by
  obtain ⟨dst, op, type, pos, after, guard⟩ := o
  cases op with
  | load t p =>
    simp only [isVal, Bool.not_eq_true'] at hv
    simp only [stepOp, hv, cond_false]
    rfl
  | call c =>
    obtain ⟨callee, args, ts⟩ := c
    cases callee with
    | builtin b => cases b <;> first | rfl | (simp [isVal] at hv; done)
    | _ => simp [isVal] at hv
  | _ => first | rfl | (simp [isVal] at hv; done)
def hload (h : Heap) (g : Bool) (n b off : Nat) : Option AVal :=
  match h.objs[b]? with
  | some (.cells l) => readRow g n l off
  | _ => none
def hstore (h : Heap) (b off : Nat) (cs : List AVal) : Option Heap :=
  match h.objs[b]? with
  | some (.cells l) => cond (Nat.ble h.ro b && Nat.ble (off + cs.length) l.length) (some { h with objs := h.objs.set b (.cells (putAt l off cs)) }) none
  | _ => none
def hraw (h : Heap) (b off : Nat) : Option AVal :=
  match h.objs[b]? with
  | some (.cells l) => l[off]?
  | _ => none
def hcopy (h : Heap) (b off b' off' k : Nat) : Option Heap :=
  match h.objs[b']? with
  | some (.cells l) => cond (Nat.ble (off' + k) l.length) (cond (Nat.beq k 0) (some h) (hstore h b off (((l.drop off').take k).map AVal.strip))) none
  | _ => none
theorem hload_eq (s : FS) (h : Heap) (g : Bool) (n b off : Nat) : aload s h g n (.ptr b off) = hload h g n b off := by
  simp only [aload, rowAt, hload]
  cases h.objs[b]? with
  | none => rfl
  | some o => cases o <;> rfl
theorem hstore_eq (s : FS) (h : Heap) (b off : Nat) (cs : List AVal) : astore s h (.ptr b off) cs = (hstore h b off cs).map fun h' => (s, h') := by
  simp only [astore, hstore]
  cases h.objs[b]? with
  | none => rfl
  | some o => cases o with
    | cells l =>
      simp only
      cases (Nat.ble h.ro b && Nat.ble (off + cs.length) l.length) <;> rfl
    | _ => rfl
def bload (B : List (List AVal)) (g : Bool) (n i off : Nat) : Option AVal :=
  match B[i]? with
  | some l => readRow g n l off
  | none => none
theorem bload_eq (s : FS) (h : Heap) (g : Bool) (n i off : Nat) : aload s h g n (.loc i off) = bload s.boxes g n i off := by
  simp only [aload, rowAt, bload]
  cases s.boxes[i]? <;> rfl
def owesVal (X : Ctx) (s : FS) (h : Heap) (op : Op) (v : AVal) : Prop :=
  match op with
  | .load t p => match opnd s.env p, tySize X.P t, tyAgg X.P t with
    | some (.ptr b off), some n, some g => hload h g n b off = some v
    | some (.ept l off), some n, some g => readRow g n l off = some v
    | some (.loc i off), some n, some g => bload s.boxes g n i off = some v
    | _, _, _ => valOp X s h op = some v
  | .binOp op' t x y _ => match opnd s.env x, opnd s.env y with
    | some a, some b => abin op' (Region.isConst x || Region.isConst y) (X.P.underlying t) a b = some v
    | _, _ => False
  | .convert src dst x => match opnd s.env x with
    | some a => aconv X.P src dst a = some v
    | none => False
  | .indexAddr t x i => match opnd s.env x, opnd s.env i with
    | some a, some b => aindexAddr X.P t a b = some v
    | _, _ => False
  | .index t x i => match opnd s.env x, opnd s.env i with
    | some a, some b => aindex X.P t a b = some v
    | _, _ => False
  | .lookup t m k ok => match opnd s.env m, opnd s.env k with
    | some a, some b => alookup X.P h t a b ok = some v
    | _, _ => False
  | .slice t x lo hi mx => match opnd s.env x with
    | some a => asub X.P h s.env t a lo hi mx = some v
    | none => False
  | .call { callee := .builtin .len, args, argTypes } => match argTypes[0]?, (args[0]?).bind (opnd s.env) with
    | some t, some a => alen X.P h t a = some v
    | _, _ => False
  | _ => valOp X s h op = some v
theorem owesVal_ok {X : Ctx} {s : FS} {h : Heap} {op : Op} {v : AVal} (e : owesVal X s h op v) : valOp X s h op = some v := by
  cases op with
  | load t p =>
    simp only [owesVal] at e
    simp only [valOp]
    split at e
    · rename_i b off n g h1 h2 h3
      simp only [h1, h2, h3, hload_eq]; exact e
    · rename_i l off n g h1 h2 h3
      simp only [h1, h2, h3, aload, rowAt]; exact e
    · rename_i i off n g h1 h2 h3
      simp only [h1, h2, h3, bload_eq]; exact e
    · exact e
  | binOp op' t x y u =>
    simp only [owesVal] at e
    simp only [valOp]
    split at e
    · rename_i a b h1 h2; simp only [h1, h2]; exact e
    · exact e.elim
  | convert src dst x =>
    simp only [owesVal] at e
    simp only [valOp]
    split at e
    · rename_i a h1; simp only [h1]; exact e
    · exact e.elim
  | indexAddr t x i =>
    simp only [owesVal] at e
    simp only [valOp]
    split at e
    · rename_i a b h1 h2; simp only [h1, h2]; exact e
    · exact e.elim
  | index t x i =>
    simp only [owesVal] at e
    simp only [valOp]
    split at e
    · rename_i a b h1 h2; simp only [h1, h2]; exact e
    · exact e.elim
  | lookup t m k ok =>
    simp only [owesVal] at e
    simp only [valOp]
    split at e
    · rename_i a b h1 h2; simp only [h1, h2]; exact e
    · exact e.elim
  | slice t x lo hi mx =>
    simp only [owesVal] at e
    simp only [valOp]
    split at e
    · rename_i a h1; simp only [h1]; exact e
    · exact e.elim
  | call c =>
    obtain ⟨callee, args, ts⟩ := c
    cases callee with
    | builtin b =>
      cases b with
      | len =>
        simp only [owesVal] at e
        simp only [valOp]
        split at e
        · rename_i t a h1 h2; simp only [h1, h2]; exact e
        · exact e.elim
      | _ => exact e
    | _ => exact e
  | _ => exact e
structure GR (α : Type) where
  r : α
  rest : Gs
  owes : List Prop
def contG (s : Option FS) (h : Heap) (A : Gs) (ps : List Prop) : Option (GR Out) :=
  match s with
  | some s => some ⟨.cont s h, A, ps⟩
  | none => none
def stepTold (X : Ctx) (call : Call) (f : FuncId) (s : FS) (h : Heap) (o : Oper) (A : Gs) : Gd → Option (GR Out)
  | .val v => cond (isVal X f o) (contG (s.put o.dst v) h A [owesVal X s h o.op v]) none
  | .pb b => match o.op with
    | .pick c x y => match opnd s.env c with
      | some (.bool b') => match opnd s.env (cond b x y) with
        | some v => contG (s.put o.dst v.stripA) h A [b' = b]
        | none => none
      | _ => none
    | _ => none
  | .call r h' => match o.op with
    | .call { callee := .value x, args, .. } => match opnd s.env x, argVals X f s args.toList with
      | some (.fn g caps), some (vs, s') => cond (hasBody X.P g) (match callOut s' o.dst (some (r, h')) with
        | some out => some ⟨out, A, [noLocs vs = true, call g (vs ++ caps) h = some (r, h')]⟩
        | none => none) none
      | _, _ => none
    | _ => none
  | .st h' => match o.op with
    | .store t p x => match opnd s.env p, opnd s.env x, tySize X.P t with
      | some (.ptr b off), some v, some n => contG ((cond (isLin X f x) (s.drop x) s).put o.dst undefA) h' A [(Nat.beq v.cells.length n && !v.isLoc) = true, hstore h b off (cellsOf (isLin X f x) v) = some h']
      | _, _, _ => none
    | _ => none
  | .ap v => match o.op with
    | .call { callee := .builtin .append, args, argTypes } => match args.toList with
      | [x, y] => match opnd s.env x, opnd s.env y with
        | some a, some b => cond (atDst X.cfg.mutA f o.dst) none (contG ((s.drop x).put o.dst v) h A [aappend X.P h argTypes a b = some v])
        | _, _ => none
      | _ => none
    | _ => none
  | .am v h' => match o.op with
    | .call { callee := .builtin .append, args, argTypes } => match args.toList with
      | [x, y] => match opnd s.env x, opnd s.env y with
        | some a, some b => cond (atDst X.cfg.mutA f o.dst) (contG (s.put o.dst v) h' A [aappendM X.P h argTypes a b = some (v, h')]) none
        | _, _ => none
      | _ => none
    | _ => none
  | .mu h' => match o.op with
    | .mapUpdate t m k v | .insert t m k v => match opnd s.env m, opnd s.env k, opnd s.env v with
      | some a, some b, some c => contG (s.put o.dst undefA) h' A [amapUpdate X.P h t a b c = some h']
      | _, _, _ => none
    | _ => none
  | .go v h' => match s.put o.dst v with
    | some s' => some ⟨.cont s' h', A, [stepOp X call f s h o = some (.cont s' h')]⟩
    | none => none
  | .ld v h' => match o.op with
    | .load t p => cond (linDst X f o.dst) (match opnd s.env p, tySize X.P t, tyAgg X.P t with
      | some (.ptr b off), some 1, some false => contG (s.put o.dst v) h' A [hraw h b off = some v, hstore h b off [v.strip] = some h']
      | _, _, _ => none) none
    | _ => none
  | .mk k => match o.op with
    | .makeSlice t l c => match tyElem X.P t, opnd s.env l, opnd s.env c with
      | some e, some (.int _ n), some (.int _ m) => match X.P.info? e, tyZero X.P e with
        | some ti, some z => cond (!z.isLoc && Nat.beq z.cells.length ti.size && Nat.ble 1 ti.size && Nat.ble ti.bytes 4096)
          (contG (s.put o.dst (.msl h.objs.length 0 k ti.size)) (h.push (.cells (repL z.cells k))) A [n = (k : Int), m = (k : Int), k ≤ most]) none
        | _, _ => none
      | _, _, _ => none
    | _ => none
  | .cp k h' => match o.op with
    | .call { callee := .builtin .copy, args, argTypes } => match args.toList, (argTypes[0]?).bind (tyElem X.P) with
      | [x, y], some e => match opnd s.env x, opnd s.env y, tySize X.P e with
        | some (.msl b off n 1), some (.msl b' off' n' 1), some 1 => contG (s.put o.dst (.int .i64 k)) h' A [min n' n = k, hcopy h b off b' off' k = some h']
        | _, _, _ => none
      | _, _ => none
    | _ => none
  | .bx l => match o.op with
    | .load t p => cond (linDst X f o.dst) none (match opnd s.env p, tySize X.P t, tyAgg X.P t with
      | some (.loc i off), some n, some g => match readRow g n l off with
        | some v => contG (s.put o.dst v) h A [s.boxes[i]? = some l]
        | none => none
      | _, _, _ => none)
    | .store t p x => match opnd s.env p, opnd s.env x, tySize X.P t with
      | some (.loc i off), some v, some n => cond (Nat.beq v.cells.length n && !v.isLoc && Nat.ble (off + (cellsOf (isLin X f x) v).length) l.length)
        (contG ({ (cond (isLin X f x) (s.drop x) s) with boxes := s.boxes.set i (putAt l off (cellsOf (isLin X f x) v)) }.put o.dst undefA) h A [s.boxes[i]? = some l]) none
      | _, _, _ => none
    | _ => none
  | .bs l l' => match o.op with
    | .store t p x => match opnd s.env p, opnd s.env x, tySize X.P t with
      | some (.loc i off), some v, some n => contG ({ (cond (isLin X f x) (s.drop x) s) with boxes := s.boxes.set i l' }.put o.dst undefA) h A
          [s.boxes[i]? = some l, (Nat.beq v.cells.length n && !v.isLoc && Nat.ble (off + (cellsOf (isLin X f x) v).length) l.length) = true, putAt l off (cellsOf (isLin X f x) v) = l']
      | _, _, _ => none
    | _ => none
  | _ => none
def stepH (X : Ctx) (call : Call) (f : FuncId) (k : Nat) (s : FS) (h : Heap) (o : Oper) (A : Gs) : Option (GR Out) :=
  match headG k A with
  | some g => stepTold X call f s h o (tailG A) g
  | none => match stepOp X call f s h o with
    | some out => some ⟨out, A, []⟩
    | none => none
def addG (p : Prop) : Option (GR Out) → Option (GR Out)
  | some q => some ⟨q.r, q.rest, p :: q.owes⟩
  | none => none
def guardH (X : Ctx) (call : Call) (f : FuncId) (k : Nat) (s : FS) (h : Heap) (o : Oper) (A : Gs) (want : Bool) : AVal → Option (GR Out)
  | .tup _ => contG (s.put o.dst undefA) h A []
  | .bool b => match headG k A with
    | some (.gb b') => addG (b = b') (cond (b' == want) (stepH X call f k s h o (tailG A)) (contG (s.put o.dst undefA) h (tailG A) []))
    | _ => cond (b == want) (stepH X call f k s h o A) (contG (s.put o.dst undefA) h A [])
  | _ => none
def stepGH (X : Ctx) (call : Call) (f : FuncId) (ops : Array Oper) (k : Nat) (s : FS) (h : Heap) (o : Oper) (A : Gs) : Option (GR Out) :=
  match o.guard with
  | none => stepH X call f k s h o A
  | some (j, want) => match (ops[j]?).bind (·.dst) with
    | some t => guardH X call f k s h o A want (s.env t)
    | none => none
def runOpsH (X : Ctx) (call : Call) (f : FuncId) (ops : Array Oper) : List Oper → Nat → FS → Heap → Gs → Option (GR Out)
  | [], _, s, h, A => some ⟨.cont s h, A, []⟩
  | o :: os, k, s, h, A => match stepGH X call f ops k s h o A with
    | some ⟨.cont s' h', A', ps⟩ => match runOpsH X call f ops os (k + 1) s' h' A' with
      | some q => some ⟨q.r, q.rest, ps ++ q.owes⟩
      | none => none
    | r => r
variable {X : Ctx} {call : Call} {f : FuncId} {s : FS} {h : Heap} {o : Oper} {A : Gs} {ops : Array Oper}
theorem contG_ok {s₁ : Option FS} {h₁ : Heap} {ps : List Prop} {q : GR Out} (e : contG s₁ h₁ A ps = some q) : cont? s₁ h₁ = some q.r ∧ q.owes = ps := by
  cases s₁ with
  | none => cases e
  | some s₁ => cases e; exact ⟨rfl, rfl⟩
theorem stepTold_ok {g : Gd} {q : GR Out} (e : stepTold X call f s h o A g = some q) (ho : All q.owes) : stepOp X call f s h o = some q.r := by
  cases g with
  | gb b => cases e
  | cb b => cases e
  | lp r => cases e
  | val v =>
    simp only [stepTold] at e
    cases hv : isVal X f o with
    | false => rw [hv] at e; cases e
    | true =>
      rw [hv, cond_true] at e
      obtain ⟨e1, e2⟩ := contG_ok e
      rw [e2] at ho
      rw [isVal_step hv, owesVal_ok ho.1]
      exact e1
  | pb b =>
    simp only [stepTold] at e
    split at e
    · rename_i c x y hop
      split at e
      · rename_i b' hc
        split at e
        · rename_i v hv
          obtain ⟨e1, e2⟩ := contG_ok e
          rw [e2] at ho
          have hb := ho.1
          subst hb
          rw [isVal_step (by simp [isVal, hop])]
          simp only [valOp, hop, hc, hv, Option.map_some]
          exact e1
        · cases e
      · cases e
    · cases e
  | call r h' =>
    simp only [stepTold] at e
    split at e
    · rename_i x args ts hop
      split at e
      · rename_i g caps vs s' hx ha
        cases hn : hasBody X.P g with
        | false => rw [hn] at e; cases e
        | true =>
          rw [hn, cond_true] at e
          split at e
          · rename_i out hout
            cases e
            obtain ⟨o1, o2, _⟩ := ho
            simp only [stepOp, hop, hx, ha, hn, o1, Bool.and_self, cond_true]
            rw [o2]
            exact hout
          · cases e
      · cases e
    · cases e
  | st h' =>
    simp only [stepTold] at e
    split at e
    · rename_i t p x hop
      split at e
      · rename_i b off v n hp hx hn
        obtain ⟨e1, e2⟩ := contG_ok e
        rw [e2] at ho
        obtain ⟨o1, o2, _⟩ := ho
        simp only [stepOp, hop, hp, hx, hn, o1, cond_true, hstore_eq, o2, Option.map_some]
        exact e1
      · cases e
    · cases e
  | ap v =>
    simp only [stepTold] at e
    split at e
    · rename_i args ts hop
      split at e
      · rename_i x y hargs
        split at e
        · rename_i a b ha hb
          cases hm : atDst X.cfg.mutA f o.dst with
          | true => rw [hm] at e; cases e
          | false =>
            rw [hm, cond_false] at e
            obtain ⟨e1, e2⟩ := contG_ok e
            rw [e2] at ho
            simp only [stepOp, hop, hargs, ha, hb, hm, cond_false, ho.1]
            exact e1
        · cases e
      · cases e
    · cases e
  | am v h' =>
    simp only [stepTold] at e
    split at e
    · rename_i args ts hop
      split at e
      · rename_i x y hargs
        split at e
        · rename_i a b ha hb
          cases hm : atDst X.cfg.mutA f o.dst with
          | false => rw [hm] at e; cases e
          | true =>
            rw [hm, cond_true] at e
            obtain ⟨e1, e2⟩ := contG_ok e
            rw [e2] at ho
            simp only [stepOp, hop, hargs, ha, hb, hm, cond_true, ho.1]
            exact e1
        · cases e
      · cases e
    · cases e
  | mu h' =>
    simp only [stepTold] at e
    split at e
    · rename_i t m k v hop
      split at e
      · rename_i a b c ha hb hc
        obtain ⟨e1, e2⟩ := contG_ok e
        rw [e2] at ho
        simp only [stepOp, hop, ha, hb, hc, ho.1]
        exact e1
      · cases e
    · rename_i t m k v hop
      split at e
      · rename_i a b c ha hb hc
        obtain ⟨e1, e2⟩ := contG_ok e
        rw [e2] at ho
        simp only [stepOp, hop, ha, hb, hc, ho.1]
        exact e1
      · cases e
    · cases e
  | go v h' =>
    simp only [stepTold] at e
    split at e
    · cases e; exact ho.1
    · cases e
  | ld v h' =>
    simp only [stepTold] at e
    split at e
    · rename_i t p hop
      cases hl : linDst X f o.dst with
      | false => rw [hl] at e; cases e
      | true =>
        rw [hl, cond_true] at e
        split at e
        · rename_i b off h1 h2 h3
          obtain ⟨e1, e2⟩ := contG_ok e
          rw [e2] at ho
          obtain ⟨o1, o2, _⟩ := ho
          simp only [stepOp, hop, hl, cond_true, h1, h2, h3]
          have hr : ∃ l, h.objs[b]? = some (.cells l) ∧ l[off]? = some v := by
            unfold hraw at o1
            split at o1
            · rename_i l hl; exact ⟨l, hl, o1⟩
            · cases o1
          obtain ⟨l, r1, r2⟩ := hr
          simp only [rowAt, r1, r2, hstore_eq, o2, Option.map_some]
          exact e1
        · cases e
    · cases e
  | mk k =>
    simp only [stepTold] at e
    split at e
    · rename_i t l c hop
      split at e
      · rename_i el kn n km m h1 h2 h3
        split at e
        · rename_i ti z h4 h5
          cases hc : (!z.isLoc && Nat.beq z.cells.length ti.size && Nat.ble 1 ti.size && Nat.ble ti.bytes 4096) with
          | false => rw [hc] at e; cases e
          | true =>
            rw [hc, cond_true] at e
            obtain ⟨e1, e2⟩ := contG_ok e
            rw [e2] at ho
            obtain ⟨o1, o2, o3, _⟩ := ho
            subst o1; subst o2
            simp only [Bool.and_eq_true] at hc
            have hk : Nat.ble k most = true := Nat.ble_eq_true_of_le o3
            simp only [stepOp, hop, h1, h2, h3, h4, h5, Int.toNat_natCast, hk, hc.1.1.1, hc.1.1.2, hc.1.2, hc.2, decide_true, Int.natCast_nonneg, Bool.and_self, cond_true]
            exact e1
        · cases e
      · cases e
    · cases e
  | cp k h' =>
    simp only [stepTold] at e
    split at e
    · rename_i args ts hop
      split at e
      · rename_i x y el hargs hel
        split at e
        · rename_i b off n b' off' n' h1 h2 h3
          obtain ⟨e1, e2⟩ := contG_ok e
          rw [e2] at ho
          obtain ⟨o1, o2, _⟩ := ho
          subst o1
          simp only [stepOp, hop, hargs, hel, h1, h2, h3]
          unfold hcopy at o2
          split at o2
          · rename_i l hl
            cases hb : Nat.ble (off' + min n' n) l.length with
            | false => rw [hb] at o2; cases o2
            | true =>
              rw [hb, cond_true] at o2
              simp only [hl, Nat.mul_one, hb, Nat.beq_refl, Bool.and_self, cond_true]
              cases hz : Nat.beq (min n' n) 0 with
              | true =>
                rw [hz, cond_true] at o2
                cases o2
                simp only [cond_true]
                have := Nat.eq_of_beq_eq_true hz
                rw [this] at e1
                exact e1
              | false =>
                rw [hz, cond_false] at o2
                simp only [cond_false, hstore_eq, o2, Option.map_some]
                exact e1
          · cases o2
        · cases e
      · cases e
    · cases e
  | bx l =>
    simp only [stepTold] at e
    split at e
    · rename_i t p hop
      cases hl : linDst X f o.dst with
      | true => rw [hl] at e; cases e
      | false =>
        rw [hl, cond_false] at e
        split at e
        · rename_i i off n g h1 h2 h3
          split at e
          · rename_i v hv
            obtain ⟨e1, e2⟩ := contG_ok e
            rw [e2] at ho
            rw [isVal_step (by simp [isVal, hop, hl])]
            simp only [valOp, hop, h1, h2, h3, aload, rowAt, ho.1, hv]
            exact e1
          · cases e
        · cases e
    · rename_i t p x hop
      split at e
      · rename_i i off v n h1 h2 h3
        cases hc : (Nat.beq v.cells.length n && !v.isLoc && Nat.ble (off + (cellsOf (isLin X f x) v).length) l.length) with
        | false => rw [hc] at e; cases e
        | true =>
          rw [hc, cond_true] at e
          obtain ⟨e1, e2⟩ := contG_ok e
          rw [e2] at ho
          obtain ⟨o1, _⟩ := ho
          simp only [Bool.and_eq_true] at hc
          have hb : (cond (isLin X f x) (s.drop x) s).boxes = s.boxes := by
            cases isLin X f x with
            | true => cases x <;> rfl
            | false => rfl
          simp only [stepOp, hop, h1, h2, h3, hc.1.1, hc.1.2, Bool.and_self, cond_true, astore, hb, o1, hc.2]
          exact e1
      · cases e
    · cases e
  | bs l l' =>
    simp only [stepTold] at e
    split at e
    · rename_i t p x hop
      split at e
      · rename_i i off v n h1 h2 h3
        obtain ⟨e1, e2⟩ := contG_ok e
        rw [e2] at ho
        obtain ⟨o1, hc, o3, _⟩ := ho
        simp only [Bool.and_eq_true] at hc
        have hb : (cond (isLin X f x) (s.drop x) s).boxes = s.boxes := by
          cases isLin X f x with
          | true => cases x <;> rfl
          | false => rfl
        simp only [stepOp, hop, h1, h2, h3, hc.1.1, hc.1.2, Bool.and_self, cond_true, astore, hb, o1, hc.2, o3]
        exact e1
      · cases e
    · cases e
theorem stepH_ok {k : Nat} {q : GR Out} (e : stepH X call f k s h o A = some q) (ho : All q.owes) : stepOp X call f s h o = some q.r := by
  unfold stepH at e
  split at e
  · exact stepTold_ok e ho
  · split at e
    · rename_i out hs; cases e; exact hs
    · cases e
theorem stepGH_ok {k : Nat} {q : GR Out} (e : stepGH X call f ops k s h o A = some q) (ho : All q.owes) : stepG X call f ops s h o = some q.r := by
  unfold stepGH at e
  unfold stepG wantedA
  cases hg : o.guard with
  | none => rw [hg] at e; exact stepH_ok e ho
  | some g =>
    obtain ⟨j, want⟩ := g
    rw [hg] at e
    simp only at e ⊢
    cases ht : (ops[j]?).bind (·.dst) with
    | none => rw [ht] at e; cases e
    | some t =>
      rw [ht] at e
      simp only at e ⊢
      cases hv : s.env t with
      | tup vs => rw [hv] at e; exact (contG_ok e).1
      | bool b =>
        rw [hv] at e
        simp only [guardH] at e
        have plain : ∀ {A : Gs} {q : GR Out}, cond (b == want) (stepH X call f k s h o A) (contG (s.put o.dst undefA) h A []) = some q → All q.owes →
            (match (match (AVal.bool b) with | .bool b => some (b == want) | .tup _ => some false | _ => none) with | some true => stepOp X call f s h o | some false => cont? (s.put o.dst undefA) h | none => none) = some q.r := by
          intro A q e ho
          cases hb : (b == want) with
          | true => rw [hb] at e; simp only [hb]; exact stepH_ok e ho
          | false => rw [hb] at e; simp only [hb]; exact (contG_ok e).1
        split at e
        · rename_i b' _
          unfold addG at e
          split at e
          · rename_i q' hq'
            cases e
            obtain ⟨h1, h2⟩ := ho
            subst h1
            have := plain hq' h2
            exact this
          · cases e
        · exact plain e ho
      | _ => rw [hv] at e; cases e
theorem runOpsH_ok : ∀ (l : List Oper) (k : Nat) (s : FS) (h : Heap) (A : Gs) (q : GR Out), runOpsH X call f ops l k s h A = some q → All q.owes → runOps X call f ops l s h = some q.r
  | [], k, s, h, A, q, e, _ => by cases e; rfl
  | o :: os, k, s, h, A, q, e, ho => by
    unfold runOpsH at e
    unfold runOps
    split at e
    · rename_i s' h' A' ps hs
      split at e
      · rename_i q' hq'
        cases e
        obtain ⟨h1, h2⟩ := All.app ho
        rw [stepGH_ok hs h1]
        exact runOpsH_ok os _ s' h' A' q' hq' h2
      · cases e
    · rename_i r hne
      have := stepGH_ok e ho
      rw [this]
      obtain ⟨out, A', ps⟩ := q
      cases out with
      | cont s' h' => exact (hne s' h' A' ps e).elim
      | panic v s' h' => rfl
end Go.Den
namespace Go.Den
open Go
theorem foot_le {X : Ctx} {f : FuncId} {env : Env} {o : Oper} {ft sf : Foot} (h1 : foot X f env o = some ft) (h2 : sfoot X f o = some sf) : ft.le sf := by
  obtain ⟨dst, op, type, pos, after, guard⟩ := o
  cases op with
  | load t p =>
    simp only [foot] at h1
    simp only [sfoot, Option.some.injEq] at h2
    subst h2
    split at h1
    · rename_i a _
      cases a <;> simp [addrFoot] at h1 <;> subst h1 <;> refine ⟨?_, ?_, ?_⟩ <;> simp
    · cases h1
  | store t p x =>
    simp only [foot] at h1
    simp only [sfoot, Option.some.injEq] at h2
    subst h2
    split at h1
    · rename_i a _
      cases a <;> simp [addrFoot] at h1 <;> subst h1 <;> refine ⟨?_, ?_, ?_⟩ <;> simp
    · cases h1
  | panic x => simp [foot] at h1
  | defer c => simp [foot] at h1
  | call c =>
    obtain ⟨callee, args, ts⟩ := c
    cases callee with
    | value g => simp only [foot, sfoot, Option.some.injEq] at h1 h2; subst h1; subst h2; exact Foot.le_refl _
    | invoke r m => simp only [foot, sfoot, Option.some.injEq] at h1 h2; subst h1; subst h2; exact Foot.le_refl _
    | builtin b =>
      cases b with
      | len =>
        simp only [foot] at h1
        simp only [sfoot, Option.some.injEq] at h2; subst h2
        split at h1
        · cases h1; exact Foot.le_refl _
        · cases h1; exact Foot.none_le _
      | append =>
        simp only [foot, Option.some.injEq] at h1
        simp only [sfoot, Option.some.injEq] at h2; subst h2
        subst h1
        cases atDst X.cfg.mutA f dst with
        | true => exact Foot.le_refl _
        | false =>
          simp only [cond_false]
          split
          · exact Foot.le_refl _
          · exact Foot.none_le _
      | _ => simp only [foot, sfoot, Option.some.injEq] at h1 h2; subst h1; subst h2; exact Foot.le_refl _
  | slice t x lo hi mx =>
    simp only [foot, sfoot] at h1 h2
    rw [h1] at h2; cases h2; exact Foot.le_refl _
  | _ => simp only [foot, sfoot, Option.some.injEq] at h1 h2; subst h1; subst h2; exact Foot.le_refl _
def wantH (ops : Array Oper) (k : Nat) (env : Env) (o : Oper) (A : Gs) : Option (GR Bool) :=
  match o.guard with
  | none => some ⟨true, A, []⟩
  | some (j, want) => match (ops[j]?).bind (·.dst) with
    | some t => match env t with
      | .tup _ => some ⟨false, A, []⟩
      | .bool b => match headG k A with
        | some (.gb b') => some ⟨b' == want, tailG A, [b = b']⟩
        | _ => some ⟨b == want, A, []⟩
      | _ => none
    | none => none
theorem wantH_ok {ops : Array Oper} {k : Nat} {env : Env} {o : Oper} {A : Gs} {q : GR Bool} (e : wantH ops k env o A = some q) (ho : All q.owes) : wantedA ops env o = some q.r := by
  unfold wantH at e
  unfold wantedA
  cases hg : o.guard with
  | none => rw [hg] at e; cases e; rfl
  | some g =>
    obtain ⟨j, want⟩ := g
    rw [hg] at e
    simp only at e ⊢
    cases ht : (ops[j]?).bind (·.dst) with
    | none => rw [ht] at e; cases e
    | some t =>
      rw [ht] at e
      simp only at e ⊢
      cases hv : env t with
      | tup vs => rw [hv] at e; cases e; rfl
      | bool b =>
        rw [hv] at e
        simp only at e ⊢
        split at e
        · cases e; rw [ho.1]
        · cases e; rfl
      | _ => rw [hv] at e; cases e
structure TRH where
  l : List Ent
  out : Out
  rest : Gs
  owes : List Prop
def consT (e : Ent) (ps : List Prop) : Option TRH → Option TRH
  | some t => some ⟨e :: t.l, t.out, t.rest, ps ++ t.owes⟩
  | none => none
def traceH (X : Ctx) (call : Call) (f : FuncId) (ops : Array Oper) : List Oper → Nat → FS → Heap → Gs → Option TRH
  | [], _, s, h, A => some ⟨[], .cont s h, A, []⟩
  | o :: os, k, s, h, A => match wantH ops k s.env o A with
    | some ⟨w, A1, ps⟩ => cond w
        (match foot X f s.env o with
         | some ft => match stepH X call f k s h o A1 with
           | some ⟨.cont s' h', A2, ps2⟩ => consT ⟨o, ft, s, h, s', h'⟩ (ps ++ ps2) (traceH X call f ops os (k + 1) s' h' A2)
           | some ⟨.panic v s' h', A2, ps2⟩ => some ⟨[⟨o, ft, s, h, s, h⟩], .panic v s' h', A2, ps ++ ps2⟩
           | none => none
         | none => none)
        (match s.put o.dst undefA with
         | some s' => consT ⟨o, ⟨false, false, false⟩, s, h, s', h⟩ ps (traceH X call f ops os (k + 1) s' h A1)
         | none => none)
    | none => none
def sameH (X : Ctx) (f : FuncId) (A : Ent) (boxes : List (List AVal)) (h : Heap) : List Prop :=
  match A.o.dst with
  | some d => cond (isVal X f A.o && Nat.blt d A.s.n) [owesVal X { A.s with boxes := boxes } h A.o.op (A.s'.env d), beqA (A.s'.env d) (A.s'.env d) = true] [False]
  | none => [False]
def pairH (X : Ctx) (f : FuncId) (A B : Ent) : List Prop :=
  cond (clash A.ft B.ft) (cond A.ft.w [False] (sameH X f A B.s.boxes B.h ++ sameH X f A B.s'.boxes B.h')) []
def pairsH (X : Ctx) (f : FuncId) (l : List Ent) : List (Nat × Nat) → List Prop
  | [] => []
  | (i, j) :: r => (match l[i]?, l[j]? with
    | some A, some B => pairH X f A B
    | _, _ => []) ++ pairsH X f l r
def drawH (X : Ctx) (call : Call) (f : FuncId) (ops : Array Oper) (k : Nat) (s : FS) (h : Heap) (A : Gs) : Option (GR Out) :=
  match badPairs X f ops with
  | some bad => match traceH X call f ops ops.toList k s h A with
    | some ⟨l, out, A', ps⟩ => match out with
      | .cont s' h' => some ⟨.cont s' h', A', ps ++ pairsH X f l bad⟩
      | .panic v s' h' => cond (s.defs.isEmpty && (match l[l.length - 1]? with | some A => A.ft.h && A.ft.w | none => false) && ((masksOf ops.toList []).drop l.length).all fun m => m.testBit (l.length - 1)) (some ⟨.panic v s' h', A', ps ++ pairsH X f l bad⟩) none
    | none => none
  | none => none
variable {X : Ctx} {call : Call} {f : FuncId} {s : FS} {h : Heap} {A : Gs} {ops : Array Oper}
theorem sameH_ok {E : Ent} {boxes : List (List AVal)} {h : Heap} (ho : All (sameH X f E boxes h)) : sameAt X call f E boxes h = true := by
  unfold sameH at ho
  unfold sameAt
  cases hd : E.o.dst with
  | none => rw [hd] at ho; exact ho.1.elim
  | some d =>
    rw [hd] at ho
    simp only at ho
    cases hc : (isVal X f E.o && Nat.blt d E.s.n) with
    | false => rw [hc] at ho; exact ho.1.elim
    | true =>
      rw [hc] at ho
      simp only [Bool.and_eq_true] at hc
      obtain ⟨h1, h2, _⟩ := ho
      rw [isVal_step hc.1, owesVal_ok h1]
      simp only [cont?, FS.put, hd]
      rw [show Nat.blt d ({ E.s with boxes := boxes } : FS).n = true from hc.2]
      simp only [cond_true]
      simpa [setE] using h2
theorem pairH_ok {masks : List Nat} {i j : Nat} {A B : Ent} (ho : All (pairH X f A B)) : pairOK X call f masks i A j B = true := by
  unfold pairH at ho
  unfold pairOK
  cases hc : clash A.ft B.ft with
  | false => rfl
  | true =>
    rw [hc] at ho
    simp only [cond_true] at ho ⊢
    cases hw : A.ft.w with
    | true => rw [hw] at ho; exact ho.1.elim
    | false =>
      rw [hw] at ho
      simp only [cond_false] at ho
      obtain ⟨h1, h2⟩ := All.app ho
      rw [sameH_ok h1, sameH_ok h2]
      simp
theorem pairsH_ok {l : List Ent} : ∀ {bad : List (Nat × Nat)}, All (pairsH X f l bad) → ∀ i j A B, (i, j) ∈ bad → l[i]? = some A → l[j]? = some B → All (pairH X f A B)
  | [], _, i, j, A, B, hm, _, _ => by cases hm
  | (i', j') :: r, ho, i, j, A, B, hm, hA, hB => by
    obtain ⟨h1, h2⟩ := All.app ho
    rcases List.mem_cons.1 hm with e | hm
    · cases e; rw [hA, hB] at h1; exact h1
    · exact pairsH_ok h2 i j A B hm hA hB
theorem traceH_ok : ∀ (os : List Oper) (k : Nat) (s : FS) (h : Heap) (A : Gs) (t : TRH) (fs : List Foot), mapO (sfoot X f) os = some fs → traceH X call f ops os k s h A = some t → All t.owes →
    trace X call f ops os s h = some (t.l, t.out) ∧ ∀ (i : Nat) E, t.l[i]? = some E → ∃ sf, fs[i]? = some sf ∧ E.ft.le sf
  | [], k, s, h, A, t, fs, hf, e, _ => by cases e; exact ⟨rfl, fun i E hi => by simp at hi⟩
  | o :: os, k, s, h, A, t, fs, hf, e, ho => by
    obtain ⟨sf, fs', e1, e2, rfl⟩ : ∃ sf fs', sfoot X f o = some sf ∧ mapO (sfoot X f) os = some fs' ∧ fs = sf :: fs' := by
      simp only [mapO] at hf
      cases h1 : sfoot X f o with
      | none => rw [h1] at hf; cases hf
      | some sf =>
        rw [h1] at hf
        cases h2 : mapO (sfoot X f) os with
        | none => rw [h2] at hf; cases hf
        | some fs' => rw [h2] at hf; cases hf; exact ⟨sf, fs', rfl, rfl, rfl⟩
    unfold traceH at e
    unfold trace
    have fin : ∀ {E : Ent} {ps : List Prop} {q : Option TRH}, consT E ps q = some t → ∃ t', q = some t' ∧ t.l = E :: t'.l ∧ t.out = t'.out ∧ (All ps ∧ All t'.owes) := by
      intro E ps q hq
      cases q with
      | none => cases hq
      | some t' => cases hq; exact ⟨t', rfl, rfl, rfl, All.app ho⟩
    split at e
    · rename_i w A1 ps hw
      cases w with
      | true =>
        simp only [cond_true] at e
        split at e
        · rename_i ft hft
          split at e
          · rename_i s' h' A2 ps2 hs
            obtain ⟨t', h1, h2, h3, h4, h5⟩ := fin e
            obtain ⟨h6, h7⟩ := All.app h4
            rw [wantH_ok hw h6]
            simp only [hft, stepH_ok hs h7]
            obtain ⟨k1, k2⟩ := traceH_ok os _ s' h' A2 t' fs' e2 h1 h5
            refine ⟨by rw [k1, h2, h3], fun i E hi => ?_⟩
            rw [h2] at hi
            cases i with
            | zero => simp at hi; subst hi; exact ⟨sf, rfl, foot_le hft e1⟩
            | succ i => exact k2 i E (by simpa using hi)
          · rename_i v s' h' A2 ps2 hs
            cases e
            obtain ⟨h6, h7⟩ := All.app ho
            rw [wantH_ok hw h6]
            simp only [hft, stepH_ok hs h7]
            refine ⟨trivial, fun i E hi => ?_⟩
            cases i with
            | zero => simp at hi; subst hi; exact ⟨sf, rfl, foot_le hft e1⟩
            | succ i => simp at hi
          · cases e
        · cases e
      | false =>
        simp only [cond_false] at e
        split at e
        · rename_i s' hs
          obtain ⟨t', h1, h2, h3, h4, h5⟩ := fin e
          rw [wantH_ok hw h4]
          simp only [hs]
          obtain ⟨k1, k2⟩ := traceH_ok os _ s' h A1 t' fs' e2 h1 h5
          refine ⟨by rw [k1, h2, h3], fun i E hi => ?_⟩
          rw [h2] at hi
          cases i with
          | zero => simp at hi; subst hi; exact ⟨sf, rfl, Foot.none_le _⟩
          | succ i => exact k2 i E (by simpa using hi)
        · cases e
    · cases e
theorem drawH_ok {k : Nat} {q : GR Out} (e : drawH X call f ops k s h A = some q) (ho : All q.owes) : runDraw X call f ops s h = some q.r := by
  unfold drawH at e
  cases hb : badPairs X f ops with
  | none => rw [hb] at e; cases e
  | some bad =>
    rw [hb] at e
    unfold badPairs at hb
    cases hm : mapO (sfoot X f) ops.toList with
    | none => rw [hm] at hb; cases hb
    | some fs =>
      rw [hm] at hb
      cases hb
      simp only at e
      split at e
      · rename_i l out A' ps ht
        have key : All (ps ++ pairsH X f l (badOf (masksOf ops.toList []) fs)) → trace X call f ops ops.toList s h = some (l, out) ∧
            allI (fun i A => allI (fun j B => pairOK X call f (masksOf ops.toList []) i A j B) l 0) l 0 = true := by
          intro ho
          obtain ⟨o1, o2⟩ := All.app ho
          obtain ⟨k1, k2⟩ := traceH_ok _ _ _ _ _ _ _ hm ht o1
          refine ⟨k1, allI_of fun i A hA => allI_of fun j B hB => ?_⟩
          simp only [Nat.zero_add]
          cases hc : clash A.ft B.ft with
          | false => simp only [pairOK, hc, cond_false]
          | true =>
            obtain ⟨a, a1, a2⟩ := k2 i A hA
            obtain ⟨b, b1, b2⟩ := k2 j B hB
            rcases badOf_spec (masks := masksOf ops.toList []) a1 b1 (clash_le a2 b2 hc) with h3 | h3
            · simp only [pairOK, hc, cond_true, h3, Bool.true_or]
            · exact pairH_ok (pairsH_ok o2 i j A B h3 hA hB)
        split at e
        · rename_i s' h'
          cases e
          obtain ⟨k1, k2⟩ := key ho
          unfold runDraw
          simp only [k1, k2, cond_true]
        · rename_i v s' h'
          have sel : ∀ (c : Bool) (o : Option (GR Out)), cond c o none = some q → c = true ∧ o = some q := fun c o h => by
            cases c with
            | true => exact ⟨rfl, h⟩
            | false => cases h
          obtain ⟨c1, c2⟩ := sel _ _ e
          cases c2
          obtain ⟨k1, k2⟩ := key ho
          unfold runDraw
          simp only [k1, k2, cond_true]
          have sel' : ∀ (c : Bool) (o : Option Out), c = true → cond c o none = o := fun c o h => by rw [h]; rfl
          exact sel' _ _ c1
      · cases e
structure CR where
  r : Res
  k : Nat
  rest : Gs
  owes : List Prop
def ofOutG (k : Nat) : Option (GR Out) → Option CR
  | some ⟨.cont s h, A, ps⟩ => some ⟨(.normal, s, h), k, A, ps⟩
  | some ⟨.panic v s h, A, ps⟩ => some ⟨(.panic v, s, h), k, A, ps⟩
  | none => none
def addC (ps : List Prop) : Option CR → Option CR
  | some q => some ⟨q.r, q.k, q.rest, ps ++ q.owes⟩
  | none => none
def runH (X : Ctx) (call : Call) (f : FuncId) (fuel : Nat) : Code → Nat → FS → Heap → Gs → Option CR
  | .skip, k, s, h, A => some ⟨(.normal, s, h), k, A, []⟩
  | .region _ ops draw, k, s, h, A => ofOutG (k + ops.size) (cond draw (drawH X call f ops k s h A) (runOpsH X call f ops ops.toList k s h A))
  | .seq a b, k, s, h, A => match runH X call f fuel a k s h A with
    | some ⟨(.normal, s', h'), k', A', ps⟩ => addC ps (runH X call f fuel b k' s' h' A')
    | r => r
  | .cond c a b, k, s, h, A => match opnd s.env c with
    | some (.bool t) => match headG k A with
      | some (.cb t') => addC [t = t'] (cond t' (runH X call f fuel a (k + 1) s h (tailG A)) (runH X call f fuel b (k + 1) s h (tailG A)))
      | _ => cond t (runH X call f fuel a (k + 1) s h A) (runH X call f fuel b (k + 1) s h A)
    | _ => none
  | .block id a, k, s, h, A => match runH X call f fuel a k s h A with
    | some ⟨(.exit j, s', h'), k', A', ps⟩ => some ⟨(cond (Nat.beq j id) .normal (.exit j), s', h'), k', A', ps⟩
    | r => r
  | .loop a, k, s, h, A => match headG k A with
    | some (.lp r) => some ⟨r, k + 1, tailG A, [loopN fuel (run X call f fuel a) s h = some r]⟩
    | _ => none
  | .exit id, k, s, h, A => some ⟨(.exit id, s, h), k, A, []⟩
  | .ret, k, s, h, A => some ⟨(.ret, s, h), k, A, []⟩
  | _, _, _, _, _ => none
theorem ofOutG_ok {k : Nat} {g : Option (GR Out)} {q : CR} (e : ofOutG k g = some q) : ∃ p, g = some p ∧ p.owes = q.owes ∧ ofOut (some p.r) = some q.r := by
  cases g with
  | none => cases e
  | some p =>
    obtain ⟨out, A, ps⟩ := p
    cases out <;> (cases e; exact ⟨_, rfl, rfl, rfl⟩)
theorem addC_ok {ps : List Prop} {g : Option CR} {q : CR} (e : addC ps g = some q) (ho : All q.owes) : ∃ p, g = some p ∧ All ps ∧ All p.owes ∧ p.r = q.r := by
  cases g with
  | none => cases e
  | some p => cases e; obtain ⟨h1, h2⟩ := All.app ho; exact ⟨p, rfl, h1, h2, rfl⟩
theorem runH_ok (fuel : Nat) : ∀ (c : Code) (k : Nat) (s : FS) (h : Heap) (A : Gs) (q : CR), runH X call f fuel c k s h A = some q → All q.owes → run X call f fuel c s h = some q.r
  | .skip, k, s, h, A, q, e, _ => by cases e; rfl
  | .exit id, k, s, h, A, q, e, _ => by cases e; rfl
  | .ret, k, s, h, A, q, e, _ => by cases e; rfl
  | .region id ops draw, k, s, h, A, q, e, ho => by
    unfold runH at e
    unfold run
    obtain ⟨p, h1, h2, h3⟩ := ofOutG_ok e
    rw [← h2] at ho
    cases draw with
    | true => simp only [cond_true] at h1 ⊢; rw [drawH_ok h1 ho]; exact h3
    | false => simp only [cond_false] at h1 ⊢; rw [runOpsH_ok _ _ _ _ _ _ h1 ho]; exact h3
  | .seq a b, k, s, h, A, q, e, ho => by
    unfold runH at e
    unfold run
    split at e
    · rename_i s' h' k' A' ps ha
      obtain ⟨p, h1, h2, h3, h4⟩ := addC_ok e ho
      rw [runH_ok fuel a _ _ _ _ _ ha h2]
      simp only
      rw [← h4]
      exact runH_ok fuel b _ _ _ _ _ h1 h3
    · rename_i r hne
      have := runH_ok fuel a _ _ _ _ _ e ho
      rw [this]
      obtain ⟨⟨ex, s', h'⟩, k', A', ps⟩ := q
      cases ex with
      | normal => exact (hne _ _ _ _ _ e).elim
      | _ => rfl
  | .cond c a b, k, s, h, A, q, e, ho => by
    unfold runH at e
    unfold run
    split at e
    · rename_i t ht
      rw [ht]
      have plain : ∀ {A : Gs} {q : CR} (t : Bool), cond t (runH X call f fuel a (k + 1) s h A) (runH X call f fuel b (k + 1) s h A) = some q → All q.owes →
          (match (some (AVal.bool t)) with | some (.bool true) => run X call f fuel a s h | some (.bool false) => run X call f fuel b s h | _ => none) = some q.r := by
        intro A q t e ho
        cases t with
        | true => exact runH_ok fuel a _ _ _ _ _ e ho
        | false => exact runH_ok fuel b _ _ _ _ _ e ho
      split at e
      · rename_i t' _
        obtain ⟨p, h1, h2, h3, h4⟩ := addC_ok e ho
        obtain ⟨h2, _⟩ := h2
        subst h2
        rw [← h4]
        exact plain _ h1 h3
      · exact plain _ e ho
    · cases e
  | .block id a, k, s, h, A, q, e, ho => by
    unfold runH at e
    unfold run
    split at e
    · rename_i j s' h' k' A' ps ha
      cases e
      rw [runH_ok fuel a _ _ _ _ _ ha ho]
      simp only
      cases Nat.beq j id <;> rfl
    · rename_i r hne
      have := runH_ok fuel a _ _ _ _ _ e ho
      rw [this]
      obtain ⟨⟨ex, s', h'⟩, k', A', ps⟩ := q
      cases ex with
      | exit j => exact (hne _ _ _ _ _ _ e).elim
      | _ => rfl
  | .loop a, k, s, h, A, q, e, ho => by
    unfold runH at e
    unfold run
    split at e
    · cases e; exact ho.1
    · cases e
  | .rangeFunc .., k, s, h, A, q, e, _ => by cases e
  | .scope _, k, s, h, A, q, e, _ => by cases e
  | .label _, k, s, h, A, q, e, _ => by cases e
  | .goto _, k, s, h, A, q, e, _ => by cases e
  | .refuse _, k, s, h, A, q, e, _ => by cases e
end Go.Den
namespace Go.Den
open Go
def resH (X : Ctx) (fn : Func) (f : FuncId) (s : FS) (h : Heap) : Option ((ARes × Heap) × List Prop) :=
  match fn.results.toList with
  | [] => some ((.ret (.tup []), h), [X.cfg.pureF f = false])
  | [.tmp t] => some ((.ret (s.env t).stripA, h), [X.cfg.pureF f = false, X.cfg.freeze f = false, (s.env t).isLoc = false])
  | _ => match results X fn f s h with
    | some r => some (r, [])
    | none => none
def finH (X : Ctx) (fn : Func) (f : FuncId) (s : FS) (h : Heap) (ps : List Prop) : Option (List Prop × ARes × Heap) :=
  match s.defs with
  | [] => match resH X fn f s h with
    | some (r, qs) => some (ps ++ qs, r)
    | none => none
  | _ => none
def endH (X : Ctx) (fn : Func) (f : FuncId) : Option CR → Option (List Prop × ARes × Heap)
  | some ⟨(.normal, s, h), _, _, ps⟩ => finH X fn f s h ps
  | some ⟨(.ret, s, h), _, _, ps⟩ => finH X fn f s h ps
  | some ⟨(.panic v, s, h), _, _, ps⟩ => match s.defs with
    | [] => some (ps, .panic v, h)
    | _ => none
  | _ => none
def bodyH (X : Ctx) (call : Call) (n : Nat) (fn : Func) (f : FuncId) (args : List AVal) (h : Heap) (A : Gs) : Option (List Prop × ARes × Heap) :=
  match fn.body with
  | some c => cond (Nat.ble args.length fn.ntmps) (endH X fn f (runH X call f n c 0 { env := envOf args, boxes := [], n := fn.ntmps, defs := [] } h A)) none
  | none => none
variable {X : Ctx} {call : Call} {f : FuncId} {h : Heap} {A : Gs}
theorem resH_ok {fn : Func} {s : FS} {r : ARes × Heap} {qs : List Prop} (e : resH X fn f s h = some (r, qs)) (ho : All qs) : results X fn f s h = some r := by
  unfold resH at e
  split at e
  · rename_i hr
    cases e
    simp only [results, ho.1, cond_false, hr, mapO, handBack]
  · rename_i t hr
    cases e
    obtain ⟨h1, h2, h3, _⟩ := ho
    simp only [results, h1, cond_false, hr, mapO, resultOf, h3, handBack, h2]
  · split at e
    · rename_i r' hr; cases e; exact hr
    · cases e
theorem bodyH_ok {n : Nat} {fn : Func} {args : List AVal} {ps : List Prop} {r : ARes × Heap} (hfn : X.P.funcs[f]? = some fn) (e : bodyH X call n fn f args h A = some (ps, r)) (ho : All ps) : body X call n f args h = some r := by
  unfold bodyH at e
  unfold body
  simp only [hfn]
  split at e
  · rename_i c hc
    simp only [hc]
    cases hle : Nat.ble args.length fn.ntmps with
    | false => rw [hle] at e; cases e
    | true =>
      rw [hle, cond_true] at e
      simp only [cond_true]
      cases hq : runH X call f n c 0 { env := envOf args, boxes := [], n := fn.ntmps, defs := [] } h A with
      | none => rw [hq] at e; cases e
      | some q =>
        rw [hq] at e
        obtain ⟨⟨ex, s', h'⟩, k, A', qs⟩ := q
        have fin : finH X fn f s' h' qs = some (ps, r) → All qs ∧ s'.defs = [] ∧ results X fn f s' h' = some r := by
          intro e
          unfold finH at e
          split at e
          · rename_i hd
            split at e
            · rename_i r' ts hr
              cases e
              obtain ⟨o1, o2⟩ := All.app ho
              exact ⟨o1, hd, resH_ok hr o2⟩
            · cases e
          · cases e
        cases ex with
        | normal =>
          obtain ⟨o1, o2, o3⟩ := fin e
          rw [runH_ok n c 0 _ h A _ hq o1]
          simp only [o2]
          exact o3
        | ret =>
          obtain ⟨o1, o2, o3⟩ := fin e
          rw [runH_ok n c 0 _ h A _ hq o1]
          simp only [o2]
          exact o3
        | panic v =>
          simp only [endH] at e
          split at e
          · rename_i hd
            cases e
            rw [runH_ok n c 0 _ h A _ hq ho]
            simp only [hd]
          · cases e
        | exit i => cases e
  · cases e
end Go.Den
namespace Go.Den
open Go
def Evn (P : Prims) (p : Call → Nat → Prop) : Prop := ∃ n0, ∀ n, n0 ≤ n → p (den XK P n) n
def Ev (P : Prims) (f : FuncId) (args : List AVal) (h : Heap) (r : ARes) (h' : Heap) : Prop := Evn P fun call _ => call f args h = some (r, h')
variable {P : Prims}
theorem Evn.const {p : Prop} (hp : p) : Evn P fun _ _ => p := ⟨0, fun _ _ => hp⟩
theorem Evn.nil : Evn P fun _ _ => All [] := ⟨0, fun _ _ => trivial⟩
theorem Evn.cons {p : Call → Nat → Prop} {ps : Call → Nat → List Prop} (h1 : Evn P p) (h2 : Evn P fun call n => All (ps call n)) : Evn P fun call n => All (p call n :: ps call n) := by
  obtain ⟨a, ha⟩ := h1
  obtain ⟨b, hb⟩ := h2
  exact ⟨max a b, fun n hn => ⟨ha n (by omega), hb n (by omega)⟩⟩
theorem Evn.consC {p : Prop} {ps : Call → Nat → List Prop} (h1 : p) (h2 : Evn P fun call n => All (ps call n)) : Evn P fun call n => All (p :: ps call n) := Evn.cons (Evn.const h1) h2
theorem Evn.mono {p q : Call → Nat → Prop} (h : Evn P p) (hpq : ∀ call n, p call n → q call n) : Evn P q := by
  obtain ⟨a, ha⟩ := h
  exact ⟨a, fun n hn => hpq _ _ (ha n hn)⟩
theorem Evn.and {p q : Call → Nat → Prop} (h1 : Evn P p) (h2 : Evn P q) : Evn P fun call n => p call n ∧ q call n := by
  obtain ⟨a, ha⟩ := h1
  obtain ⟨b, hb⟩ := h2
  exact ⟨max a b, fun n hn => ⟨ha n (by omega), hb n (by omega)⟩⟩
theorem ev_body {f : FuncId} {args : List AVal} {h : Heap} {r : ARes} {h' : Heap} (hp : P f = none) (hb : Evn P fun call n => body XK call n f args h = some (r, h')) : Ev P f args h r h' := by
  obtain ⟨a, ha⟩ := hb
  refine ⟨a + 1, fun n hn => ?_⟩
  obtain ⟨m, rfl⟩ : ∃ m, n = m + 1 := ⟨n - 1, by omega⟩
  show den XK P (m + 1) f args h = _
  unfold den
  rw [hp]
  exact ha m (by omega)
theorem ev_path {f : FuncId} {args : List AVal} {h : Heap} {r : ARes} {h' : Heap} {o : Call → Nat → List Prop} (hp : P f = none) (hs : ∀ call n, All (o call n) → body XK call n f args h = some (r, h'))
    (ho : Evn P fun call n => All (o call n)) : Ev P f args h r h' := ev_body hp (ho.mono hs)
theorem ev_prim {f : FuncId} {args : List AVal} {h : Heap} {r : ARes} {h' : Heap} {p : List AVal → Heap → Option (ARes × Heap)} (hp : P f = some p) (hr : p args h = some (r, h')) : Ev P f args h r h' := by
  refine ⟨1, fun n hn => ?_⟩
  obtain ⟨m, rfl⟩ : ∃ m, n = m + 1 := ⟨n - 1, by omega⟩
  show den XK P (m + 1) f args h = _
  unfold den
  rw [hp]
  exact hr
theorem Ev.det {f : FuncId} {args : List AVal} {h : Heap} {r r' : ARes} {h1 h2 : Heap} (a : Ev P f args h r h1) (b : Ev P f args h r' h2) : r = r' ∧ h1 = h2 := by
  obtain ⟨m, hm⟩ := a
  obtain ⟨n, hn⟩ := b
  have e1 : den XK P (max m n) f args h = some (r, h1) := hm (max m n) (by omega)
  have e2 : den XK P (max m n) f args h = some (r', h2) := hn (max m n) (by omega)
  rw [e1] at e2
  cases e2
  exact ⟨rfl, rfl⟩
end Go.Den
namespace Go.Den
open Go
abbrev Facts := List (Nat × AVal)
def Has (E : Env) : Facts → Prop
  | [] => True
  | (t, v) :: r => E t = v ∧ Has E r
def putF (E : Env) : Facts → Env
  | [] => E
  | (t, v) :: r => setE (putF E r) t v
theorem setE_same {E : Env} {t : Nat} {v : AVal} (h : E t = v) : setE E t v = E := by
  funext x
  unfold setE
  cases hx : Nat.beq x t with
  | true => rw [Nat.eq_of_beq_eq_true hx, h]; rfl
  | false => rfl
theorem putF_has {E : Env} : ∀ {l : Facts}, Has E l → putF E l = E
  | [], _ => rfl
  | (t, v) :: r, h => by
    unfold putF
    rw [putF_has h.2]
    exact setE_same h.1
structure Bxs where
  l : List (List AVal)
  more : Bool
def Bxs.ok : Bxs → List (List AVal) → Prop
  | ⟨l, true⟩, B => ∃ J, B = l ++ J
  | ⟨l, false⟩, B => B = l
abbrev Dfs := List (FuncId × List AVal)
structure At (l : Facts) (bx : Bxs) (n : Nat) (d : Dfs) (s : FS) : Prop where
  bx : bx.ok s.boxes
  n : s.n = n
  d : s.defs = d
  env : Has s.env l
def stL (E : Env) (l : Facts) (B : List (List AVal)) (n : Nat) (d : Dfs) : FS := { env := putF E l, boxes := B, n := n, defs := d }
theorem At.eq {l : Facts} {bx : Bxs} {n : Nat} {d : Dfs} {s : FS} (h : At l bx n d s) : s = stL s.env l s.boxes n d := by
  cases s
  have h1 := h.n; have h2 := h.d; have h3 := putF_has h.env
  simp only at h1 h2 h3
  subst h1; subst h2
  simp only [stL, h3]
def RunEv (P : Prims) (f : FuncId) (c : Code) (n : Nat) (d : Dfs) (l : Facts) (bx : Bxs) (H : Heap) (ex : AExit) (d' : Dfs) (l' : Facts) (bx' : Bxs) (H' : Heap) : Prop :=
  ∃ n0, ∀ m, n0 ≤ m → ∀ s, At l bx n d s → ∃ s', At l' bx' n d' s' ∧ run XK (den XK P m) f m c s H = some (ex, s', H')
variable {P : Prims} {f : FuncId} {n : Nat} {d d' d₁ : Dfs} {l l' l₁ : Facts} {bx bx' bx₁ : Bxs} {H H' H₁ : Heap} {ex : AExit} {c a b : Code}
def cdA : Code → Code
  | .seq a _ => a
  | .cond _ a _ => a
  | .block _ a => a
  | .loop a => a
  | c => c
def cdB : Code → Code
  | .seq _ b => b
  | .cond _ _ b => b
  | c => c
def cdT : Code → Nat
  | .cond (.tmp t) _ _ => t
  | .block id _ => id
  | _ => 0
def isSeq : Code → Bool | .seq _ _ => true | _ => false
def isCond : Code → Bool | .cond (.tmp _) _ _ => true | _ => false
def isBlock : Code → Bool | .block _ _ => true | _ => false
def isLoop : Code → Bool | .loop _ => true | _ => false
def bodyOf (fn : Func) : Code := fn.body.getD .skip
theorem run_seq (hc : isSeq c = true) (h1 : RunEv P f (cdA c) n d l bx H .normal d₁ l₁ bx₁ H₁) (h2 : RunEv P f (cdB c) n d₁ l₁ bx₁ H₁ ex d' l' bx' H') : RunEv P f c n d l bx H ex d' l' bx' H' := by
  cases c <;> first | (cases hc; done) | skip
  obtain ⟨x, hx⟩ := h1
  obtain ⟨y, hy⟩ := h2
  refine ⟨max x y, fun m hm s hs => ?_⟩
  obtain ⟨s1, a1, e1⟩ := hx m (by omega) s hs
  obtain ⟨s2, a2, e2⟩ := hy m (by omega) s1 a1
  refine ⟨s2, a2, ?_⟩
  simp only [cdA, cdB] at e1 e2
  simp only [run, e1, e2]
theorem run_seq_out (hc : isSeq c = true) (hne : ex ≠ .normal) (h1 : RunEv P f (cdA c) n d l bx H ex d' l' bx' H') : RunEv P f c n d l bx H ex d' l' bx' H' := by
  cases c <;> first | (cases hc; done) | skip
  obtain ⟨x, hx⟩ := h1
  refine ⟨x, fun m hm s hs => ?_⟩
  obtain ⟨s1, a1, e1⟩ := hx m hm s hs
  refine ⟨s1, a1, ?_⟩
  simp only [cdA] at e1
  simp only [run, e1]
  cases ex <;> first | rfl | exact (hne rfl).elim
theorem run_block (hc : isBlock c = true) (h1 : RunEv P f (cdA c) n d l bx H (.exit (cdT c)) d' l' bx' H') : RunEv P f c n d l bx H .normal d' l' bx' H' := by
  cases c <;> first | (cases hc; done) | skip
  obtain ⟨x, hx⟩ := h1
  refine ⟨x, fun m hm s hs => ?_⟩
  obtain ⟨s1, a1, e1⟩ := hx m hm s hs
  refine ⟨s1, a1, ?_⟩
  simp only [cdA, cdT] at e1
  simp only [run, e1, Nat.beq_refl, cond_true]
theorem run_block_thru (hc : isBlock c = true) (hne : ∀ j, ex = .exit j → Nat.beq j (cdT c) = false) (h1 : RunEv P f (cdA c) n d l bx H ex d' l' bx' H') : RunEv P f c n d l bx H ex d' l' bx' H' := by
  cases c <;> first | (cases hc; done) | skip
  obtain ⟨x, hx⟩ := h1
  refine ⟨x, fun m hm s hs => ?_⟩
  obtain ⟨s1, a1, e1⟩ := hx m hm s hs
  refine ⟨s1, a1, ?_⟩
  simp only [cdA, cdT] at e1 hne
  simp only [run, e1]
  cases ex with
  | exit j => simp only [hne j rfl, cond_false]
  | _ => rfl
theorem run_condT (hc : isCond c = true) (ht : ∀ E, Has E l → E (cdT c) = .bool true) (h1 : RunEv P f (cdA c) n d l bx H ex d' l' bx' H') : RunEv P f c n d l bx H ex d' l' bx' H' := by
  cases c with
  | cond x _ _ =>
    cases x with
    | tmp t =>
      obtain ⟨x, hx⟩ := h1
      refine ⟨x, fun m hm s hs => ?_⟩
      obtain ⟨s1, a1, e1⟩ := hx m hm s hs
      refine ⟨s1, a1, ?_⟩
      simp only [cdA, cdT] at e1 ht
      simp only [run, opnd, ht _ hs.env]
      exact e1
    | _ => cases hc
  | _ => cases hc
theorem run_condF (hc : isCond c = true) (ht : ∀ E, Has E l → E (cdT c) = .bool false) (h1 : RunEv P f (cdB c) n d l bx H ex d' l' bx' H') : RunEv P f c n d l bx H ex d' l' bx' H' := by
  cases c with
  | cond x _ _ =>
    cases x with
    | tmp t =>
      obtain ⟨x, hx⟩ := h1
      refine ⟨x, fun m hm s hs => ?_⟩
      obtain ⟨s1, a1, e1⟩ := hx m hm s hs
      refine ⟨s1, a1, ?_⟩
      simp only [cdB, cdT] at e1 ht
      simp only [run, opnd, ht _ hs.env]
      exact e1
    | _ => cases hc
  | _ => cases hc
theorem Bxs.toMore {l : List (List AVal)} {B : List (List AVal)} (h : Bxs.ok ⟨l, false⟩ B) : Bxs.ok ⟨l, true⟩ B := ⟨[], by rw [h]; simp⟩
theorem run_mono {l0 l0' : Facts} {bx0 bx0' : Bxs} (hl : ∀ E, Has E l0 → Has E l) (hb : ∀ B, bx0.ok B → bx.ok B) (hl' : ∀ E, Has E l' → Has E l0') (hb' : ∀ B, bx'.ok B → bx0'.ok B)
    (h : RunEv P f c n d l bx H ex d' l' bx' H') : RunEv P f c n d l0 bx0 H ex d' l0' bx0' H' := by
  obtain ⟨x, hx⟩ := h
  refine ⟨x, fun m hm s hs => ?_⟩
  obtain ⟨s1, a1, e1⟩ := hx m hm s ⟨hb _ hs.bx, hs.n, hs.d, hl _ hs.env⟩
  exact ⟨s1, ⟨hb' _ a1.bx, a1.n, a1.d, hl' _ a1.env⟩, e1⟩
theorem run_pre {l0 : Facts} {bx0 : Bxs} (hl : ∀ E, Has E l0 → Has E l) (hb : ∀ B, bx0.ok B → bx.ok B) (h : RunEv P f c n d l bx H ex d' l' bx' H') : RunEv P f c n d l0 bx0 H ex d' l' bx' H' :=
  run_mono hl hb (fun _ h => h) (fun _ h => h) h
theorem run_any (h : RunEv P f c n d l bx H ex d' l' bx' H') : RunEv P f c n d l bx H ex d' l' ⟨[], true⟩ H' := run_mono (fun _ h => h) (fun _ h => h) (fun _ h => h) (fun B _ => ⟨B, rfl⟩) h
def LoopEv (P : Prims) (f : FuncId) (c : Code) (n : Nat) (d : Dfs) (l : Facts) (bx : Bxs) (H : Heap) (ex : AExit) (d' : Dfs) (l' : Facts) (bx' : Bxs) (H' : Heap) : Prop :=
  ∃ n0, ∀ m k, n0 ≤ m → n0 ≤ k → ∀ s, At l bx n d s → ∃ s', At l' bx' n d' s' ∧ loopN k (run XK (den XK P m) f m c) s H = some (ex, s', H')
theorem tabF_get {env : Env} : ∀ (n : Nat) (acc : List AVal) (x : Nat), x < n → (tab env n acc)[x]? = some (env x)
  | 0, _, _, h => by omega
  | n + 1, acc, x, h => by
    unfold tab
    by_cases hx : x < n
    · exact tabF_get n _ x hx
    · have : x = n := by omega
      subst this
      have key : ∀ (n : Nat) (acc : List AVal), (tab env n acc) = (List.range n).map env ++ acc := by
        intro n
        induction n with
        | zero => intro acc; rfl
        | succ n ih => intro acc; unfold tab; rw [ih]; simp [List.range_succ]
      rw [key]
      simp
def below (n : Nat) : Facts → Bool
  | [] => true
  | (t, _) :: r => Nat.blt t n && below n r
theorem Has.compact {s : FS} : ∀ {l : Facts}, below s.n l = true → Has s.env l → Has s.compact.env l
  | [], _, _ => trivial
  | (t, v) :: r, hb, h => by
    simp only [below, Bool.and_eq_true] at hb
    refine ⟨?_, Has.compact hb.2 h.2⟩
    show ((tab s.env s.n [])[t]?).getD undefA = v
    rw [tabF_get _ _ _ (Nat.le_of_ble_eq_true hb.1)]
    exact h.1
theorem loop_exit (hne : ex ≠ .normal) (h : RunEv P f a n d l bx H ex d' l' bx' H') : LoopEv P f a n d l bx H ex d' l' bx' H' := by
  obtain ⟨x, hx⟩ := h
  refine ⟨x + 1, fun m k hm hk s hs => ?_⟩
  obtain ⟨k, rfl⟩ : ∃ j, k = j + 1 := ⟨k - 1, by omega⟩
  obtain ⟨s1, a1, e1⟩ := hx m (by omega) s hs
  refine ⟨s1, a1, ?_⟩
  simp only [loopN, e1]
  cases ex <;> first | rfl | exact (hne rfl).elim
theorem loop_next (hb : below n l₁ = true) (h : RunEv P f a n d l bx H .normal d₁ l₁ bx₁ H₁) (h2 : LoopEv P f a n d₁ l₁ bx₁ H₁ ex d' l' bx' H') : LoopEv P f a n d l bx H ex d' l' bx' H' := by
  obtain ⟨x, hx⟩ := h
  obtain ⟨y, hy⟩ := h2
  refine ⟨max x y + 1, fun m k hm hk s hs => ?_⟩
  obtain ⟨k, rfl⟩ : ∃ j, k = j + 1 := ⟨k - 1, by omega⟩
  obtain ⟨s1, a1, e1⟩ := hx m (by omega) s hs
  obtain ⟨s2, a2, e2⟩ := hy m k (by omega) (by omega) s1.compact ⟨a1.bx, a1.n, a1.d, Has.compact (by rw [a1.n]; exact hb) a1.env⟩
  exact ⟨s2, a2, by simp only [loopN, e1, e2]⟩
theorem run_loop {l0 : Facts} {bx0 : Bxs} (hc : isLoop c = true) (hl : ∀ E, Has E l0 → Has E l) (hb : ∀ B, bx0.ok B → bx.ok B) (h : LoopEv P f (cdA c) n d l bx H ex d' l' bx' H') : RunEv P f c n d l0 bx0 H ex d' l' bx' H' := by
  cases c <;> first | (cases hc; done) | skip
  obtain ⟨x, hx⟩ := h
  exact ⟨x, fun m hm s hs => hx m m hm hm s ⟨hb _ hs.bx, hs.n, hs.d, hl _ hs.env⟩⟩
structure SegR where
  ex : AExit
  vs : List AVal
  B : List (List AVal)
  n : Nat
  d : Dfs
  h : Heap
  ps : List Prop
def segH (ts : List Nat) : Option CR → Option SegR
  | some ⟨(ex, s, h), _, _, ps⟩ => some ⟨ex, ts.map s.env, s.boxes, s.n, s.defs, h, ps⟩
  | none => none
theorem has_of_map {E : Env} : ∀ {l : Facts}, (l.map (·.1)).map E = l.map (·.2) → Has E l
  | [], _ => trivial
  | (t, v) :: r, h => by
    simp only [List.map_cons, List.cons.injEq] at h
    exact ⟨h.1, has_of_map h.2⟩
theorem seg_at {call : Call} {m : Nat} {A : Gs} {B : List (List AVal)} {ps : List Prop} {s : FS} (hs : segH (l'.map (·.1)) (runH XK call f m c 0 s H A) = some ⟨ex, l'.map (·.2), B, n, d', H', ps⟩) (hB : bx'.ok B) (ho : All ps) :
    ∃ s', At l' bx' n d' s' ∧ run XK call f m c s H = some (ex, s', H') := by
  cases hq : runH XK call f m c 0 s H A with
  | none => rw [hq] at hs; cases hs
  | some q =>
    rw [hq] at hs
    obtain ⟨⟨ex', s', h'⟩, k, A', qs⟩ := q
    simp only [segH, Option.some.injEq, SegR.mk.injEq] at hs
    obtain ⟨rfl, h2, h3, h4, h5, rfl, h7⟩ := hs
    subst h3; subst h7
    exact ⟨s', ⟨hB, h4, h5, has_of_map h2⟩, runH_ok m c 0 s H A _ hq ho⟩
theorem seg0 {o : Call → Nat → List Prop} {A : Gs} {B B' : List (List AVal)}
    (hs : ∀ call m E, segH (l'.map (·.1)) (runH XK call f m c 0 (stL E l B n d) H A) = some ⟨ex, l'.map (·.2), B', n, d', H', o call m⟩)
    (ho : Evn P fun call m => All (o call m)) : RunEv P f c n d l ⟨B, false⟩ H ex d' l' ⟨B', false⟩ H' := by
  obtain ⟨x, hx⟩ := ho
  refine ⟨x, fun m hm s hsA => ?_⟩
  have hJ := hsA.eq
  have hb : s.boxes = B := hsA.bx
  rw [hb] at hJ
  have h1 := hs (den XK P m) m s.env
  rw [← hJ] at h1
  exact seg_at h1 rfl (hx m hm)
abbrev Ow := Call → Nat → List (List AVal) → List Prop
theorem seg1 {o : Ow} {A : Gs} {B B' : List (List AVal)} {BJ : List (List AVal) → List (List AVal)}
    (hs : ∀ call m E J, segH (l'.map (·.1)) (runH XK call f m c 0 (stL E l (B ++ J) n d) H A) = some ⟨ex, l'.map (·.2), BJ J, n, d', H', o call m J⟩)
    (hB : ∀ J, ∃ J', BJ J = B' ++ J') (ho : Evn P fun call m => ∀ J, All (o call m J)) : RunEv P f c n d l ⟨B, true⟩ H ex d' l' ⟨B', true⟩ H' := by
  obtain ⟨x, hx⟩ := ho
  refine ⟨x, fun m hm s hsA => ?_⟩
  have hJ := hsA.eq
  obtain ⟨J, hb⟩ := hsA.bx
  rw [hb] at hJ
  have h1 := hs (den XK P m) m s.env J
  rw [← hJ] at h1
  exact seg_at h1 (hB J) (hx m hm J)
theorem oNil : Evn P fun _ _ => ∀ _ : List (List AVal), All [] := ⟨0, fun _ _ _ => trivial⟩
theorem oE {p : Call → Nat → Prop} {ps : Ow} (h1 : Evn P p) (h2 : Evn P fun call m => ∀ J, All (ps call m J)) : Evn P fun call m => ∀ J, All (p call m :: ps call m J) := by
  obtain ⟨a, ha⟩ := h1
  obtain ⟨b, hb⟩ := h2
  exact ⟨max a b, fun m hm J => ⟨ha m (by omega), hb m (by omega) J⟩⟩
theorem oC {p : Prop} {ps : Ow} (h1 : p) (h2 : Evn P fun call m => ∀ J, All (ps call m J)) : Evn P fun call m => ∀ J, All (p :: ps call m J) := oE (Evn.const h1) h2
theorem oJ {p : List (List AVal) → Prop} {ps : Ow} (h1 : ∀ J, p J) (h2 : Evn P fun call m => ∀ J, All (ps call m J)) : Evn P fun call m => ∀ J, All (p J :: ps call m J) := by
  obtain ⟨b, hb⟩ := h2
  exact ⟨b, fun m hm J => ⟨h1 J, hb m hm J⟩⟩
theorem ev_run {fn : Func} {args : List AVal} {r : ARes} {H₂ : Heap} (hp : P f = none) (hfn : XK.P.funcs[f]? = some fn) (hc : fn.body.isSome = true) (hle : Nat.ble args.length fn.ntmps = true) (hi : Has (envOf args) l)
    (hx : ex = .normal ∨ ex = .ret) (h : RunEv P f (bodyOf fn) fn.ntmps [] l ⟨[], false⟩ H ex [] l' bx' H') (hr : ∀ E B, bx'.ok B → results XK fn f (stL E l' B fn.ntmps []) H' = some (r, H₂)) : Ev P f args H r H₂ := by
  refine ev_body hp ?_
  obtain ⟨x, hx'⟩ := h
  refine ⟨x, fun m hm => ?_⟩
  obtain ⟨s', a1, e1⟩ := hx' m hm { env := envOf args, boxes := [], n := fn.ntmps, defs := [] } ⟨rfl, rfl, rfl, hi⟩
  have h2 := hr s'.env s'.boxes a1.bx
  rw [← a1.eq] at h2
  have hcb : fn.body = some (bodyOf fn) := by
    unfold bodyOf
    cases hb : fn.body with
    | none => rw [hb] at hc; cases hc
    | some c => rfl
  simp only [body, hfn]
  rw [hcb]
  simp only [hle, cond_true, e1]
  rcases hx with rfl | rfl <;> simp only [a1.d] <;> exact h2
theorem ev_run_panic {fn : Func} {args : List AVal} {v : AVal} (hp : P f = none) (hfn : XK.P.funcs[f]? = some fn) (hc : fn.body.isSome = true) (hle : Nat.ble args.length fn.ntmps = true) (hi : Has (envOf args) l)
    (h : RunEv P f (bodyOf fn) fn.ntmps [] l ⟨[], false⟩ H (.panic v) [] l' bx' H') : Ev P f args H (.panic v) H' := by
  refine ev_body hp ?_
  obtain ⟨x, hx'⟩ := h
  refine ⟨x, fun m hm => ?_⟩
  obtain ⟨s', a1, e1⟩ := hx' m hm { env := envOf args, boxes := [], n := fn.ntmps, defs := [] } ⟨rfl, rfl, rfl, hi⟩
  have hcb : fn.body = some (bodyOf fn) := by
    unfold bodyOf
    cases hb : fn.body with
    | none => rw [hb] at hc; cases hc
    | some c => rfl
  simp only [body, hfn]
  rw [hcb]
  simp only [hle, cond_true, e1, a1.d]
def bxN (J : List (List AVal)) (z : List AVal) : List (List AVal) := J ++ [z]
def bxS (J : List (List AVal)) (i : Nat) (l : List AVal) : List (List AVal) := J.set i l
theorem ne_eqc {a b c : Int} (h : a = b) (hc : b ≠ c) : a ≠ c := h ▸ hc
theorem rS (v : AVal) : some v = some v := rfl
theorem tT : true = true := rfl
theorem tF : false = false := rfl
theorem T_bool {p : Prop} [Decidable p] (h : p) : decide p = true := decide_eq_true h
theorem F_bool {p : Prop} [Decidable p] (h : ¬ p) : decide p = false := decide_eq_false h
theorem T_beq {α : Type} [BEq α] [LawfulBEq α] {a b : α} (h : a = b) : (a == b) = true := beq_iff_eq.2 h
theorem F_beq {α : Type} [BEq α] [LawfulBEq α] {a b : α} (h : a ≠ b) : (a == b) = false := by simpa using h
theorem T_bne {α : Type} [BEq α] [LawfulBEq α] {a b : α} (h : a ≠ b) : (a != b) = true := by simpa using h
theorem F_bne {α : Type} [BEq α] [LawfulBEq α] {a b : α} (h : a = b) : (a != b) = false := by simpa using h
theorem beqB_refl : ∀ a : List UInt8, beqB a a = true
  | [] => rfl
  | a :: l => by simp [beqB, beqB_refl l]
theorem T_str {a b : List UInt8} (h : a = b) : beqB a b = true := h ▸ beqB_refl a
theorem eq_of_beqB : ∀ {a b : List UInt8}, beqB a b = true → a = b
  | [], [], _ => rfl
  | a :: l, b :: m, h => by
    simp only [beqB, Bool.and_eq_true] at h
    have h1 : a = b := UInt8.toNat_inj.1 (Nat.eq_of_beq_eq_true h.1)
    rw [h1, eq_of_beqB h.2]
  | [], _ :: _, h => by cases h
  | _ :: _, [], h => by cases h
theorem F_str {a b : List UInt8} (h : a ≠ b) : beqB a b = false := by
  cases e : beqB a b with
  | false => rfl
  | true => exact (h (eq_of_beqB e)).elim
theorem idx_isl {n size k : Nat} {cs : List AVal} {j : Int} (h0 : j = (k : Int)) (h1 : k < n) (h2 : cs.length = n * size) :
    cond (decide (0 ≤ j)) (cond (Nat.blt j.toNat n && Nat.beq cs.length (n * size)) (some (AVal.ept cs (j.toNat * size))) none) none = some (AVal.ept cs (k * size)) := by
  subst h0
  have : Nat.blt k n = true := Nat.ble_eq_true_of_le h1
  simp [h2, this]
theorem idx_msl {b off n size k : Nat} {j : Int} (h0 : j = (k : Int)) (h1 : k < n) :
    cond (decide (0 ≤ j)) (cond (Nat.blt j.toNat n && Nat.beq size size) (some (AVal.ptr b (off + j.toNat * size))) none) none = some (AVal.ptr b (off + k * size)) := by
  subst h0
  have : Nat.blt k n = true := Nat.ble_eq_true_of_le h1
  simp [this]
theorem idx_str {s : List UInt8} {c : UInt8} {j : Int} {k : Nat} (h0 : j = (k : Int)) (h1 : s[k]? = some c) :
    cond (decide (0 ≤ j)) (match s[j.toNat]? with | some b => some (AVal.int .u8 b.toNat) | none => none) none = some (AVal.int .u8 c.toNat) := by
  subst h0
  simp [h1]
def mget (h : Heap) (b : Nat) (key : List UInt8) : Option (Option AVal) :=
  match h.objs[b]? with
  | some (.amap es) => some (findE key es)
  | _ => none
def mlook (h : Heap) (b : Nat) (key : List UInt8) (ok : Bool) (z : AVal) : Option AVal :=
  match (match h.objs[b]? with | some (.amap es) => some (findE key es) | _ => none) with
  | some r => some (lookR ok r z)
  | none => none
theorem mlook_eq {h : Heap} {b : Nat} {key : List UInt8} {ok : Bool} {z : AVal} {r : Option AVal} (hm : mget h b key = some r) : mlook h b key ok z = some (lookR ok r z) := by
  unfold mget at hm
  unfold mlook
  rw [hm]
def mset (h : Heap) (b : Nat) (key : List UInt8) (v : AVal) : Option Heap :=
  match h.objs[b]? with
  | some (.amap es) => cond (Nat.ble h.ro b && !v.isLoc) (some { h with objs := h.objs.set b (.amap (putM key v.stripA es)) }) none
  | _ => none
def appK (size : Nat) (x : AVal) (k : Nat) (cs : List AVal) : Option AVal :=
  match x with
  | .nils => match k with
    | 0 => some .nils
    | k + 1 => cond (Nat.ble (k + 1) most) (some (.isl true (k + 1) cs)) none
  | .isl own n l => match k with
    | 0 => some (.isl own n l)
    | k + 1 => cond (own && Nat.beq l.length (n * size) && Nat.ble (n + (k + 1)) most) (some (.isl true (n + (k + 1)) (l ++ cs))) none
  | _ => none
def appM (size : Nat) (h : Heap) (x : AVal) (k : Nat) (cs : List AVal) : Option (AVal × Heap) :=
  match k with
  | 0 => match x with
    | .nils => some (.nils, h)
    | .msl b off n sz => cond (Nat.beq size sz) (some (.msl b off n sz, h)) none
    | _ => none
  | k + 1 => match x with
    | .nils => cond (Nat.ble (k + 1) most) (some (.msl h.objs.length 0 (k + 1) size, h.push (.cells cs))) none
    | .msl b off n sz => match h.objs[b]? with
      | some (.cells l) => cond (Nat.beq off 0 && Nat.beq size sz && Nat.beq l.length (n * size) && Nat.ble h.ro b && Nat.ble (n + (k + 1)) most && Nat.ble 1 n)
          (some (.msl h.objs.length 0 (n + (k + 1)) sz, { h with objs := h.objs.set b .gone ++ [.cells (l.map AVal.strip ++ cs)] })) none
      | _ => none
    | _ => none
theorem app_own {size n k : Nat} {l cs : List AVal} (h1 : l.length = n * size) (h2 : n + (k + 1) ≤ most) :
    cond (true && Nat.beq l.length (n * size) && Nat.ble (n + (k + 1)) most) (some (AVal.isl true (n + (k + 1)) (l ++ cs))) none = some (AVal.isl true (n + (k + 1)) (l ++ cs)) := by
  have : Nat.ble (n + (k + 1)) most = true := Nat.ble_eq_true_of_le h2
  simp [h1, this]
theorem cat_str {a b : List UInt8} (h : a.length + b.length ≤ 1099511627776) : cond (Nat.ble (a.length + b.length) 1099511627776) (some (AVal.str (a ++ b))) none = some (AVal.str (a ++ b)) := by
  have : Nat.ble (a.length + b.length) 1099511627776 = true := Nat.ble_eq_true_of_le h
  rw [this]; rfl
theorem som_int {k : IntKind} {x y : Int} (h : x = y) : some (AVal.int k x) = some (AVal.int k y) := by rw [h]
theorem quo_int {k : IntKind} {a b y : Int} (h0 : b ≠ 0) (h : k.wrap (a.tdiv b) = y) : ofPure (Op.intDiv .quo k a b) = some (AVal.int k y) := by
  subst h
  simp [Op.intDiv, h0, ofPure, Pure.pure]
theorem rem_int {k : IntKind} {a b y : Int} (h0 : b ≠ 0) (h : a.tmod b = y) : ofPure (Op.intDiv .rem k a b) = some (AVal.int k y) := by
  subst h
  simp [Op.intDiv, h0, ofPure, Pure.pure]
theorem shl_int {k k' : IntKind} {a b y : Int} {c : Nat} (h0 : b = (c : Int)) (h : k.wrap (a * 2 ^ min c k.bits) = y) : ofPure (Op.shift .shl k a k' b) = some (AVal.int k y) := by
  subst h0; subst h
  have : ¬ ((c : Int) < 0) := by omega
  simp [Op.shift, this, ofPure, Pure.pure]
theorem shr_int {k k' : IntKind} {a b y : Int} {c : Nat} (h0 : b = (c : Int)) (h : a.fdiv (2 ^ min c k.bits) = y) : ofPure (Op.shift .shr k a k' b) = some (AVal.int k y) := by
  subst h0; subst h
  have : ¬ ((c : Int) < 0) := by omega
  simp [Op.shift, this, ofPure, Pure.pure]
def bits (op : BinOp) (k : IntKind) (a b : Int) : Int :=
  let x := BitVec.ofInt k.bits a
  let y := BitVec.ofInt k.bits b
  match op with
  | .and => k.wrap (x &&& y).toNat
  | .or => k.wrap (x ||| y).toNat
  | .xor => k.wrap (x ^^^ y).toNat
  | _ => k.wrap (x &&& ~~~y).toNat
def lowB : Int → Option Nat := fun n => cond (decide (0 ≤ n)) (some n.toNat) none
theorem lowB_nat {j : Int} {k : Nat} (h : j = (k : Int)) : lowB j = some k := by subst h; simp [lowB]
theorem sub_isl {n size lo hi : Nat} {cs : List AVal} (h1 : lo ≤ hi) (h2 : hi ≤ n) (h3 : cs.length = n * size) (h4 : 1 ≤ size) :
    cond (Nat.ble lo hi && Nat.ble hi n && Nat.beq cs.length (n * size) && Nat.ble 1 size) (some (AVal.isl false (hi - lo) ((cs.take (hi * size)).drop (lo * size)))) none = some (AVal.isl false (hi - lo) ((cs.take (hi * size)).drop (lo * size))) := by
  simp [Nat.ble_eq_true_of_le h1, Nat.ble_eq_true_of_le h2, h3, Nat.ble_eq_true_of_le h4]
def subI (size n : Nat) (cs : List AVal) (lo hi : Option Nat) : Option AVal :=
  match lo, hi with
  | some lo, some hi => cond (Nat.ble lo hi && Nat.ble hi n && Nat.beq cs.length (n * size) && Nat.ble 1 size) (some (.isl false (hi - lo) ((cs.take (hi * size)).drop (lo * size)))) none
  | _, _ => none
def subM (size b off n : Nat) (lo hi : Option Nat) : Option AVal :=
  match lo, hi with
  | some lo, some hi => cond (Nat.ble lo hi && Nat.ble hi n && Nat.beq size size) (some (.msl b (off + lo * size) (hi - lo) size)) none
  | _, _ => none
def subP (size len : Nat) (h : Heap) (b off : Nat) (lo hi : Option Nat) : Option AVal :=
  match h.objs[b]?, lo, hi with
  | some (.cells l), some lo, some hi => cond (Nat.ble lo hi && Nat.ble hi len && Nat.ble (off + len * size) l.length) (some (.msl b (off + lo * size) (hi - lo) size)) none
  | _, _, _ => none
theorem subP_eq {size len : Nat} {h : Heap} {b off lo hi : Nat} {l : List AVal} (hb : h.objs[b]? = some (.cells l)) (h1 : lo ≤ hi) (h2 : hi ≤ len) (h3 : off + len * size ≤ l.length) : subP size len h b off (some lo) (some hi) = some (.msl b (off + lo * size) (hi - lo) size) := by
  simp [subP, hb, Nat.ble_eq_true_of_le h1, Nat.ble_eq_true_of_le h2, Nat.ble_eq_true_of_le h3]
def subStr (s : List UInt8) (lo hi : Option Nat) : Option AVal :=
  match lo, hi with
  | some lo, some hi => cond (Nat.ble lo hi && Nat.ble hi s.length) (some (.str ((s.take hi).drop lo))) none
  | _, _ => none
theorem subI_eq {size n lo hi : Nat} {cs : List AVal} (h1 : lo ≤ hi) (h2 : hi ≤ n) (h3 : cs.length = n * size) (h4 : 1 ≤ size) : subI size n cs (some lo) (some hi) = some (.isl false (hi - lo) ((cs.take (hi * size)).drop (lo * size))) := by
  unfold subI; exact sub_isl h1 h2 h3 h4
theorem subM_eq {size b off n lo hi : Nat} (h1 : lo ≤ hi) (h2 : hi ≤ n) : subM size b off n (some lo) (some hi) = some (.msl b (off + lo * size) (hi - lo) size) := by
  simp [subM, Nat.ble_eq_true_of_le h1, Nat.ble_eq_true_of_le h2]
theorem subStr_eq {s : List UInt8} {lo hi : Nat} (h1 : lo ≤ hi) (h2 : hi ≤ s.length) : subStr s (some lo) (some hi) = some (.str ((s.take hi).drop lo)) := by
  simp [subStr, Nat.ble_eq_true_of_le h1, Nat.ble_eq_true_of_le h2]
end Go.Den
namespace Go.Den
open Go
theorem idx_loc {b off size k len : Nat} {j : Int} (h0 : j = (k : Int)) (h1 : k < len) :
    cond (decide (0 ≤ j)) (cond (Nat.blt j.toNat len) (some (AVal.loc b (off + j.toNat * size))) none) none = some (AVal.loc b (off + k * size)) := by
  subst h0
  have : Nat.blt k len = true := Nat.ble_eq_true_of_le h1
  simp [this]
theorem bs_ok {a b : Nat} (h : a ≤ b) : (true && true && Nat.ble a b) = true := by simp [Nat.ble_eq_true_of_le h]
theorem rB (l : List AVal) : some l = some l := rfl
end Go.Den
namespace Go.Den
open Go
theorem eE {P : Prims} {p : Call → Nat → Prop} {ps : Call → Nat → List Prop} (h1 : Evn P p) (h2 : Evn P fun call n => All (ps call n)) : Evn P fun call n => All (p call n :: ps call n) := Evn.cons h1 h2
theorem eC {P : Prims} {p : Prop} {ps : Call → Nat → List Prop} (h1 : p) (h2 : Evn P fun call n => All (ps call n)) : Evn P fun call n => All (p :: ps call n) := Evn.consC h1 h2
abbrev i6 (n : Int) : AVal := .int .i64 n
abbrev i3 (n : Int) : AVal := .int .i32 n
abbrev sl (n : Nat) (cs : List AVal) : AVal := .isl false n cs
abbrev E8 (a b c : Int) (s : List UInt8) (n : Nat) (cs : List AVal) (i : Int) (t : List UInt8) (m : Nat) (ds : List AVal) : List AVal := [.int .i64 a, .int .i64 b, .int .i64 c, .str s, .isl false n cs, .int .i32 i, .str t, .isl false m ds]
abbrev T4 (a b : Int) (s : List UInt8) (n : Nat) (cs : List AVal) : List AVal := [.int .i64 a, .int .i64 b, .str s, .isl false n cs]
abbrev S4 (a : Int) (n : Nat) (cs : List AVal) (m : Nat) (ds : List AVal) (k : Nat) (es : List AVal) : List AVal := [.int .i64 a, .isl false n cs, .isl false m ds, .isl false k es]
abbrev V6 (s : List UInt8) (b : Bool) (a c : Int) (t : List UInt8) (n : Nat) (cs : List AVal) : List AVal := [.str s, .bool b, .int .i64 a, .int .i64 c, .str t, .isl false n cs]
abbrev P10 (s : List UInt8) (b : Bool) (n : Nat) (cs : List AVal) (a c : Int) (t : List UInt8) (n1 : Nat) (cs1 : List AVal) (n2 : Nat) (cs2 : List AVal) (n3 : Nat) (cs3 : List AVal) (n4 : Nat) (cs4 : List AVal) : List AVal :=
  [.str s, .bool b, .isl false n cs, .int .i64 a, .int .i64 c, .str t, .isl false n1 cs1, .isl false n2 cs2, .isl false n3 cs3, .isl false n4 cs4]
abbrev M8 (s : List UInt8) (n1 : Nat) (cs1 : List AVal) (n2 : Nat) (cs2 : List AVal) (n3 : Nat) (cs3 : List AVal) (n4 : Nat) (cs4 : List AVal) (n5 : Nat) (cs5 : List AVal) (n6 : Nat) (cs6 : List AVal) (n7 : Nat) (cs7 : List AVal) : List AVal :=
  [.str s, .isl false n1 cs1, .isl false n2 cs2, .isl false n3 cs3, .isl false n4 cs4, .isl false n5 cs5, .isl false n6 cs6, .isl false n7 cs7]
abbrev L8 (a b : Int) : List AVal := [.int .i64 0, .int .i64 a, .int .i64 0, .str [], .nils, .int .i32 b, .str [], .nils]
abbrev R11 (H0 : Heap) (m0 : Nat) (x0 x1 : Int) (n8 : Nat) (cs8 : List AVal) : List AVal :=
  [.map m0, .map H0.objs.length, .map ((H0.push (.amap [])).objs.length), .map (((H0.push (.amap [])).push (.amap [])).objs.length), .map ((((H0.push (.amap [])).push (.amap [])).push (.amap [])).objs.length), .msl (((((H0.push (.amap [])).push (.amap [])).push (.amap [])).push (.amap [])).objs.length) 0 1 2, .int .i64 (if x0 < 0 then 0 else x0), .isl false n8 cs8, .nils, .int .i64 x1, .int .i64 0]
end Go.Den
