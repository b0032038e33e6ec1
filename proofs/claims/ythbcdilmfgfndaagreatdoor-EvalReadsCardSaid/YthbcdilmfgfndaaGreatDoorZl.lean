/-
  SPEC, PART A: what programs do, as Lean functions over trees: trees, states, numbers. Definitions alone.
-/
import Derived.Test.YthbcdilmfgfndaaGreatDoorZa
import Derived.Test.YthbcdilmfgfndaaGreatDoorZg
import Derived.Test.YthbcdilmfgfndaaGreatDoorZh
import Derived.Test.YthbcdilmfgfndaaGreatDoorZi
set_option linter.unusedSimpArgs false
set_option linter.unusedVariables false
namespace Go.Wf
open Go
abbrev Nm := List UInt8
inductive Ty where
  | mk (form n : Int) (name : Nm) (of : List Ty)
  deriving Inhabited
inductive Ex where
  | mk (op : Int) (t : Ty) (i : Int) (s : Nm) (x : List Ex)
  deriving Inhabited
inductive Sm where
  | mk (op : Int) (x : List Ex) (b : List (List Sm)) (i : List Int)
  deriving Inhabited
def Ty.form : Ty → Int | .mk f _ _ _ => f
def Ty.n : Ty → Int | .mk _ n _ _ => n
def Ty.name : Ty → Nm | .mk _ _ s _ => s
def Ty.of : Ty → List Ty | .mk _ _ _ l => l
def Ex.op : Ex → Int | .mk o _ _ _ _ => o
def Ex.t : Ex → Ty | .mk _ t _ _ _ => t
def Ex.i : Ex → Int | .mk _ _ i _ _ => i
def Ex.s : Ex → Nm | .mk _ _ _ s _ => s
def Ex.x : Ex → List Ex | .mk _ _ _ _ x => x
def Sm.op : Sm → Int | .mk o _ _ _ => o
def Sm.x : Sm → List Ex | .mk _ x _ _ => x
def Sm.b : Sm → List (List Sm) | .mk _ _ b _ => b
def Sm.i : Sm → List Int | .mk _ _ _ i => i
structure Vr where
  name : Nm
  exp : Bool
  t : Ty
  deriving Inhabited
structure Pm where
  name : Nm
  ref : Bool
  t : Ty
  deriving Inhabited
structure Pr where
  name : Nm
  exp : Bool
  params : List Pm
  result : Ty
  locals : List Vr
  body : List Sm
  ret : List Ex
  deriving Inhabited
structure Rc where
  name : Nm
  exp : Bool
  base : Nm
  fields : List Vr
  deriving Inhabited
structure Cn where
  name : Nm
  exp : Bool
  e : Ex
  deriving Inhabited
structure Md where
  name : Nm
  imports : List Nm
  consts : List Cn
  names : List Vr
  recs : List Rc
  vars : List Vr
  procs : List Pr
  body : List Sm
  deriving Inhabited
structure Loc where
  b : Nat
  o : Nat
  deriving Inhabited, DecidableEq
structure St where
  fuel : Int
  depth : Nat
  inp : List UInt8
  out : List UInt8
  room : Int
  mem : List (List Int)
  objs : List (Nm × Nat)
  deriving Inhabited
inductive Rs (α : Type) where
  | ok (a : α) (s : St)
  | stop (e t : Int) (s : St)
def M (α : Type) : Type := St → Option (Rs α)
def M.pure {α : Type} (a : α) : M α := fun s => some (.ok a s)
def M.bind {α β : Type} (m : M α) (f : α → M β) : M β := fun s => match m s with
  | some (.ok a s') => f a s'
  | some (.stop e t s') => some (.stop e t s')
  | none => none
instance : Monad M where
  pure := M.pure
  bind := M.bind
def stuck {α : Type} : M α := fun _ => none
def stop {α : Type} (e t : Int) : M α := fun s => some (.stop e t s)
def trap {α : Type} (t : Int) : M α := stop 2 t
def must (c : Bool) (t : Int) : M Unit := match c with | true => M.pure () | false => trap t
def need {α : Type} (o : Option α) : M α := fun s => match o with | some a => some (.ok a s) | none => none
def burn : M Unit := fun s => if s.fuel ≤ 0 then some (.stop 0 0 s) else some (.ok () { s with fuel := s.fuel - 1 })
def loadL (l : Loc) : M Int := fun s => match (s.mem[l.b]?).bind (·[l.o]?) with
  | some x => some (.ok x s)
  | none => none
def keepL (l : Loc) (v : Int) : M Unit := fun s => match s.mem[l.b]? with
  | some r => if l.o < r.length then some (.ok () { s with mem := s.mem.set l.b (r.set l.o v) }) else none
  | none => none
def wordsAt (l : Loc) (n : Nat) : M (List Int) := fun s => match s.mem[l.b]? with
  | some r => if l.o + n ≤ r.length then some (.ok ((r.drop l.o).take n) s) else none
  | none => none
def putAll : List Int → Nat → List Int → List Int
  | r, _, [] => r
  | r, i, v :: vs => putAll (r.set i v) (i + 1) vs
def keepAll (l : Loc) (vs : List Int) : M Unit := fun s => match s.mem[l.b]? with
  | some r => if l.o + vs.length ≤ r.length then some (.ok () { s with mem := s.mem.set l.b (putAll r l.o vs) }) else none
  | none => none
def freshB (l : List Int) : M Loc := fun s => some (.ok ⟨s.mem.length, 0⟩ { s with mem := s.mem ++ [l] })
def write (l : List UInt8) : M Unit := fun s => some (.ok () { s with out := s.out ++ l })
def w32 (n : Int) : Int := IntKind.wrap .i32 n
def and32 (a b : Int) : Int := IntKind.wrap .i32 (BitVec.ofInt 32 a &&& BitVec.ofInt 32 b).toNat
def or32 (a b : Int) : Int := IntKind.wrap .i32 (BitVec.ofInt 32 a ||| BitVec.ofInt 32 b).toNat
def xor32 (a b : Int) : Int := IntKind.wrap .i32 (BitVec.ofInt 32 a ^^^ BitVec.ofInt 32 b).toNat
def andNot32 (a b : Int) : Int := IntKind.wrap .i32 (BitVec.ofInt 32 a &&& ~~~BitVec.ofInt 32 b).toNat
def flag (b : Bool) : Int := cond b 1 0
def elemB (n : Int) : Bool := decide (0 ≤ n) && decide (n < 32)
def bitOf (n : Int) : Int := w32 (2 ^ n.toNat)
def spanFrom (a : Int) : Nat → Int → Int
  | 0, s => s
  | k + 1, s => spanFrom (a + 1) k (or32 s (bitOf a))
def spanOf (a b : Int) : Int := spanFrom a (b + 1 - a).toNat 0
def hasE (n s : Int) : Bool := elemB n && (and32 (s.fdiv (2 ^ n.toNat)) 1 == 1)
def by32 (n : Int) : Nat := (n % 32).toNat
def ror32 (a n : Int) : Int := let u := (BitVec.ofInt 32 a).toNat; w32 ((u >>> by32 n ||| (u <<< (32 - by32 n)) % 2 ^ 32 : Nat))
def un (op form a : Int) : Option (Option Int) :=
  if op = 7 then some (some (if form = 4 then xor32 (-1) a else w32 (0 - a)))
  else if op = 8 then some (some (flag (a == 0)))
  else if op = 27 then some (some (if a < 0 then w32 (0 - a) else a))
  else if op = 28 then some (some (and32 a 1))
  else if op = 32 then some (some a)
  else if op = 33 then some (if 0 ≤ a ∧ a ≤ 255 then some a else none)
  else none
def bin (op form a b : Int) : Option (Option Int) :=
  if op = 9 then some (some (if form = 4 then or32 a b else w32 (a + b)))
  else if op = 10 then some (some (if form = 4 then andNot32 a b else w32 (a - b)))
  else if op = 11 then some (some (if form = 4 then and32 a b else w32 (a * b)))
  else if op = 12 then some (if form = 4 then some (xor32 a b) else if b < 1 then none else some (a / b))
  else if op = 13 then some (if b < 1 then none else some (a % b))
  else if op = 16 then some (some (flag (a == b)))
  else if op = 17 then some (some (flag (a != b)))
  else if op = 18 then some (some (flag (decide (a < b))))
  else if op = 19 then some (some (flag (decide (a ≤ b))))
  else if op = 20 then some (some (flag (decide (b < a))))
  else if op = 21 then some (some (flag (decide (b ≤ a))))
  else if op = 22 then some (some (flag (hasE a b)))
  else none
def decN (n : Nat) : List UInt8 := if n < 10 then [UInt8.ofNat (48 + n)] else decN (n / 10) ++ [UInt8.ofNat (48 + n % 10)]
def decI (n : Int) : List UInt8 := if n < 0 then 45 :: decN n.natAbs else decN n.natAbs
def findR {α : Type} (s : Nm) : List (Nm × α) → Option α
  | [] => none
  | (k, v) :: l => if s = k then some v else findR s l
abbrev Recs := List (Nm × Rc)
def chain (R : Recs) : Nat → Nm → Option (List Rc)
  | 0, _ => none
  | k + 1, s => match findR s R with
    | some r => if r.base = [] then some [r] else (chain R k r.base).map (r :: ·)
    | none => none
def fieldsOf (R : Recs) (s : Nm) : Option (List Vr) := (chain R R.length s).map fun l => (l.reverse.map (·.fields)).flatten
def extendsR (R : Recs) : Nat → Nm → Nm → Option Bool
  | 0, _, _ => none
  | k + 1, a, b => if a = b then some true else match findR a R with
    | some r => if r.base = [] then some false else extendsR R k r.base b
    | none => some false
def rightT : Nat → Ty → Bool
  | 0, _ => false
  | k + 1, .mk f n s of =>
    if 1 ≤ f ∧ f ≤ 4 then decide (n = 0) && decide (s = []) && of.isEmpty
    else if f = 7 then decide (1 ≤ n) && decide (n ≤ 1024) && decide (s = []) && (match of with | [t] => rightT k t | _ => false)
    else if f = 8 ∨ f = 9 then decide (n = 0) && !decide (s = []) && of.isEmpty
    else false
def sumW (g : Ty → Option Nat) : List Vr → Nat → Option Nat
  | [], n => some n
  | v :: l, n => match g v.t with
    | some k => if n + k ≤ 16384 then sumW g l (n + k) else none
    | none => none
def words (R : Recs) : Nat → Ty → Option Nat
  | 0, _ => none
  | k + 1, t => if rightT (k + 1) t then
      (if t.form = 7 then match t.of with
        | [u] => match words R k u with
          | some n => if n * t.n.toNat ≤ 16384 then some (n * t.n.toNat) else none
          | none => none
        | _ => none
      else if t.form = 8 then match fieldsOf R t.name with
        | some l => sumW (words R k) l 0
        | none => none
      else some 1)
    else none
def offsetIn (g : Ty → Option Nat) (s : Nm) : List Vr → Nat → Option Nat
  | [], _ => none
  | v :: l, n => if v.name = s then some n else match g v.t with
    | some k => offsetIn g s l (n + k)
    | none => none
end Go.Wf
namespace Go.Wf
open Go
structure Env where
  R : Recs
  k : Nat
  vars : List (Nm × Loc)
  procs : List (Nm × Pr)
abbrev Fr := List (Nm × Loc)
structure Fn where
  place : Fr → Ex → M Loc
  expr : Fr → Ex → M Int
  body : Fr → List Sm → M Unit
  whl : Fr → List Ex → List (List Sm) → M Unit
  rep : Fr → Ex → List Sm → M Unit
  forl : Fr → Loc → Int → Int → List Sm → M Unit
def dot (s : Nm) : Bool := s.any (· == 46)
def W (E : Env) (t : Ty) : M Nat := need (words E.R E.k t)
def obj (v : Int) : M (Nm × Nat) := fun s => if v < 1 then none else match s.objs[(v - 1).toNat]? with
  | some o => some (.ok o s)
  | none => none
def byteI (c : UInt8) : Int := (c.toNat : Int)
def byteOf (v : Int) : UInt8 := UInt8.ofNat (v % 256).toNat
def most : Nat := 1000000
def far : Nat := 1000000000000
def okL (n : Nat) : M Unit := fun s => if n ≤ far then some (.ok () s) else none
def locM (b o : Nat) : M Loc := fun s => if o ≤ far then some (.ok ⟨b, o⟩ s) else none
def ioOK (v : Int) : Bool := decide (-2147483648 ≤ v) && decide (v ≤ 2147483647)
def put (l : List UInt8) : M Unit := fun s => if s.out.length + l.length ≤ most then some (.ok () { s with out := s.out ++ l }) else none
variable (E : Env) (F : Fn)
def placeS (f : Fr) : Ex → M Loc
  | .mk op t _ s x =>
    if op = 1 then (match dot s with
      | true => (match findR s f with | none => need (findR s E.vars) | some _ => stuck)
      | false => need (findR s f))
    else if op = 2 then (match x with
      | [a, j] => do
        let p ← F.place f a
        let v ← F.expr f j
        must (decide (0 ≤ v) && decide (v < a.t.n)) 1
        let n ← W E t
        locM p.b (p.o + v.toNat * n)
      | _ => stuck)
    else if op = 3 then (match x with
      | [a] => do
        let p ← F.place f a
        let l ← need (fieldsOf E.R a.t.name)
        let n ← need (offsetIn (words E.R E.k) s l 0)
        locM p.b (p.o + n)
      | _ => stuck)
    else if op = 4 then (match x with
      | [a] => do
        let v ← F.expr f a
        must (v != 0) 3
        let o ← obj v
        pure ⟨o.2, 0⟩
      | _ => stuck)
    else stuck
def elemS (f : Fr) : Ex → M Int
  | .mk op _ _ _ x =>
    if op = 25 then (match x with
      | [a] => do
        let v ← F.expr f a
        must (elemB v) 6
        pure (bitOf v)
      | _ => stuck)
    else if op = 26 then (match x with
      | [a, b] => do
        let v ← F.expr f a
        let w ← F.expr f b
        must (elemB v && elemB w) 6
        pure (spanOf v w)
      | _ => stuck)
    else stuck
def setS (f : Fr) : List Ex → Int → M Int
  | [], s => pure s
  | e :: es, s => do
    let x ← elemS F f e
    setS f es (or32 s x)
def argsS (f : Fr) : List Pm → List Ex → Fr → M Fr
  | [], [], g => pure g
  | p :: ps, e :: es, g => match p.ref with
    | true => do
      let l ← F.place f e
      argsS f ps es ((p.name, l) :: g)
    | false => do
      let v ← F.expr f e
      let l ← freshB [v]
      argsS f ps es ((p.name, l) :: g)
  | _, _, _ => stuck
def localsS : List Vr → Fr → M Fr
  | [], g => pure g
  | v :: vs, g => do
    let n ← W E v.t
    let l ← freshB (List.replicate n 0)
    localsS vs ((v.name, l) :: g)
def deeper : M Unit := fun s => if s.depth < 100 then some (.ok () s) else some (.stop 2 9 s)
def depthTo (g : Nat → Nat) : M Unit := fun s => some (.ok () { s with depth := g s.depth })
def shallower : M Unit := fun s => if s.depth = 0 then none else some (.ok () { s with depth := s.depth - 1 })
def retS (g : Fr) : List Ex → M Int
  | [] => pure 0
  | [e] => F.expr g e
  | _ => stuck
def callS (_f : Fr) (_e : Ex) : M Int := stuck
def opS (f : Fr) (op : Int) : List Ex → M Int
  | [a] => do
    let v ← F.expr f a
    match un op a.t.form v with
    | none => stuck
    | some none => trap 6
    | some (some r) => pure r
  | [a, b] => do
    let v ← F.expr f a
    let w ← F.expr f b
    match bin op a.t.form v w with
    | none => stuck
    | some none => trap 4
    | some (some r) => pure r
  | _ => stuck
def isS (s : Nm) (v : Int) : M Bool := do
  let o ← obj v
  need (extendsR E.R (E.R.length + 1) o.1 s)
def eofS : M Int := fun s => some (.ok (flag s.inp.isEmpty) s)
def isOpS (f : Fr) (nm : Nm) (a : Ex) : M Int := fun st => match F.expr f a st with
  | some (.ok v st') => (if v = 0 then pure 0 else do
      let b ← isS E nm v
      pure (flag b) : M Int) st'
  | _ => none
def exprS (f : Fr) : Ex → M Int
  | .mk op t i s x =>
    if op = 0 then pure i
    else if op = 1 ∨ op = 2 ∨ op = 3 ∨ op = 4 then do
      let p ← F.place f (.mk op t i s x)
      loadL p
    else if op = 5 then (match x with
      | [a] => do
        let v ← F.expr f a
        must (v != 0) 3
        let b ← isS E s v
        must b 2
        pure v
      | _ => stuck)
    else if op = 23 then (match x with
      | [a] => isOpS E F f s a
      | _ => stuck)
    else if op = 6 then callS f (.mk op t i s x)
    else if op = 14 ∨ op = 15 then (match x with
      | [a, b] => do
        let v ← F.expr f a
        if v = 0 ∨ v = 1 then (if (v = 1 ∧ op = 14) ∨ (v = 0 ∧ op = 15) then pure v else F.expr f b) else stuck
      | _ => stuck)
    else if op = 24 then (if x.length ≤ far then setS F f x 0 else stuck)
    else if op = 34 then eofS
    else opS F f op x
def in32 (n : Int) : Bool := decide (-2147483648 ≤ n) && decide (n ≤ 2147483647)
def chkS (f : Fr) (e : Ex) : M Int := fun s => match exprS E F f e s with
  | some (.ok v s') => match in32 v with
    | true => some (.ok v s')
    | false => none
  | r => r
def assignS (f : Fr) (to e : Ex) : M Unit := do
  let p ← F.place f to
  if e.op = 0 ∧ e.t.form = 6 then do
    okL e.s.length
    keepAll p (e.s.map byteI ++ [0])
  else if to.t.form = 7 ∨ to.t.form = 8 then do
    let q ← F.place f e
    let n ← W E to.t
    let l ← wordsAt q n
    keepAll p l
  else do
    let v ← F.expr f e
    keepL p v
def ifS (f : Fr) : List Ex → List (List Sm) → M Unit
  | [], [] => pure ()
  | [], [b] => F.body f b
  | e :: es, b :: bs => do
    let v ← F.expr f e
    if v = 0 then ifS f es bs else F.body f b
  | _, _ => stuck
def againS (f : Fr) : List Ex → List (List Sm) → M Bool
  | [], [] => pure false
  | e :: es, b :: bs => do
    burn
    let v ← F.expr f e
    if v = 0 then againS f es bs else do
      F.body f b
      pure true
  | _, _ => stuck
def caseS (f : Fr) (v : Int) (bs : List (List Sm)) : List Int → M Unit
  | a :: b :: k :: r => if a ≤ v ∧ v ≤ b then (if k < 0 then stuck else match bs[k.toNat]? with
      | some l => F.body f l
      | none => stuck) else caseS f v bs r
  | [] => trap 7
  | _ => stuck
def changeS (f : Fr) (op : Int) (to e : Ex) : M Unit := do
  let p ← F.place f to
  let x ← F.expr f e
  if op = 7 then do
    let w ← loadL p
    keepL p (w32 (w + x))
  else if op = 8 then do
    let w ← loadL p
    keepL p (w32 (w - x))
  else do
    must (elemB x) 6
    let w ← loadL p
    keepL p (if op = 9 then or32 w (bitOf x) else andNot32 w (bitOf x))
def madeS (name : Nm) : M Int := fun s => match words E.R E.k (.mk 8 0 name []) with
  | some n => if (n : Int) < s.room then
      (if s.objs.length < most then some (.ok ((s.objs.length : Int) + 1) { s with room := s.room - (n + 1), mem := s.mem ++ [List.replicate n 0], objs := s.objs ++ [(name, s.mem.length)] }) else none)
      else some (.stop 2 8 s)
  | none => none
def readS : M Int := fun s => match s.inp with
  | [] => some (.ok 0 s)
  | c :: r => some (.ok (byteI c) { s with inp := r })
def textS (l : List Int) : List UInt8 := (l.takeWhile (· != 0)).map byteOf
def simpleS (f : Fr) (op : Int) : List Ex → M Unit
  | [] => if op = 17 then put [10] else stuck
  | [e] =>
    if op = 11 then (let _e := E; stuck)
    else if op = 12 then do
      let v ← F.expr f e
      must (v != 0) 5
    else if op = 13 then do
      let p ← F.place f e
      let v ← readS
      keepL p v
    else if op = 14 then do
      let v ← F.expr f e
      (match ioOK v with | true => put (decI v) | false => stuck)
    else if op = 15 then do
      let v ← F.expr f e
      put [byteOf v]
    else if op = 16 then stuck
    else stuck
  | _ => stuck
def stmtS (f : Fr) : Sm → M Unit
  | .mk op x b i =>
    if op = 0 then (match x with
      | [to, e] => assignS E F f to e
      | _ => stuck)
    else if op = 1 then stuck
    else if op = 2 then stuck
    else if op = 3 then F.whl f x b
    else if op = 4 then (match x, b with
      | [e], [l] => F.rep f e l
      | _, _ => stuck)
    else if op = 5 then (match x, b, i with
      | [v, a, z], [l], [by'] => do
        let p ← F.place f v
        let first ← F.expr f a
        keepL p first
        let last ← F.expr f z
        F.forl f p last by' l
      | _, _, _ => stuck)
    else if op = 6 then stuck
    else if op = 7 ∨ op = 8 ∨ op = 9 ∨ op = 10 then (match x with
      | [to, e] => changeS F f op to e
      | _ => stuck)
    else simpleS E F f op x
def bodyS (f : Fr) : List Sm → M Unit
  | [] => pure ()
  | s :: l => do
    burn
    stmtS E F f s
    bodyS f l
def seqS (f : Fr) (l : List Sm) : M Unit := do
  okL l.length
  bodyS E F f l
def whlS (f : Fr) (x : List Ex) (b : List (List Sm)) : M Unit := do
  okL x.length
  let r ← againS F f x b
  match r with
  | true => F.whl f x b
  | false => pure ()
def repS (f : Fr) (e : Ex) (l : List Sm) : M Unit := do
  F.body f l
  burn
  let v ← F.expr f e
  if v = 0 then F.rep f e l else pure ()
def forS (f : Fr) (p : Loc) (last by' : Int) (l : List Sm) : M Unit := do
  burn
  let x ← loadL p
  if (0 < by' ∧ last < x) ∨ (by' < 0 ∧ x < last) then pure () else do
    F.body f l
    let y ← loadL p
    keepL p (w32 (y + by'))
    F.forl f p last by' l
def lvl : Nat → Fn
  | 0 => ⟨fun _ _ => stuck, fun _ _ => stuck, fun _ _ => stuck, fun _ _ _ => stuck, fun _ _ _ => stuck, fun _ _ _ _ _ => stuck⟩
  | k + 1 => ⟨placeS E (lvl k), chkS E (lvl k), seqS E (lvl k), whlS (lvl k), repS (lvl k), forS (lvl k)⟩
def dotted (a b : Nm) : Nm := a ++ 46 :: b
def recsOf : List Md → Recs
  | [] => []
  | m :: l => m.recs.map (fun r => (dotted m.name r.name, r)) ++ recsOf l
def procsOf : List Md → List (Nm × Pr)
  | [] => []
  | m :: l => procsOf l ++ (m.procs.map fun p => (dotted m.name p.name, p)).reverse
def varsIn (E : Env) (m : Nm) : List Vr → Fr → M Fr
  | [], g => pure g
  | v :: l, g => do
    let n ← W E v.t
    let p ← freshB (List.replicate n 0)
    varsIn E m l ((dotted m v.name, p) :: g)
def varsOf (E : Env) : List Md → Fr → M Fr
  | [], g => pure g
  | m :: l, g => do
    let g ← varsIn E m.name m.vars g
    varsOf E l g
def bodiesS (F : Fn) : List Md → M Unit
  | [] => pure ()
  | m :: l => do
    F.body [] m.body
    bodiesS F l
def runS (k : Nat) (l : List Md) : M Unit := do
  let E0 : Env := ⟨recsOf l, k, [], procsOf l⟩
  let g ← varsOf E0 l []
  bodiesS (lvl { E0 with vars := g } k) l
end Go.Wf
namespace Go.Wf
open Go Go.Den
mutual
def encTy : Ty → List AVal
  | .mk f n s of => [.int .i64 f, .int .i64 n, .str s, .isl false of.length (encTys of)]
def encTys : List Ty → List AVal
  | [] => []
  | t :: l => encTy t ++ encTys l
end
mutual
def encEx : Ex → List AVal
  | .mk op (.mk f n s of) i nm x => [.int .i64 op, .int .i64 f, .int .i64 n, .str s, .isl false of.length (encTys of), .int .i32 i, .str nm, .isl false x.length (encExs x)]
def encExs : List Ex → List AVal
  | [] => []
  | e :: l => encEx e ++ encExs l
end
def encI (l : List Int) : List AVal := l.map (.int .i32)
mutual
def encSm : Sm → List AVal
  | .mk op x b i => [.int .i64 op, .isl false x.length (encExs x), .isl false b.length (encSmss b), .isl false i.length (encI i)]
def encSms : List Sm → List AVal
  | [] => []
  | s :: l => encSm s ++ encSms l
def encSmss : List (List Sm) → List AVal
  | [] => []
  | b :: l => .isl false b.length (encSms b) :: encSmss l
end
theorem encTy_len (t : Ty) : (encTy t).length = 4 := by cases t; simp [encTy]
theorem encEx_len (e : Ex) : (encEx e).length = 8 := by cases e with | mk op t i nm x => cases t; simp [encEx]
theorem encSm_len (s : Sm) : (encSm s).length = 4 := by cases s; simp [encSm]
theorem encTys_len : ∀ l, (encTys l).length = l.length * 4
  | [] => rfl
  | t :: l => by simp only [encTys, List.length_append, encTy_len, encTys_len l, List.length_cons]; omega
theorem encExs_len : ∀ l, (encExs l).length = l.length * 8
  | [] => rfl
  | t :: l => by simp only [encExs, List.length_append, encEx_len, encExs_len l, List.length_cons]; omega
theorem encSms_len : ∀ l, (encSms l).length = l.length * 4
  | [] => rfl
  | t :: l => by simp only [encSms, List.length_append, encSm_len, encSms_len l, List.length_cons]; omega
theorem encSmss_len : ∀ l, (encSmss l).length = l.length * 1
  | [] => rfl
  | t :: l => by simp only [encSmss, List.length_cons, encSmss_len l]; omega
theorem encI_len (l : List Int) : (encI l).length = l.length := by simp [encI]
theorem drop_flat {α : Type} (f : α → List AVal) (F : List α → List AVal) (n : Nat) (h0 : F [] = []) (hc : ∀ a l, F (a :: l) = f a ++ F l) (hn : ∀ a, (f a).length = n) :
    ∀ (l : List α) (k : Nat) (a : α), l[k]? = some a → ((F l).drop (k * n)).take n = f a ∧ k * n + n ≤ (F l).length
  | [], k, a, h => by simp at h
  | b :: l, 0, a, h => by
    simp at h; subst h
    rw [hc]
    simp [hn, List.take_append, List.take_of_length_le]
  | b :: l, k + 1, a, h => by
    have h' : l[k]? = some a := by simpa using h
    obtain ⟨h1, h2⟩ := drop_flat f F n h0 hc hn l k a h'
    rw [hc, List.drop_append, hn]
    have e1 : (k + 1) * n - n = k * n := by rw [Nat.succ_mul]; omega
    rw [e1, List.drop_of_length_le (by rw [hn, Nat.succ_mul]; omega), List.nil_append]
    refine ⟨h1, ?_⟩
    rw [List.length_append, hn, Nat.succ_mul]; omega
mutual
theorem encTy_strip : ∀ t, (encTy t).map AVal.strip = encTy t
  | .mk f n s of => by simp [encTy, AVal.strip]
end
theorem encEx_strip (e : Ex) : (encEx e).map AVal.strip = encEx e := by cases e with | mk op t i nm x => cases t; simp [encEx, AVal.strip]
theorem encSm_strip (s : Sm) : (encSm s).map AVal.strip = encSm s := by cases s; simp [encSm, AVal.strip]
theorem read_flat {α : Type} (f : α → List AVal) (F : List α → List AVal) (n : Nat) (h0 : F [] = []) (hc : ∀ a l, F (a :: l) = f a ++ F l) (hn : ∀ a, (f a).length = n) (hs : ∀ a, (f a).map AVal.strip = f a)
    {l : List α} {k : Nat} {a : α} (h : l[k]? = some a) : readRow true n (F l) (k * n) = some (.agg (f a)) := by
  obtain ⟨h1, h2⟩ := drop_flat f F n h0 hc hn l k a h
  have : Nat.ble (k * n + n) (F l).length = true := Nat.ble_eq_true_of_le h2
  simp only [readRow, this, cond_true, h1, hs]
theorem read_ex {l : List Ex} {k : Nat} {e : Ex} (h : l[k]? = some e) : readRow true 8 (encExs l) (k * 8) = some (.agg (encEx e)) := read_flat encEx encExs 8 rfl (fun _ _ => rfl) encEx_len encEx_strip h
theorem read_sm {l : List Sm} {k : Nat} {e : Sm} (h : l[k]? = some e) : readRow true 4 (encSms l) (k * 4) = some (.agg (encSm e)) := read_flat encSm encSms 4 rfl (fun _ _ => rfl) encSm_len encSm_strip h
theorem read_ty {l : List Ty} {k : Nat} {e : Ty} (h : l[k]? = some e) : readRow true 4 (encTys l) (k * 4) = some (.agg (encTy e)) := read_flat encTy encTys 4 rfl (fun _ _ => rfl) encTy_len encTy_strip h
theorem read_body : ∀ {l : List (List Sm)} {k : Nat} {e : List Sm}, l[k]? = some e → readRow false 1 (encSmss l) k = some (.isl false e.length (encSms e))
  | [], k, e, h => by simp at h
  | b :: l, 0, e, h => by simp at h; subst h; rfl
  | b :: l, k + 1, e, h => by
    have := @read_body l k e (by simpa using h)
    simpa [readRow, encSmss] using this
theorem read_i {l : List Int} {k : Nat} {v : Int} (h : l[k]? = some v) : readRow false 1 (encI l) k = some (.int .i32 v) := by
  simp [readRow, encI, h, AVal.strip]
def _root_.Go.Den.Heap.setRow (h : Heap) (b : Nat) (l : List AVal) : Heap := { h with objs := h.objs.set b (.cells l) }
def _root_.Go.Den.Heap.setMap (h : Heap) (b : Nat) (es : List (List UInt8 × AVal)) : Heap := { h with objs := h.objs.set b (.amap es) }
theorem putAt_one (l : List AVal) (i : Nat) (v : AVal) : putAt l i [v] = l.set i v := rfl
theorem hload_of {h : Heap} {b off : Nat} {l : List AVal} {v : AVal} (hb : h.objs[b]? = some (.cells l)) (hv : l[off]? = some v) : hload h false 1 b off = some v.strip := by
  simp [hload, hb, readRow, hv]
theorem hload_of' {h : Heap} {b off : Nat} {l : List AVal} {v : AVal} (hb : h.objs[b]? = some (.cells l)) (hv : l[off]? = some v) (hs : v.strip = v) : hload h false 1 b off = some v := by
  rw [hload_of hb hv, hs]
theorem hstore_of {h : Heap} {b off : Nat} {l : List AVal} {v : AVal} (hb : h.objs[b]? = some (.cells l)) (hr : h.ro ≤ b) (ho : off < l.length) : hstore h b off [v] = some (h.setRow b (l.set off v)) := by
  have h1 : Nat.ble h.ro b = true := Nat.ble_eq_true_of_le hr
  have h2 : Nat.ble (off + 1) l.length = true := Nat.ble_eq_true_of_le ho
  simp only [hstore, hb, h1, List.length_singleton, h2, Bool.and_self, cond_true, Heap.setRow, putAt_one]
theorem hraw_of {h : Heap} {b off : Nat} {l : List AVal} {v : AVal} (hb : h.objs[b]? = some (.cells l)) (hv : l[off]? = some v) : hraw h b off = some v := by simp [hraw, hb, hv]
theorem lt_of_obj {h : Heap} {b : Nat} {o : AObj} (hb : h.objs[b]? = some o) : b < h.objs.length := by
  rcases Nat.lt_or_ge b h.objs.length with h1 | h1
  · exact h1
  · rw [List.getElem?_eq_none h1] at hb; cases hb
theorem setRow_same {h : Heap} {b : Nat} {o : AObj} (l : List AVal) (hb : h.objs[b]? = some o) : (h.setRow b l).objs[b]? = some (.cells l) := by
  simp [Heap.setRow, lt_of_obj hb]
theorem setRow_other {h : Heap} {b b' : Nat} (l : List AVal) (hne : b ≠ b') : (h.setRow b l).objs[b']? = h.objs[b']? := by
  simp [Heap.setRow, List.getElem?_set_ne hne]
@[simp] theorem setRow_ro (h : Heap) (b : Nat) (l : List AVal) : (h.setRow b l).ro = h.ro := rfl
@[simp] theorem setRow_len (h : Heap) (b : Nat) (l : List AVal) : (h.setRow b l).objs.length = h.objs.length := by simp [Heap.setRow]
@[simp] theorem push_ro (h : Heap) (o : AObj) : (h.push o).ro = h.ro := rfl
@[simp] theorem push_len (h : Heap) (o : AObj) : (h.push o).objs.length = h.objs.length + 1 := by simp [Heap.push]
theorem push_new (h : Heap) (o : AObj) : (h.push o).objs[h.objs.length]? = some o := by simp [Heap.push]
theorem push_old {h : Heap} {b : Nat} {x : AObj} (o : AObj) (hb : h.objs[b]? = some x) : (h.push o).objs[b]? = some x := by
  simp [Heap.push, List.getElem?_append_left (lt_of_obj hb), hb]
theorem setMap_same {h : Heap} {b : Nat} {o : AObj} (l) (hb : h.objs[b]? = some o) : (h.setMap b l).objs[b]? = some (.amap l) := by
  simp [Heap.setMap, lt_of_obj hb]
theorem setMap_other {h : Heap} {b b' : Nat} (l) (hne : b ≠ b') : (h.setMap b l).objs[b']? = h.objs[b']? := by
  simp [Heap.setMap, List.getElem?_set_ne hne]
@[simp] theorem setMap_ro (h : Heap) (b : Nat) (l) : (h.setMap b l).ro = h.ro := rfl
@[simp] theorem setMap_len (h : Heap) (b : Nat) (l) : (h.setMap b l).objs.length = h.objs.length := by simp [Heap.setMap]
theorem mget_of {h : Heap} {b : Nat} {key : List UInt8} {es : List (List UInt8 × AVal)} (hb : h.objs[b]? = some (.amap es)) : mget h b key = some (findE key es) := by simp [mget, hb]
theorem mset_of {h : Heap} {b : Nat} {key : List UInt8} {es : List (List UInt8 × AVal)} {v : AVal} (hb : h.objs[b]? = some (.amap es)) (hr : h.ro ≤ b) (hl : v.isLoc = false) (hs : v.stripA = v) : mset h b key v = some (h.setMap b (putM key v es)) := by
  simp [mset, hb, Nat.ble_eq_true_of_le hr, hl, hs, Heap.setMap]
theorem findE_put {key key' : List UInt8} {v : AVal} : ∀ {es : List (List UInt8 × AVal)}, findE key' (putM key v es) = if key' = key then some v else findE key' es
  | [] => by
    by_cases h : key' = key
    · simp [putM, findE, h, beqB_refl]
    · simp [putM, findE, F_str h, h]
  | (k, u) :: es => by
    by_cases h : key = k
    · subst h
      simp only [putM, T_str rfl, cond_true, findE]
      by_cases h' : key' = key
      · simp [h', beqB_refl]
      · simp [F_str h', h']
    · simp only [putM, F_str h, cond_false, findE]
      by_cases h' : key' = k
      · subst h'
        simp [T_str rfl, Ne.symm h]
      · rw [F_str h']
        simp only [cond_false]
        exact findE_put
theorem wrap64 {n : Int} (h1 : -9223372036854775808 ≤ n) (h2 : n ≤ 9223372036854775807) : IntKind.wrap .i64 n = n := by
  show IntKind.wrap .i64 n = n
  have e : IntKind.wrap .i64 n = (n + 9223372036854775808) % 18446744073709551616 - 9223372036854775808 := by
    unfold IntKind.wrap
    simp [IntKind.signed, IntKind.bits]
    omega
  rw [e]; omega
end Go.Wf
namespace Go.Wf
open Go Go.Den
structure EC where
  m : Nat
  r : Nat
  p : Nat
  v : Nat
  z : Nat
  fl : Nat
  E : Env
  side : List (Nat × List AVal)
def over (e t : Int) : AVal := .iface 77 (.agg [.int .i64 e, .int .i64 t])
def bytesV (l : List UInt8) : List AVal := l.map fun b => .int .u8 (b.toNat : Int)
def InV (v : AVal) (l : List UInt8) : Prop := ∃ o, v = .isl o l.length (bytesV l)
def OutV (v : AVal) (l : List UInt8) : Prop := (v = .nils ∧ l = []) ∨ v = .isl true l.length (bytesV l)
def encVr (v : Vr) : List AVal := .str v.name :: .bool v.exp :: encTy v.t
def encVrs : List Vr → List AVal
  | [] => []
  | v :: l => encVr v ++ encVrs l
def encPm (v : Pm) : List AVal := .str v.name :: .bool v.ref :: encTy v.t
def encPms : List Pm → List AVal
  | [] => []
  | v :: l => encPm v ++ encPms l
def encRc (r : Rc) : List AVal := [.str r.name, .bool r.exp, .str r.base, .isl false r.fields.length (encVrs r.fields)]
def encPr (p : Pr) : List AVal := [.str p.name, .bool p.exp, .isl false p.params.length (encPms p.params)] ++ encTy p.result ++ [.isl false p.locals.length (encVrs p.locals), .isl false p.body.length (encSms p.body), .isl false p.ret.length (encExs p.ret)]
def PlaceV (rows : List Nat) (mem : List (List Int)) (l : Loc) (v : AVal) : Prop :=
  ∃ r blk, rows[l.b]? = some r ∧ mem[l.b]? = some blk ∧ l.o ≤ far ∧ v = .agg [.msl r 0 blk.length 1, .int .i64 (l.o : Int)]
def CRef (C : EC) (H : Heap) (x : Nat) : Prop := ∃ es rec, H.objs[C.fl]? = some (.amap es) ∧ findE rec es = some (.map x)
structure FrE (C : EC) (rows : List Nat) (mem : List (List Int)) (f : Fr) (fr : Nat) (H : Heap) : Prop where
  obj : ∃ es, H.objs[fr]? = some (.amap es) ∧ ∀ name l, findR name f = some l → ∃ v, findE name es = some v ∧ PlaceV rows mem l v
  nz : fr ≠ C.z
  nfl : fr ≠ C.fl
  ncr : ¬ CRef C H fr
structure MemE (rows : List Nat) (mem : List (List Int)) (H : Heap) : Prop where
  len : rows.length = mem.length
  nodup : rows.Nodup
  row : ∀ (k r : Nat) (blk : List Int), rows[k]? = some r → mem[k]? = some blk → H.objs[r]? = some (.cells (encI blk))
  ro : ∀ r ∈ rows, H.ro ≤ r
def encObjs (rows : List Nat) (mem : List (List Int)) : List (Nm × Nat) → List AVal
  | [] => []
  | (n, b) :: l => (match rows[b]?, mem[b]? with | some r, some blk => [.str n, .msl r 0 blk.length 1] | _, _ => [.str n, .nils]) ++ encObjs rows mem l
def recW (E : Env) (name : Nm) : Option Nat := words E.R E.k (.mk 8 0 name [])
def offW (E : Env) (rec name : Nm) : Option Nat := (fieldsOf E.R rec).bind fun l => offsetIn (words E.R E.k) name l 0
structure StatE (C : EC) (rows : List Nat) (mem : List (List Int)) (H : Heap) : Prop where
  recs : ∃ es, H.objs[C.r]? = some (.amap es) ∧ ∀ name, findE name es = (findR name C.E.R).map fun r => .agg (encRc r)
  procs : ∃ es, H.objs[C.p]? = some (.amap es) ∧ ∀ name p, findR name C.E.procs = some p → findE name es = some (.agg (encPr p))
  vars : FrE C rows mem C.E.vars C.v H
  rz : C.r ≠ C.z
  rfl' : C.r ≠ C.fl
  pz : C.p ≠ C.z
  pfl : C.p ≠ C.fl
structure CacheE (C : EC) (H : Heap) : Prop where
  sizes : ∃ es, H.objs[C.z]? = some (.amap es) ∧ ∀ name a, findE name es = some a → ∃ n : Nat, a = .int .i64 (n : Int) ∧ recW C.E name = some n
  fields : ∃ es, H.objs[C.fl]? = some (.amap es) ∧ ∀ rec a, findE rec es = some a → ∃ (b : Nat) (fes : List (List UInt8 × AVal)), a = .map b ∧ b ≠ C.z ∧ b ≠ C.fl ∧ H.objs[b]? = some (.amap fes) ∧
    ∀ name n, offW C.E rec name = some n → findE name fes = some (.agg [.int .i64 (n : Int)])
  zfl : C.z ≠ C.fl
  zro : H.ro ≤ C.z
  flro : H.ro ≤ C.fl
theorem CRef.of {C : EC} {H H' : Heap} {x : Nat} (q : CRef C H' x) (h : CacheE C H) (keep : ∀ (b : Nat) es, H.objs[b]? = some (AObj.amap es) → H'.objs[b]? = some (AObj.amap es)) : CRef C H x := by
  obtain ⟨es, rec, h1, h2⟩ := q
  obtain ⟨es', h3, _⟩ := h.fields
  rw [keep _ _ h3] at h1
  cases h1
  exact ⟨es, rec, h3, h2⟩
def machRow (C : EC) (s : St) (th : Nat) (iv ov : AVal) : List AVal :=
  [.map C.r, .map C.p, .map C.v, .map C.z, .map C.fl, .msl th 0 (s.objs.length + 1) 2, .int .i64 s.room, iv, ov, .int .i64 s.fuel, .int .i64 (s.depth : Int)]
def sideOK : List AVal → Bool
  | .ptr _ _ :: _ => true
  | .nils :: _ => true
  | _ => false
structure RE (C : EC) (rows : List Nat) (s : St) (H : Heap) : Prop where
  mach : ∃ th iv ov, H.objs[C.m]? = some (.cells (machRow C s th iv ov)) ∧ InV iv s.inp ∧ OutV ov s.out ∧
    H.objs[th]? = some (.cells ([.str [], .nils] ++ encObjs rows s.mem s.objs)) ∧ th ≠ C.m ∧ th ∉ rows ∧ H.ro ≤ th
  mem : MemE rows s.mem H
  mrow : C.m ∉ rows
  mro : H.ro ≤ C.m
  stat : StatE C rows s.mem H
  cache : CacheE C H
  fuel : -9223372036854775808 ≤ s.fuel ∧ s.fuel ≤ 9223372036854775807
  room : -9223372036854775808 ≤ s.room ∧ s.room ≤ 9223372036854775807
  depth : s.depth ≤ 100
  objs : ∀ o ∈ s.objs, o.2 < s.mem.length
  side : ∀ x ∈ C.side, H.objs[x.1]? = some (.cells x.2) ∧ sideOK x.2 = true ∧ H.ro ≤ x.1
theorem RE.ne_m {C : EC} {rows : List Nat} {s : St} {H : Heap} (h : RE C rows s H) {x : Nat × List AVal} (hx : x ∈ C.side) : C.m ≠ x.1 := fun e => by
  obtain ⟨th, iv, ov, h1, _⟩ := h.mach
  obtain ⟨a, b, _⟩ := h.side x hx
  rw [← e, h1] at a
  simp only [Option.some.injEq, AObj.cells.injEq] at a
  rw [← a] at b
  cases b
theorem RE.ne_th {C : EC} {rows : List Nat} {s : St} {H : Heap} (h : RE C rows s H) {x : Nat × List AVal} (hx : x ∈ C.side) {th : Nat} {l : List AVal} (h4 : H.objs[th]? = some (.cells ([.str [], .nils] ++ l))) : th ≠ x.1 := fun e => by
  obtain ⟨a, b, _⟩ := h.side x hx
  rw [← e, h4] at a
  simp only [Option.some.injEq, AObj.cells.injEq] at a
  rw [← a] at b
  cases b
theorem RE.ne_row {C : EC} {rows : List Nat} {s : St} {H : Heap} (h : RE C rows s H) {x : Nat × List AVal} (hx : x ∈ C.side) {r : Nat} (hr : r ∈ rows) : r ≠ x.1 := fun e => by
  obtain ⟨a, b, _⟩ := h.side x hx
  obtain ⟨k, hk⟩ := List.mem_iff_getElem?.1 hr
  have hkl : k < rows.length := by
    rcases Nat.lt_or_ge k rows.length with q | q
    · exact q
    · rw [List.getElem?_eq_none q] at hk; cases hk
  obtain ⟨blk, hblk⟩ : ∃ blk, s.mem[k]? = some blk := ⟨_, List.getElem?_eq_getElem (by rw [← h.mem.len]; exact hkl)⟩
  have := h.mem.row k r blk hk hblk
  rw [← e, this] at a
  simp only [Option.some.injEq, AObj.cells.injEq] at a
  rw [← a] at b
  cases blk <;> cases b
structure Pres (C : EC) (H H' : Heap) : Prop where
  amap : ∀ (b : Nat) es, H.objs[b]? = some (.amap es) → b ≠ C.z → b ≠ C.fl → H'.objs[b]? = some (.amap es)
  len : H.objs.length ≤ H'.objs.length
  ro : H'.ro = H.ro
  old : ∀ b : Nat, b < H.ro → H'.objs[b]? = H.objs[b]?
  cref : ∀ x, CRef C H' x → CRef C H x ∨ H.objs.length ≤ x
theorem Pres.refl (C : EC) (H : Heap) : Pres C H H := ⟨fun _ _ h _ _ => h, Nat.le_refl _, rfl, fun _ _ => rfl, fun _ q => .inl q⟩
theorem Pres.trans {C : EC} {H H' H'' : Heap} (a : Pres C H H') (b : Pres C H' H'') : Pres C H H'' :=
  ⟨fun x es h h1 h2 => b.amap x es (a.amap x es h h1 h2) h1 h2, Nat.le_trans a.len b.len, b.ro.trans a.ro, fun x hx => (b.old x (by rw [a.ro]; exact hx)).trans (a.old x hx), fun x q => (b.cref x q).elim (a.cref x) (fun k => .inr (Nat.le_trans a.len k))⟩
def MemLe (a b : List (List Int)) : Prop := ∀ (k : Nat) (blk : List Int), a[k]? = some blk → ∃ blk', b[k]? = some blk' ∧ blk'.length = blk.length
theorem MemLe.refl (a : List (List Int)) : MemLe a a := fun _ blk h => ⟨blk, h, rfl⟩
theorem MemLe.trans {a b c : List (List Int)} (h1 : MemLe a b) (h2 : MemLe b c) : MemLe a c := fun k blk h => by
  obtain ⟨x, hx, e⟩ := h1 k blk h
  obtain ⟨y, hy, e'⟩ := h2 k x hx
  exact ⟨y, hy, e'.trans e⟩
structure Post (C : EC) (rows : List Nat) (s : St) (H : Heap) (rows' : List Nat) (s' : St) (H' : Heap) : Prop where
  re : RE C rows' s' H'
  pres : Pres C H H'
  ext : ∃ x, rows' = rows ++ x
  le : MemLe s.mem s'.mem
theorem Post.refl {C : EC} {rows : List Nat} {s : St} {H : Heap} (h : RE C rows s H) : Post C rows s H rows s H := ⟨h, Pres.refl _ _, ⟨[], by simp⟩, MemLe.refl _⟩
theorem Post.trans {C : EC} {r1 r2 r3 : List Nat} {s1 s2 s3 : St} {H1 H2 H3 : Heap} (a : Post C r1 s1 H1 r2 s2 H2) (b : Post C r2 s2 H2 r3 s3 H3) : Post C r1 s1 H1 r3 s3 H3 := by
  obtain ⟨x, rfl⟩ := a.ext
  obtain ⟨y, rfl⟩ := b.ext
  exact ⟨b.re, a.pres.trans b.pres, ⟨x ++ y, by simp⟩, a.le.trans b.le⟩
theorem PlaceV.mono {r1 r2 : List Nat} {m1 m2 : List (List Int)} {l : Loc} {v : AVal} (h : PlaceV r1 m1 l v) (he : ∃ x, r2 = r1 ++ x) (hl : MemLe m1 m2) : PlaceV r2 m2 l v := by
  obtain ⟨r, blk, h1, h2, h0, h3⟩ := h
  obtain ⟨x, rfl⟩ := he
  obtain ⟨blk', h4, h5⟩ := hl _ _ h2
  refine ⟨r, blk', ?_, h4, h0, by rw [h5]; exact h3⟩
  rw [List.getElem?_append_left]
  · exact h1
  · rcases Nat.lt_or_ge l.b r1.length with q | q
    · exact q
    · rw [List.getElem?_eq_none q] at h1; cases h1
theorem FrE.mono {C : EC} {r1 r2 : List Nat} {s1 s2 : St} {f : Fr} {fr : Nat} {H1 H2 : Heap} (h : FrE C r1 s1.mem f fr H1) (p : Post C r1 s1 H1 r2 s2 H2) : FrE C r2 s2.mem f fr H2 := by
  obtain ⟨es, h1, h2⟩ := h.obj
  refine ⟨⟨es, p.pres.amap _ _ h1 h.nz h.nfl, fun name l hl => ?_⟩, h.nz, h.nfl, fun q => (p.pres.cref _ q).elim h.ncr (fun k => by have := lt_of_obj h1; omega)⟩
  obtain ⟨v, hv, hp⟩ := h2 name l hl
  exact ⟨v, hv, hp.mono p.ext p.le⟩
def OutE (C : EC) (out : List UInt8) (H : Heap) : Prop := (∃ row ov, H.objs[C.m]? = some (.cells row) ∧ row[8]? = some ov ∧ OutV ov out) ∧ ∀ x ∈ C.side, H.objs[x.1]? = some (.cells x.2) ∧ sideOK x.2 = true ∧ H.ro ≤ x.1
theorem RE.out {C : EC} {rows : List Nat} {s : St} {H : Heap} (h : RE C rows s H) : OutE C s.out H := by
  obtain ⟨th, iv, ov, h1, _, h3, _⟩ := h.mach
  exact ⟨⟨_, ov, h1, rfl, h3⟩, h.side⟩
def Does {α : Type} (P : Prims) (f : FuncId) (args : List AVal) (C : EC) (rows : List Nat) (s : St) (H : Heap) (Q : List Nat → St → α → AVal → Prop) : Rs α → Prop
  | .ok a s' => ∃ rows' H' v, Ev P f args H (.ret v) H' ∧ Q rows' s' a v ∧ Post C rows s H rows' s' H'
  | .stop e t s' => ∃ H', Ev P f args H (.panic (over e t)) H' ∧ OutE C s'.out H'
def QU : List Nat → St → Unit → AVal → Prop := fun _ _ _ v => v = .tup []
def QI : List Nat → St → Int → AVal → Prop := fun _ _ a v => v = .int .i32 a
def QP : List Nat → St → Loc → AVal → Prop := fun rows s l v => PlaceV rows s.mem l v
def QB : List Nat → St → Bool → AVal → Prop := fun _ _ a v => v = .bool a
def isPrim (f : Nat) : Bool := f == 239 || f == 240 || f == 37 || f == 38 || f == 171 || f == 134 || f == 202 || f == 207 || f == 28 || f == 13 || f == 22 || f == 24 || f == 36
def litC (form v : Int) : List AVal := [.int .i64 0, .int .i64 form, .int .i64 0, .str [], .nils, .int .i32 v, .str [], .nils]
def FoldV (o : Option Int) (v : AVal) : Prop := ∃ x8 x9 x10 x11 x12 s4 s5, v = .tup [.agg [.int .i64 x8, .int .i64 x9, .int .i64 x10, .str s4, .nils, .int .i32 x11, .str s5, .nils], .int .i64 x12] ∧
  match o with
  | some r => x12 = 0 ∧ x11 = r
  | none => x12 ≠ 0
def InW (v : AVal) (l : List UInt8) : Prop := v = .isl false l.length (bytesV l)
def Scr (H H' : Heap) : Prop := H' = H ∨ ∃ l, H' = H.push (.cells l)
structure PK (P : Prims) : Prop where
  clone : ∀ v l H, l.length ≤ most → InW v l → Ev P 28 [v] H (.ret (.isl false l.length (bytesV l))) H
  pl : ∀ f, isPrim f = false → P f = none
  has : ∀ s H, Ev P 171 [.str s, .str [46]] H (.ret (.bool (dot s))) H
  app : ∀ v l n H, OutV v l → ioOK n = true → l.length + (decI n).length ≤ most → ∃ v' H', Ev P 134 [v, .int .i64 n, .int .i64 10] H (.ret v') H' ∧ OutV v' (l ++ decI n) ∧ Scr H H'
  fold1 : ∀ op tf tn ts k cs form a o H, 1 ≤ form → form ≤ 4 → un op form a = some o → in32 a = true → ∃ v, Ev P 207 [.agg [.int .i64 op, .int .i64 tf, .int .i64 tn, .str ts, .isl false k cs, .int .i32 0, .str [], .isl false 1 (litC form a)]] H (.ret v) H ∧ FoldV o v
  fold2 : ∀ op tf tn ts k cs f1 a f2 b o H, 1 ≤ f1 → f1 ≤ 4 → 1 ≤ f2 → f2 ≤ 4 → bin op f1 a b = some o → in32 a = true → in32 b = true → ∃ v, Ev P 207 [.agg [.int .i64 op, .int .i64 tf, .int .i64 tn, .str ts, .isl false k cs, .int .i32 0, .str [], .isl false 2 (litC f1 a ++ litC f2 b)]] H (.ret v) H ∧ FoldV o v
  elem : ∀ n H, Ev P 178 [.int .i32 n] H (.ret (.bool (elemB n))) H
  num : ∀ f v H, Ev P 206 [.int .i64 f, .int .i32 v] H (.ret (.agg (litC f v))) H
  isC : ∀ f v H, Ev P 205 [.agg (litC f v)] H (.ret (.bool (decide (1 ≤ f) && decide (f ≤ 4)))) H
  span : ∀ a b H, in32 a = true → in32 b = true → Ev P 204 [.int .i32 a, .int .i32 b] H (.ret (.tup [.int .i32 (cond (elemB a && elemB b) (spanOf a b) 0), .bool (elemB a && elemB b)])) H
theorem bind_ok {α β : Type} {m : M α} {g : α → M β} {s : St} {r : Rs β} (h : (m >>= g) s = some r) :
    (∃ a s', m s = some (.ok a s') ∧ g a s' = some r) ∨ (∃ e t s', m s = some (.stop e t s') ∧ r = .stop e t s') := by
  have h' : M.bind m g s = some r := h
  unfold M.bind at h'
  split at h'
  · rename_i a s' hm; exact .inl ⟨a, s', hm, h'⟩
  · rename_i e t s' hm; cases h'; exact .inr ⟨e, t, s', hm, rfl⟩
  · cases h'
theorem pure_ok {α : Type} {a : α} {s : St} {r : Rs α} (h : (pure a : M α) s = some r) : r = .ok a s := by
  have h' : some (Rs.ok a s) = some r := h
  cases h'; rfl
theorem need_ok {α : Type} {o : Option α} {s : St} {r : Rs α} (h : need o s = some r) : ∃ a, o = some a ∧ r = .ok a s := by
  unfold need at h
  split at h
  · rename_i a; cases h; exact ⟨a, rfl, rfl⟩
  · cases h
theorem locM_ok {b o : Nat} {s : St} {r : Rs Loc} (h : locM b o s = some r) : o ≤ far ∧ r = .ok ⟨b, o⟩ s := by
  unfold locM at h
  split at h
  · cases h; exact ⟨by assumption, rfl⟩
  · cases h
theorem must_ok {c : Bool} {t : Int} {s : St} {r : Rs Unit} (h : must c t s = some r) : (c = true ∧ r = .ok () s) ∨ (c = false ∧ r = .stop 2 t s) := by
  cases c with
  | true => exact .inl ⟨rfl, (pure_ok h)⟩
  | false => cases h; exact .inr ⟨rfl, rfl⟩
variable {P : Prims} {C : EC} {rows : List Nat} {s : St} {H : Heap}
theorem RE.ld (h : RE C rows s H) {off : Nat} {v : AVal} (hv : ∀ th iv ov, (machRow C s th iv ov)[off]? = some v) (hs : v.strip = v) : hload H false 1 C.m off = some v := by
  obtain ⟨th, iv, ov, h1, _⟩ := h.mach
  exact hload_of' h1 (hv _ _ _) hs
theorem RE.set (h : RE C rows s H) {off : Nat} {v : AVal} {s' : St} (hrow : ∀ th iv ov, (machRow C s th iv ov).set off v = machRow C s' th iv ov) (hoff : off < 11) (hm : s'.mem = s.mem) (ho : s'.objs = s.objs) (hi : s'.inp = s.inp) (hu : s'.out = s.out)
    (hf : -9223372036854775808 ≤ s'.fuel ∧ s'.fuel ≤ 9223372036854775807) (hr : -9223372036854775808 ≤ s'.room ∧ s'.room ≤ 9223372036854775807) (hd : s'.depth ≤ 100) :
    ∃ H', hstore H C.m off [v] = some H' ∧ Post C rows s H rows s' H' := by
  obtain ⟨th, iv, ov, h1, h2, h3, h4, h5, h6, h7⟩ := h.mach
  refine ⟨_, hstore_of h1 h.mro (by simpa [machRow] using hoff), ?_⟩
  have oth : ∀ (b : Nat) es, H.objs[b]? = some (AObj.amap es) → b ≠ C.m := fun b es hb e => by subst e; rw [h1] at hb; cases hb
  have keep : ∀ (b : Nat) es, H.objs[b]? = some (AObj.amap es) → (H.setRow C.m ((machRow C s th iv ov).set off v)).objs[b]? = some (AObj.amap es) := fun b es hb => by
    rw [setRow_other _ (oth b es hb).symm]; exact hb
  have frm : ∀ {f : Fr} {fr : Nat}, FrE C rows s.mem f fr H → FrE C rows s'.mem f fr (H.setRow C.m ((machRow C s th iv ov).set off v)) := fun hF => by
    obtain ⟨es, q1, q2⟩ := hF.obj
    exact ⟨⟨es, keep _ _ q1, by rw [hm]; exact q2⟩, hF.nz, hF.nfl, fun q => hF.ncr (q.of h.cache keep)⟩
  refine ⟨⟨⟨th, iv, ov, ?_, by rw [hi]; exact h2, by rw [hu]; exact h3, ?_, h5, h6, h7⟩, ⟨by rw [hm]; exact h.mem.len, h.mem.nodup, ?_, h.mem.ro⟩, h.mrow, h.mro, ⟨?_, ?_, ?_, h.stat.rz, h.stat.rfl', h.stat.pz, h.stat.pfl⟩, ⟨?_, ?_, h.cache.zfl, h.cache.zro, h.cache.flro⟩, hf, hr, hd, by rw [hm, ho]; exact h.objs, fun x hx => ⟨by rw [setRow_other _ (h.ne_m hx)]; exact (h.side x hx).1, (h.side x hx).2⟩⟩, ⟨fun b es hb _ _ => keep b es hb, by simp, rfl, fun b hb => ?_, fun x q => .inl (q.of h.cache keep)⟩, ⟨[], by simp⟩, by rw [hm]; exact MemLe.refl _⟩
  · rw [setRow_same _ h1, hrow]
  · rw [setRow_other _ h5.symm, hm, ho]; exact h4
  · intro k r blk hr' hb
    rw [hm] at hb
    have := h.mem.row k r blk hr' hb
    rw [setRow_other _ (fun e => h.mrow (by rw [e]; exact List.mem_of_getElem? hr'))]
    exact this
  · obtain ⟨es, q1, q2⟩ := h.stat.recs; exact ⟨es, keep _ _ q1, q2⟩
  · obtain ⟨es, q1, q2⟩ := h.stat.procs; exact ⟨es, keep _ _ q1, q2⟩
  · exact frm h.stat.vars
  · obtain ⟨es, q1, q2⟩ := h.cache.sizes; exact ⟨es, keep _ _ q1, q2⟩
  · obtain ⟨es, q1, q2⟩ := h.cache.fields
    refine ⟨es, keep _ _ q1, fun rec a ha => ?_⟩
    obtain ⟨b, fes, p1, p2, p3, p4, p5⟩ := q2 rec a ha
    exact ⟨b, fes, p1, p2, p3, keep _ _ p4, p5⟩
  · have : b ≠ C.m := fun e => by have := h.mro; omega
    exact setRow_other _ (Ne.symm this)
theorem w_burn (hP : PK P) (h : RE C rows s H) {r : Rs Unit} (hs : burn s = some r) : Does P 42 [.ptr C.m 0] C rows s H QU r := by
  have hl : hload H false 1 C.m 9 = some (.int .i64 s.fuel) := h.ld (fun _ _ _ => rfl) rfl
  unfold burn at hs
  by_cases hf : s.fuel ≤ 0
  · rw [if_pos hf] at hs; cases hs
    exact ⟨H, r42_0 (hP.pl 42 rfl) hl hf, h.out⟩
  · rw [if_neg hf] at hs; cases hs
    obtain ⟨H', h1, h2⟩ := h.set (off := 9) (v := .int .i64 (s.fuel - 1)) (s' := { s with fuel := s.fuel - 1 }) (fun _ _ _ => rfl) (by decide) rfl rfl rfl rfl (by have := h.fuel; simp only; omega) h.room h.depth
    exact ⟨rows, H', _, r42_1 (hP.pl 42 rfl) hl hf (wrap64 (by omega) (by have := h.fuel; omega)) h1, rfl, h2⟩
theorem w_trap (hP : PK P) (t : Int) (H : Heap) : Ev P 71 [.int .i64 t] H (.panic (over 2 t)) H := r71_0 (hP.pl 71 rfl)
theorem w_mustT (hP : PK P) (t : Int) (H : Heap) : Ev P 129 [.bool true, .int .i64 t] H (.ret (.tup [])) H := r129_1 (hP.pl 129 rfl) rfl
theorem w_mustF (hP : PK P) (t : Int) (H : Heap) : Ev P 129 [.bool false, .int .i64 t] H (.panic (over 2 t)) H := r129_0 (hP.pl 129 rfl) rfl (w_trap hP t H)
end Go.Wf
namespace Go.Wf
open Go Go.Den
variable {P : Prims} {C : EC} {rows : List Nat} {s : St} {H : Heap}
theorem get_lt {α : Type} {l : List α} {k : Nat} {a : α} (h : l[k]? = some a) : k < l.length := by
  rcases Nat.lt_or_ge k l.length with q | q
  · exact q
  · rw [List.getElem?_eq_none q] at h; cases h
theorem encObjs_mono {r1 r2 : List Nat} {m1 m2 : List (List Int)} (he : ∃ x, r2 = r1 ++ x) (hl : MemLe m1 m2) (hlen : r1.length = m1.length) : ∀ {l : List (Nm × Nat)}, (∀ o ∈ l, o.2 < m1.length) → encObjs r2 m2 l = encObjs r1 m1 l
  | [], _ => rfl
  | (n, b) :: l, h => by
    obtain ⟨x, rfl⟩ := he
    have hb : b < m1.length := h (n, b) List.mem_cons_self
    obtain ⟨r, hr⟩ : ∃ r, r1[b]? = some r := ⟨_, List.getElem?_eq_getElem (by omega)⟩
    obtain ⟨blk, hk⟩ : ∃ blk, m1[b]? = some blk := ⟨_, List.getElem?_eq_getElem hb⟩
    obtain ⟨blk', hk', e⟩ := hl _ _ hk
    have hr' : (r1 ++ x)[b]? = some r := by rw [List.getElem?_append_left (by omega)]; exact hr
    simp only [encObjs, hr, hk, hr', hk', e]
    rw [encObjs_mono ⟨x, rfl⟩ hl hlen (fun o ho => h o (List.mem_cons_of_mem _ ho))]
theorem loadL_ok {l : Loc} {r : Rs Int} (h : loadL l s = some r) : ∃ blk x, s.mem[l.b]? = some blk ∧ blk[l.o]? = some x ∧ r = .ok x s := by
  unfold loadL at h
  cases hb : s.mem[l.b]? with
  | none => rw [hb] at h; cases h
  | some blk =>
    rw [hb] at h
    simp only [Option.bind_some] at h
    cases hx : blk[l.o]? with
    | none => rw [hx] at h; cases h
    | some x => rw [hx] at h; cases h; exact ⟨blk, x, rfl, hx, rfl⟩
theorem keepL_ok {l : Loc} {v : Int} {r : Rs Unit} (h : keepL l v s = some r) : ∃ blk, s.mem[l.b]? = some blk ∧ l.o < blk.length ∧ r = .ok () { s with mem := s.mem.set l.b (blk.set l.o v) } := by
  unfold keepL at h
  cases hb : s.mem[l.b]? with
  | none => rw [hb] at h; cases h
  | some blk =>
    rw [hb] at h
    simp only at h
    by_cases hx : l.o < blk.length
    · rw [if_pos hx] at h; cases h; exact ⟨blk, rfl, hx, rfl⟩
    · rw [if_neg hx] at h; cases h
theorem RE.word (h : RE C rows s H) {b r : Nat} {blk : List Int} (hr : rows[b]? = some r) (hb : s.mem[b]? = some blk) {o : Nat} {x : Int} (hx : blk[o]? = some x) : hload H false 1 r o = some (.int .i32 x) :=
  hload_of' (h.mem.row b r blk hr hb) (by simp [encI, hx]) rfl
theorem RE.blk (h : RE C rows s H) {b r : Nat} {blk blk' : List Int} (hr : rows[b]? = some r) (hb : s.mem[b]? = some blk) (hl : blk'.length = blk.length) :
    Post C rows s H rows { s with mem := s.mem.set b blk' } (H.setRow r (encI blk')) := by
  have ho := h.mem.row b r blk hr hb
  have hmem : r ∈ rows := List.mem_of_getElem? hr
  have hle : MemLe s.mem (s.mem.set b blk') := fun k x hk => by
    by_cases e : b = k
    · subst e
      rw [hb] at hk; cases hk
      exact ⟨blk', by simp [get_lt hb], hl⟩
    · exact ⟨x, by rw [List.getElem?_set_ne e]; exact hk, rfl⟩
  have keep : ∀ (b : Nat) es, H.objs[b]? = some (AObj.amap es) → (H.setRow r (encI blk')).objs[b]? = some (AObj.amap es) := fun b' es hb' => by
    rw [setRow_other _ (fun e => by subst e; rw [ho] at hb'; cases hb')]; exact hb'
  have frm : ∀ {f : Fr} {fr : Nat}, FrE C rows s.mem f fr H → FrE C rows (s.mem.set b blk') f fr (H.setRow r (encI blk')) := fun hF => by
    obtain ⟨es, q1, q2⟩ := hF.obj
    refine ⟨⟨es, keep _ _ q1, fun name l hn => ?_⟩, hF.nz, hF.nfl, fun q => hF.ncr (q.of h.cache (fun b es => keep b _))⟩
    obtain ⟨v, q3, q4⟩ := q2 name l hn
    exact ⟨v, q3, q4.mono ⟨[], by simp⟩ hle⟩
  obtain ⟨th, iv, ov, h1, h2, h3, h4, h5, h6, h7⟩ := h.mach
  refine ⟨⟨⟨th, iv, ov, ?_, h2, h3, ?_, h5, h6, h7⟩, ⟨by simpa using h.mem.len, h.mem.nodup, ?_, h.mem.ro⟩, h.mrow, h.mro, ⟨?_, ?_, frm h.stat.vars, h.stat.rz, h.stat.rfl', h.stat.pz, h.stat.pfl⟩, ⟨?_, ?_, h.cache.zfl, h.cache.zro, h.cache.flro⟩, h.fuel, h.room, h.depth, ?_, fun x hx => ⟨by rw [setRow_other _ (h.ne_row hx hmem)]; exact (h.side x hx).1, (h.side x hx).2⟩⟩,
    ⟨fun b es hb _ _ => keep b es hb, by simp, rfl, fun b hb => setRow_other _ (fun e => by have := h.mem.ro r hmem; omega), fun x q => .inl (q.of h.cache (fun b es => keep b _))⟩, ⟨[], by simp⟩, hle⟩
  · rw [setRow_other _ (fun e => h.mrow (by rw [← e]; exact hmem))]; exact h1
  · rw [setRow_other _ (fun e => h6 (by rw [← e]; exact hmem)), h4]
    rw [encObjs_mono ⟨[], by simp⟩ hle h.mem.len h.objs]
  · intro k r' x hk hx
    by_cases e : b = k
    · subst e
      rw [hr] at hk; cases hk
      simp [get_lt hb] at hx
      subst hx
      exact setRow_same _ ho
    · rw [List.getElem?_set_ne e] at hx
      have hne : r ≠ r' := fun e' => by
        subst e'
        have := (List.getElem?_inj (get_lt hr) h.mem.nodup).1 (hr.trans hk.symm)
        exact e this
      rw [setRow_other _ hne]
      exact h.mem.row k r' x hk hx
  · obtain ⟨es, q1, q2⟩ := h.stat.recs; exact ⟨es, keep _ _ q1, q2⟩
  · obtain ⟨es, q1, q2⟩ := h.stat.procs; exact ⟨es, keep _ _ q1, q2⟩
  · obtain ⟨es, q1, q2⟩ := h.cache.sizes; exact ⟨es, keep _ _ q1, q2⟩
  · obtain ⟨es, q1, q2⟩ := h.cache.fields
    refine ⟨es, keep _ _ q1, fun rec a ha => ?_⟩
    obtain ⟨b, fes, p1, p2, p3, p4, p5⟩ := q2 rec a ha
    exact ⟨b, fes, p1, p2, p3, keep _ _ p4, p5⟩
  · simpa using h.objs
theorem RE.keep (h : RE C rows s H) {l : Loc} {r : Nat} {blk : List Int} (hr : rows[l.b]? = some r) (hb : s.mem[l.b]? = some blk) (ho : l.o < blk.length) (v : Int) :
    ∃ H', hstore H r l.o [.int .i32 v] = some H' ∧ Post C rows s H rows { s with mem := s.mem.set l.b (blk.set l.o v) } H' := by
  have hrow := h.mem.row _ _ _ hr hb
  refine ⟨_, hstore_of hrow (h.mem.ro r (List.mem_of_getElem? hr)) (by simpa [encI] using ho), ?_⟩
  have e : (encI blk).set l.o (.int .i32 v) = encI (blk.set l.o v) := by simp [encI, List.map_set]
  rw [e]
  exact h.blk hr hb (by simp)
theorem RE.push (h : RE C rows s H) (blk : List Int) : Post C rows s H (rows ++ [H.objs.length]) { s with mem := s.mem ++ [blk] } (H.push (.cells (encI blk))) := by
  have hle : MemLe s.mem (s.mem ++ [blk]) := fun k x hk => ⟨x, by rw [List.getElem?_append_left (get_lt hk)]; exact hk, rfl⟩
  have keep : ∀ (b : Nat) o, H.objs[b]? = some o → (H.push (.cells (encI blk))).objs[b]? = some o := fun b o hb => push_old _ hb
  have hnew : ∀ r ∈ rows, r < H.objs.length := fun r hr => by
    obtain ⟨k, hk⟩ := List.mem_iff_getElem?.1 hr
    obtain ⟨x, hx⟩ : ∃ x, s.mem[k]? = some x := ⟨_, List.getElem?_eq_getElem (by rw [← h.mem.len]; exact get_lt hk)⟩
    exact lt_of_obj (h.mem.row k r x hk hx)
  have frm : ∀ {f : Fr} {fr : Nat}, FrE C rows s.mem f fr H → FrE C (rows ++ [H.objs.length]) (s.mem ++ [blk]) f fr (H.push (.cells (encI blk))) := fun hF => by
    obtain ⟨es, q1, q2⟩ := hF.obj
    refine ⟨⟨es, keep _ _ q1, fun name l hn => ?_⟩, hF.nz, hF.nfl, fun q => hF.ncr (q.of h.cache (fun b es => keep b _))⟩
    obtain ⟨v, q3, q4⟩ := q2 name l hn
    exact ⟨v, q3, q4.mono ⟨_, rfl⟩ hle⟩
  obtain ⟨th, iv, ov, h1, h2, h3, h4, h5, h6, h7⟩ := h.mach
  have hro : H.ro ≤ H.objs.length := by have := h.mro; have := lt_of_obj h1; omega
  refine ⟨⟨⟨th, iv, ov, keep _ _ h1, h2, h3, ?_, h5, ?_, h7⟩, ⟨by simp [h.mem.len], ?_, ?_, ?_⟩, ?_, h.mro, ⟨?_, ?_, frm h.stat.vars, h.stat.rz, h.stat.rfl', h.stat.pz, h.stat.pfl⟩, ⟨?_, ?_, h.cache.zfl, h.cache.zro, h.cache.flro⟩, h.fuel, h.room, h.depth, ?_, fun x hx => ⟨keep _ _ (h.side x hx).1, (h.side x hx).2⟩⟩,
    ⟨fun b es hb _ _ => keep b _ hb, by simp, rfl, fun b hb => ?_, fun x q => .inl (q.of h.cache (fun b es => keep b _))⟩, ⟨_, rfl⟩, hle⟩
  · rw [keep _ _ h4, encObjs_mono ⟨_, rfl⟩ hle h.mem.len h.objs]
  · simp only [List.mem_append, List.mem_singleton, not_or]
    exact ⟨h6, fun e => by have := lt_of_obj h4; omega⟩
  · rw [List.nodup_append]
    refine ⟨h.mem.nodup, by simp, fun a ha b hb => ?_⟩
    simp at hb; subst hb
    have := hnew a ha; omega
  · intro k r x hk hx
    by_cases e : k < rows.length
    · rw [List.getElem?_append_left e] at hk
      rw [List.getElem?_append_left (by rw [← h.mem.len]; exact e)] at hx
      exact keep _ _ (h.mem.row k r x hk hx)
    · have e1 : k = rows.length := by have := get_lt hk; simp at this; omega
      subst e1
      have e2 : rows.length = s.mem.length := h.mem.len
      rw [List.getElem?_append_right (Nat.le_refl _)] at hk
      rw [e2, List.getElem?_append_right (Nat.le_refl _)] at hx
      simp at hk hx
      subst hk; subst hx
      exact push_new _ _
  · intro r hr
    simp only [List.mem_append, List.mem_singleton] at hr
    rcases hr with hr | rfl
    · exact h.mem.ro r hr
    · exact hro
  · simp only [List.mem_append, List.mem_singleton, not_or]
    exact ⟨h.mrow, fun e => by have := lt_of_obj h1; omega⟩
  · obtain ⟨es, q1, q2⟩ := h.stat.recs; exact ⟨es, keep _ _ q1, q2⟩
  · obtain ⟨es, q1, q2⟩ := h.stat.procs; exact ⟨es, keep _ _ q1, q2⟩
  · obtain ⟨es, q1, q2⟩ := h.cache.sizes; exact ⟨es, keep _ _ q1, q2⟩
  · obtain ⟨es, q1, q2⟩ := h.cache.fields
    refine ⟨es, keep _ _ q1, fun rec a ha => ?_⟩
    obtain ⟨b, fes, p1, p2, p3, p4, p5⟩ := q2 rec a ha
    exact ⟨b, fes, p1, p2, p3, keep _ _ p4, p5⟩
  · intro o ho
    have := h.objs o ho
    simp; omega
  · have := h.mro; have := lt_of_obj h1
    rw [Heap.push, List.getElem?_append_left (by omega)]
theorem RE.newP (h : RE C rows s H) (blk : List Int) : PlaceV (rows ++ [H.objs.length]) (s.mem ++ [blk]) ⟨s.mem.length, 0⟩ (.agg [.msl H.objs.length 0 blk.length 1, .int .i64 0]) :=
  ⟨H.objs.length, blk, by rw [← h.mem.len]; simp, by simp, Nat.zero_le _, rfl⟩
theorem repL_enc : ∀ n : Nat, repL [.int .i32 0] n = encI (List.replicate n 0)
  | 0 => rfl
  | n + 1 => by simp [repL, repL_enc n, encI, List.replicate_succ]
theorem w_one (hP : PK P) (h : RE C rows s H) (v : Int) {r : Rs Loc} (hs : freshB [v] s = some r) : Does P 128 [.int .i32 v] C rows s H QP r := by
  cases hs
  exact ⟨_, _, _, r128_0 (hP.pl 128 rfl), h.newP [v], h.push [v]⟩
end Go.Wf
namespace Go.Wf
open Go Go.Den
variable {P : Prims} {C : EC} {rows : List Nat} {s : St} {H : Heap}
structure RecK (P : Prims) (C : EC) : Prop where
  recd : ∀ name n rows s H, recW C.E name = some n → RE C rows s H → ∃ H', Ev P 72 [.ptr C.m 0, .str name] H (.ret (.int .i64 (n : Int))) H' ∧ Post C rows s H rows s H'
  off : ∀ rec name n rows s H, offW C.E rec name = some n → RE C rows s H → ∃ H', Ev P 172 [.ptr C.m 0, .str rec, .str name] H (.ret (.int .i64 (n : Int))) H' ∧ Post C rows s H rows s H'
  ext : ∀ a b t rows s H, extendsR C.E.R (C.E.R.length + 1) a b = some t → RE C rows s H → ∃ H', Ev P 203 [.str a, .str b, .map C.r] H (.ret (.bool t)) H' ∧ Post C rows s H rows s H'
theorem rightT_mono : ∀ (k k' : Nat) (t : Ty), k ≤ k' → rightT k t = true → rightT k' t = true
  | 0, _, t, _, h => by cases t; simp [rightT] at h
  | k + 1, 0, t, hk, _ => by omega
  | k + 1, k' + 1, .mk f n s of, hk, h => by
    unfold rightT at h ⊢
    by_cases h1 : 1 ≤ f ∧ f ≤ 4
    · rw [if_pos h1] at h ⊢; exact h
    · rw [if_neg h1] at h ⊢
      by_cases h2 : f = 7
      · rw [if_pos h2] at h ⊢
        cases of with
        | nil => simp at h
        | cons u l => cases l with
          | nil =>
            simp only [Bool.and_eq_true] at h ⊢
            exact ⟨h.1, rightT_mono k k' u (by omega) h.2⟩
          | cons _ _ => simp at h
      · rw [if_neg h2] at h ⊢; exact h
theorem sumW_mono {g g' : Ty → Option Nat} (hg : ∀ t n, g t = some n → g' t = some n) : ∀ (l : List Vr) (a n : Nat), sumW g l a = some n → sumW g' l a = some n
  | [], a, n, h => h
  | v :: l, a, n, h => by
    unfold sumW at h ⊢
    cases hv : g v.t with
    | none => rw [hv] at h; cases h
    | some k =>
      rw [hv] at h
      rw [hg _ _ hv]
      simp only at h ⊢
      split at h
      · rename_i hk; rw [if_pos hk]; exact sumW_mono hg l _ n h
      · cases h
theorem words_mono {R : Recs} : ∀ (k k' : Nat) (t : Ty) (n : Nat), k ≤ k' → words R k t = some n → words R k' t = some n
  | 0, _, t, n, _, h => by simp [words] at h
  | k + 1, 0, t, n, hk, _ => by omega
  | k + 1, k' + 1, t, n, hk, h => by
    unfold words at h ⊢
    cases hr : rightT (k + 1) t with
    | false => rw [hr] at h; simp at h
    | true =>
      rw [hr] at h
      rw [rightT_mono (k + 1) (k' + 1) t hk hr]
      simp only [if_true] at h ⊢
      by_cases h7 : t.form = 7
      · rw [if_pos h7] at h ⊢
        split at h
        · rename_i u hu
          split at h
          · rename_i m hm
            rw [words_mono k k' u m (by omega) hm]
            exact h
          · cases h
        · cases h
      · rw [if_neg h7] at h ⊢
        by_cases h8 : t.form = 8
        · rw [if_pos h8] at h ⊢
          split at h
          · rename_i l hl
            exact sumW_mono (fun t n => words_mono k k' t n (by omega)) l 0 n h
          · cases h
        · rw [if_neg h8] at h ⊢; exact h
theorem sumW_le {g : Ty → Option Nat} : ∀ (l : List Vr) (a n : Nat), sumW g l a = some n → a ≤ 16384 → n ≤ 16384
  | [], a, n, h, ha => by cases h; exact ha
  | v :: l, a, n, h, ha => by
    unfold sumW at h
    split at h
    · split at h
      · rename_i hk; exact sumW_le l _ n h hk
      · cases h
    · cases h
theorem words_le {R : Recs} {k : Nat} {t : Ty} {n : Nat} (h : words R k t = some n) : n ≤ 16384 := by
  cases k with
  | zero => simp [words] at h
  | succ k =>
    unfold words at h
    split at h
    · split at h
      · split at h
        · split at h
          · split at h
            · cases h; assumption
            · cases h
          · cases h
        · cases h
      · split at h
        · split at h
          · exact sumW_le _ _ _ h (by omega)
          · cases h
        · cases h; omega
    · cases h
theorem w_words (hP : PK P) (hR : RecK P C) : ∀ (k : Nat) (t : Ty) (n : Nat), k ≤ C.E.k → words C.E.R k t = some n → ∀ rows s H, RE C rows s H →
    ∃ H', Ev P 41 [.ptr C.m 0, .agg (encTy t)] H (.ret (.int .i64 (n : Int))) H' ∧ Post C rows s H rows s H'
  | 0, t, n, _, h => by simp [words] at h
  | k + 1, .mk f tn nm of, n, hk, h => by
    intro rows s H hRE
    have h0 := h
    unfold words at h
    cases hr : rightT (k + 1) (.mk f tn nm of) with
    | false => rw [hr] at h; simp at h
    | true =>
      rw [hr] at h
      simp only [if_true, Ty.form, Ty.of, Ty.n, Ty.name] at h
      by_cases h7 : f = 7
      · subst h7
        simp only [if_true] at h
        split at h
        · rename_i u
          split at h
          · rename_i m hm
            by_cases hle : m * tn.toNat ≤ 16384
            · simp only [hle, if_true] at h
              cases h
              obtain ⟨H1, e1, p1⟩ := w_words hP hR k u m (by omega) hm rows s H hRE
              have hb : 1 ≤ tn ∧ tn ≤ 1024 := by
                unfold rightT at hr
                simp at hr
                exact ⟨hr.1.1.1, hr.1.1.2⟩
              have hm' := words_le hm
              cases u with
              | mk f1 n1 s1 of1 =>
                have ho3 := read_ty (l := [Ty.mk f1 n1 s1 of1]) (k := 0) rfl
                rw [Nat.zero_mul] at ho3
                refine ⟨H1, r41_3 (hP.pl 41 rfl) rfl (by simp) (by simp [encTys, encTy_len]) ho3 e1 (by omega) (by omega) (by omega) ?_, p1⟩
                have e : tn * (m : Int) = ((m * tn.toNat : Nat) : Int) := by
                  rw [Int.natCast_mul, Int.toNat_of_nonneg (by omega), Int.mul_comm]
                rw [e]
                exact wrap64 (by omega) (by omega)
            · simp only [hle, if_false] at h; cases h
          · cases h
        · cases h
      · simp only [h7, if_false] at h
        by_cases h8 : f = 8
        · subst h8
          have hr' : tn = 0 ∧ of = [] := by
            unfold rightT at hr
            simp at hr
            exact ⟨hr.1.1, by simpa using hr.2⟩
          obtain ⟨rfl, rfl⟩ := hr'
          obtain ⟨H1, e1, p1⟩ := hR.recd nm n rows s H (words_mono _ _ _ _ hk h0) hRE
          exact ⟨H1, r41_5 (hP.pl 41 rfl) rfl e1, p1⟩
        · simp only [h8, if_false] at h
          cases h
          exact ⟨H, r41_7 (hP.pl 41 rfl) h7 h8, Post.refl hRE⟩
theorem w_fresh (hP : PK P) (hR : RecK P C) {t : Ty} {n : Nat} (hn : words C.E.R C.E.k t = some n) (h : RE C rows s H) :
    ∃ rows' H' v, Ev P 30 [.ptr C.m 0, .agg (encTy t)] H (.ret v) H' ∧ PlaceV rows' (s.mem ++ [List.replicate n 0]) ⟨s.mem.length, 0⟩ v ∧ Post C rows s H rows' { s with mem := s.mem ++ [List.replicate n 0] } H' := by
  obtain ⟨H1, e1, p1⟩ := w_words hP hR C.E.k t n (Nat.le_refl _) hn rows s H h
  have hle := words_le hn
  cases t with
  | mk f tn nm of =>
    have e := r30_0 (hP.pl 30 rfl) e1 rfl (by unfold Go.Den.most; omega)
    rw [repL_enc] at e
    have hp := p1.re.newP (List.replicate n 0)
    rw [List.length_replicate] at hp
    exact ⟨_, _, _, e, hp, p1.trans (p1.re.push _)⟩
theorem W_ok {E : Env} {t : Ty} {r : Rs Nat} (h : W E t s = some r) : ∃ n, words E.R E.k t = some n ∧ r = .ok n s := need_ok h
end Go.Wf
namespace Go.Wf
open Go Go.Den
variable {P : Prims} {C : EC} {F : Fn} {rows : List Nat} {s : St} {H : Heap}
structure ExOK (P : Prims) (C : EC) (F : Fn) : Prop where
  place : ∀ f e s r, F.place f e s = some r → ∀ rows H fr, RE C rows s H → FrE C rows s.mem f fr H → Does P 126 [.ptr C.m 0, .map fr, .agg (encEx e)] C rows s H QP r
  expr : ∀ f e s r, F.expr f e s = some r → ∀ rows H fr, RE C rows s H → FrE C rows s.mem f fr H → Does P 127 [.ptr C.m 0, .map fr, .agg (encEx e)] C rows s H QI r
  rng : ∀ f e s v s', F.expr f e s = some (.ok v s') → in32 v = true
theorem in32_iff {v : Int} : in32 v = true ↔ -2147483648 ≤ v ∧ v ≤ 2147483647 := by simp [in32]
theorem RE.object (h : RE C rows s H) {v : Int} {r : Rs (Nm × Nat)} (hs : obj v s = some r) : ∃ (o : Nm × Nat) (th i rr : Nat) (blk : List Int), r = .ok o s ∧ v = ((i + 1 : Nat) : Int) ∧ s.objs[i]? = some o ∧ rows[o.2]? = some rr ∧ s.mem[o.2]? = some blk ∧
    hload H false 1 C.m 5 = some (.msl th 0 (s.objs.length + 1) 2) ∧ i + 1 < s.objs.length + 1 ∧ hload H true 2 th (0 + (i + 1) * 2) = some (.agg [.str o.1, .msl rr 0 blk.length 1]) ∧ hload H false 1 th (0 + (i + 1) * 2) = some (.str o.1) := by
  unfold obj at hs
  split at hs
  · cases hs
  · rename_i hv
    obtain ⟨i, hi⟩ : ∃ i : Nat, v = ((i + 1 : Nat) : Int) := ⟨(v - 1).toNat, by omega⟩
    subst hi
    have e : ((((i + 1 : Nat) : Int) - 1).toNat) = i := by omega
    rw [e] at hs
    cases ho : s.objs[i]? with
    | none => rw [ho] at hs; cases hs
    | some o =>
      rw [ho] at hs
      cases hs
      have hb : o.2 < s.mem.length := h.objs o (List.mem_of_getElem? ho)
      obtain ⟨rr, hrr⟩ : ∃ r, rows[o.2]? = some r := ⟨_, List.getElem?_eq_getElem (by rw [h.mem.len]; exact hb)⟩
      obtain ⟨blk, hblk⟩ : ∃ blk, s.mem[o.2]? = some blk := ⟨_, List.getElem?_eq_getElem hb⟩
      obtain ⟨th, iv, ov, h1, h2, h3, h4, h5, h6, h7⟩ := h.mach
      have key : ∀ (l : List (Nm × Nat)) (i : Nat) (o : Nm × Nat) (rr : Nat) (blk : List Int), (∀ o ∈ l, o.2 < s.mem.length) → l[i]? = some o → rows[o.2]? = some rr → s.mem[o.2]? = some blk →
          (encObjs rows s.mem l)[i * 2]? = some (.str o.1) ∧ (encObjs rows s.mem l)[i * 2 + 1]? = some (.msl rr 0 blk.length 1) := by
        intro l
        induction l with
        | nil => intro i o rr blk _ hi; simp at hi
        | cons a l ih =>
          intro i o rr blk hall hi h1 h2
          obtain ⟨n, b⟩ := a
          have hb : b < s.mem.length := hall (n, b) List.mem_cons_self
          obtain ⟨r0, hr0⟩ : ∃ r, rows[b]? = some r := ⟨_, List.getElem?_eq_getElem (by rw [h.mem.len]; exact hb)⟩
          obtain ⟨b0, hb0⟩ : ∃ blk, s.mem[b]? = some blk := ⟨_, List.getElem?_eq_getElem hb⟩
          cases i with
          | zero =>
            simp at hi; subst hi
            rw [hr0] at h1; rw [hb0] at h2
            cases h1; cases h2
            simp [encObjs, hr0, hb0]
          | succ i =>
            have := ih i o rr blk (fun o ho => hall o (List.mem_cons_of_mem _ ho)) (by simpa using hi) h1 h2
            simp only [encObjs, hr0, hb0]
            rw [show (i + 1) * 2 = i * 2 + 2 by omega]
            simpa using this
      obtain ⟨k1, k2⟩ := key s.objs i o rr blk h.objs ho hrr hblk
      refine ⟨o, th, i, rr, blk, rfl, rfl, ho, hrr, hblk, hload_of' h1 rfl rfl, by have := get_lt ho; omega, ?_, ?_⟩
      · have e0 : 0 + (i + 1) * 2 = i * 2 + 2 := by omega
        rw [e0]
        have c0 : (([AVal.str [], .nils] : List AVal) ++ encObjs rows s.mem s.objs)[i * 2 + 2]? = some (.str o.1) := by simpa using k1
        have c1 : (([AVal.str [], .nils] : List AVal) ++ encObjs rows s.mem s.objs)[i * 2 + 2 + 1]? = some (.msl rr 0 blk.length 1) := by simpa using k2
        simp only [hload, h4, readRow]
        have hl := get_lt c1
        have hb : Nat.ble (i * 2 + 2 + 2) (([AVal.str [], .nils] : List AVal) ++ encObjs rows s.mem s.objs).length = true := Nat.ble_eq_true_of_le (by omega)
        rw [hb, cond_true]
        congr 2
        apply List.ext_getElem?
        intro j
        rw [List.getElem?_map]
        match j with
        | 0 => simp only [List.getElem?_take, List.getElem?_drop]; simp only [Nat.add_zero, c0]; rfl
        | 1 => simp only [List.getElem?_take, List.getElem?_drop]; simp only [c1]; rfl
        | j + 2 =>
          simp [List.getElem?_take]
          omega
      · have e0 : 0 + (i + 1) * 2 = i * 2 + 2 := by omega
        rw [e0]
        exact hload_of' h4 (by simpa using k1) rfl
theorem w_thing (hP : PK P) (h : RE C rows s H) {v : Int} {o : Nm × Nat} (hs : obj v s = some (.ok o s)) :
    ∃ rr blk, rows[o.2]? = some rr ∧ s.mem[o.2]? = some blk ∧ v ≠ 0 ∧ Ev P 173 [.ptr C.m 0, .int .i32 v] H (.ret (.agg [.str o.1, .msl rr 0 blk.length 1])) H := by
  obtain ⟨o', th, i, rr, blk, e, hv, h1, h2, h3, h4, h5, h6, h7⟩ := h.object hs
  cases e
  have hne : v ≠ 0 := by omega
  refine ⟨rr, blk, h2, h3, hne, r173_0 (hP.pl 173 rfl) ?_ h4 hv h5 h6⟩
  have : (v != 0) = true := by simpa using hne
  rw [this]
  exact w_mustT hP 3 H
theorem obj_ok {v : Int} {s : St} {r : Rs (Nm × Nat)} (h : obj v s = some r) : ∃ o, r = .ok o s ∧ obj v s = some (.ok o s) := by
  have h0 := h
  unfold obj at h
  split at h
  · cases h
  · split at h
    · cases h; exact ⟨_, rfl, h0⟩
    · cases h
theorem w_place (hP : PK P) (hR : RecK P C) (IH : ExOK P C F) (f : Fr) (e : Ex) (s : St) (r : Rs Loc) (hs : placeS C.E F f e s = some r) (rows : List Nat) (H : Heap) (fr : Nat) (h : RE C rows s H) (hF : FrE C rows s.mem f fr H) :
    Does P 126 [.ptr C.m 0, .map fr, .agg (encEx e)] C rows s H QP r := by
  have hp := hP.pl 126 rfl
  obtain ⟨op, ⟨tf, tn, tnm, tof⟩, i, nm, x⟩ := e
  unfold placeS at hs
  by_cases h1 : op = 1
  · subst h1
    simp only [if_true] at hs
    cases hd : dot nm with
    | true =>
      rw [hd] at hs
      simp only at hs
      cases hf : findR nm f with
      | none =>
        rw [hf] at hs
        obtain ⟨l, hl, rfl⟩ := need_ok hs
        obtain ⟨es, q1, q2⟩ := h.stat.vars.obj
        obtain ⟨v, q3, q4⟩ := q2 nm l hl
        have q5 := q4
        obtain ⟨rr, blk, k1, k2, k3, rfl⟩ := q4
        exact ⟨rows, H, _, r126_0 hp rfl (hP.has nm H) hd (h.ld (fun _ _ _ => rfl) rfl) (by rw [mget_of q1, q3]), q5, Post.refl h⟩
      | some _ => rw [hf] at hs; cases hs
    | false =>
      rw [hd] at hs
      simp only at hs
      obtain ⟨l, hl, rfl⟩ := need_ok hs
      obtain ⟨es, q1, q2⟩ := hF.obj
      obtain ⟨v, q3, q4⟩ := q2 nm l hl
      have q5 := q4
      obtain ⟨rr, blk, k1, k2, k3, rfl⟩ := q4
      exact ⟨rows, H, _, r126_2 hp rfl (hP.has nm H) hd (by rw [mget_of q1, q3]), q5, Post.refl h⟩
  · simp only [h1, if_false] at hs
    by_cases h2 : op = 2
    · subst h2
      simp only [if_true] at hs
      split at hs
      · rename_i a j
        obtain ⟨ao, ⟨af, an, anm, aof⟩, ai, anm', ax⟩ := a
        obtain ⟨jo, ⟨jf, jn, jnm, jof⟩, ji, jnm', jx⟩ := j
        simp only [Ex.t, Ty.n] at hs
        have ra := read_ex (l := [.mk ao (.mk af an anm aof) ai anm' ax, .mk jo (.mk jf jn jnm jof) ji jnm' jx]) (k := 0) rfl
        have rj := read_ex (l := [.mk ao (.mk af an anm aof) ai anm' ax, .mk jo (.mk jf jn jnm jof) ji jnm' jx]) (k := 1) rfl
        rw [Nat.zero_mul] at ra
        rw [Nat.one_mul] at rj
        have hlen := encExs_len [.mk ao (.mk af an anm aof) ai anm' ax, .mk jo (.mk jf jn jnm jof) ji jnm' jx]
        have rn : readRow false 1 (encExs [.mk ao (.mk af an anm aof) ai anm' ax, .mk jo (.mk jf jn jnm jof) ji jnm' jx]) 2 = some (.int .i64 an) := rfl
        rcases bind_ok hs with ⟨p, s1, hs1, hs⟩ | ⟨e, t, s1, hs1, rfl⟩
        · obtain ⟨rows1, H1, v1, e1, q1, p1⟩ := IH.place _ _ _ _ hs1 rows H fr h hF
          obtain ⟨rr, blk, k1, k2, k3, rfl⟩ := q1
          rcases bind_ok hs with ⟨iv, s2, hs2, hs⟩ | ⟨e, t, s2, hs2, rfl⟩
          · obtain ⟨rows2, H2, v2, e2, q2, p2⟩ := IH.expr _ _ _ _ hs2 rows1 H1 fr p1.re (hF.mono p1)
            cases q2
            have hr := in32_iff.1 (IH.rng _ _ _ _ _ hs2)
            have pp := p1.trans p2
            rcases bind_ok hs with ⟨_, s3, hs3, hs⟩ | ⟨e, t, s3, hs3, rfl⟩
            · rcases must_ok hs3 with ⟨hc, e3⟩ | ⟨hc, e3⟩
              · cases e3
                simp only [Bool.and_eq_true, decide_eq_true_eq] at hc
                rcases bind_ok hs with ⟨n, s4, hs4, hs⟩ | ⟨e, t, s4, hs4, rfl⟩
                · obtain ⟨n', hn, e4⟩ := W_ok hs4
                  cases e4
                  obtain ⟨hfar, e6⟩ := locM_ok hs
                  cases e6
                  obtain ⟨H3, e5, p3⟩ := w_words hP hR C.E.k _ n (Nat.le_refl _) hn rows2 s2 H2 p2.re
                  have hle := words_le hn
                  have hm : (iv * (n : Int)) = ((iv.toNat * n : Nat) : Int) := by rw [Int.natCast_mul, Int.toNat_of_nonneg hc.1]
                  have hb : (iv.toNat * n : Nat) ≤ 2147483647 * 16384 := Nat.mul_le_mul (by omega) hle
                  have hfar' : p.o ≤ far := k3
                  unfold far at hfar'
                  have hc2 : iv < an := of_decide_eq_true hc.2
                  have hy : decide (iv < an) = true := decide_eq_true hc2
                  refine ⟨rows2, H3, _, r126_4 hp rfl (by simp) hlen ra e1 (by simp) rj e2 hc.1 (wrap64 (by omega) (by omega)) (by simp) rn (by rw [hy]; exact w_mustT hP 1 H2) (wrap64 (by omega) (by omega)) e5 (y2 := ((iv.toNat * n : Nat) : Int)) (by rw [hm]; exact wrap64 (by omega) (by omega)) (y3 := (p.o : Int) + ((iv.toNat * n : Nat) : Int)) (wrap64 (by omega) (by unfold far at *; omega)), ?_, pp.trans p3⟩
                  have q3 : PlaceV rows1 s1.mem p (.agg [.msl rr 0 blk.length 1, .int .i64 (p.o : Int)]) := ⟨rr, blk, k1, k2, k3, rfl⟩
                  obtain ⟨rr', blk', m1, m2, m3, m4⟩ := q3.mono p2.ext p2.le
                  refine ⟨rr', blk', m1, m2, hfar, ?_⟩
                  simp only [AVal.agg.injEq, List.cons.injEq, AVal.msl.injEq] at m4
                  obtain ⟨⟨rfl, _, m5, _⟩, _⟩ := m4
                  rw [m5]
                  simp
                · obtain ⟨n', hn, e4⟩ := W_ok hs4
                  cases e4
              · cases e3
            · rcases must_ok hs3 with ⟨hc, e3⟩ | ⟨hc, e3⟩
              · cases e3
              · cases e3
                by_cases h0 : iv ≥ 0
                · have hc' : ¬ (iv < an) := of_decide_eq_false (by have q := hc; rw [show decide (0 ≤ iv) = true from decide_eq_true h0, Bool.true_and] at q; exact q)
                  refine ⟨H2, r126_6 hp rfl (by simp) hlen ra e1 (by simp) rj e2 h0 (wrap64 (by omega) (by omega)) (by simp) rn ?_, p2.re.out⟩
                  rw [decide_eq_false hc']
                  exact w_mustF hP 1 H2
                · exact ⟨H2, r126_9 hp rfl (by simp) hlen ra e1 (by simp) rj e2 h0 (w_mustF hP 1 H2), p2.re.out⟩
          · obtain ⟨H2, e2, o2⟩ := IH.expr _ _ _ _ hs2 rows1 H1 fr p1.re (hF.mono p1)
            exact ⟨H2, r126_10 hp rfl (by simp) hlen ra e1 (by simp) rj e2, o2⟩
        · obtain ⟨H1, e1, o1⟩ := IH.place _ _ _ _ hs1 rows H fr h hF
          exact ⟨H1, r126_11 hp rfl (by simp) hlen ra e1, o1⟩
      · cases hs
    · simp only [h2, if_false] at hs
      by_cases h3 : op = 3
      · subst h3
        simp only [if_true] at hs
        split at hs
        · rename_i a
          obtain ⟨ao, ⟨af, an, anm, aof⟩, ai, anm', ax⟩ := a
          have ra := read_ex (l := [.mk ao (.mk af an anm aof) ai anm' ax]) (k := 0) rfl
          rw [Nat.zero_mul] at ra
          have hlen := encExs_len [.mk ao (.mk af an anm aof) ai anm' ax]
          have rn : readRow false 1 (encExs [.mk ao (.mk af an anm aof) ai anm' ax]) 3 = some (.str anm) := rfl
          rcases bind_ok hs with ⟨p, s1, hs1, hs⟩ | ⟨e, t, s1, hs1, rfl⟩
          · obtain ⟨rows1, H1, v1, e1, q1, p1⟩ := IH.place _ _ _ _ hs1 rows H fr h hF
            have q0 := q1
            obtain ⟨rr, blk, k1, k2, k3, rfl⟩ := q1
            rcases bind_ok hs with ⟨l, s2, hs2, hs⟩ | ⟨e, t, s2, hs2, rfl⟩
            · obtain ⟨l', hl, e2⟩ := need_ok hs2
              cases e2
              rcases bind_ok hs with ⟨n, s3, hs3, hs⟩ | ⟨e, t, s3, hs3, rfl⟩
              · obtain ⟨n', hn, e3⟩ := need_ok hs3
                cases e3
                obtain ⟨hfar, e6⟩ := locM_ok hs
                cases e6
                have ho : offW C.E anm nm = some n := by
                  unfold offW
                  have : fieldsOf C.E.R anm = some l := hl
                  rw [this]; exact hn
                obtain ⟨H2, e2, p2⟩ := hR.off anm nm n rows1 s1 H1 ho p1.re
                have hfar' : p.o + n ≤ far := hfar
                refine ⟨rows1, H2, _, r126_12 hp rfl (by simp) hlen ra e1 (by simp) rn e2 (y0 := (p.o : Int) + (n : Int)) (wrap64 (by omega) (by unfold far at hfar'; omega)), ?_, p1.trans p2⟩
                obtain ⟨rr', blk', m1, m2, m3, m4⟩ := q0.mono p2.ext p2.le
                refine ⟨rr', blk', m1, m2, hfar, ?_⟩
                simp only [AVal.agg.injEq, List.cons.injEq, AVal.msl.injEq] at m4
                obtain ⟨⟨rfl, _, m5, _⟩, _⟩ := m4
                rw [m5]
                simp
              · obtain ⟨n', hn, e3⟩ := need_ok hs3
                cases e3
            · obtain ⟨l', hl, e2⟩ := need_ok hs2
              cases e2
          · obtain ⟨H1, e1, o1⟩ := IH.place _ _ _ _ hs1 rows H fr h hF
            exact ⟨H1, r126_14 hp rfl (by simp) hlen ra e1, o1⟩
        · cases hs
      · simp only [h3, if_false] at hs
        by_cases h4 : op = 4
        · subst h4
          simp only [if_true] at hs
          split at hs
          · rename_i a
            obtain ⟨ao, ⟨af, an, anm, aof⟩, ai, anm', ax⟩ := a
            have ra := read_ex (l := [.mk ao (.mk af an anm aof) ai anm' ax]) (k := 0) rfl
            rw [Nat.zero_mul] at ra
            have hlen := encExs_len [.mk ao (.mk af an anm aof) ai anm' ax]
            rcases bind_ok hs with ⟨v, s1, hs1, hs⟩ | ⟨e, t, s1, hs1, rfl⟩
            · obtain ⟨rows1, H1, v1, e1, q1, p1⟩ := IH.expr _ _ _ _ hs1 rows H fr h hF
              cases q1
              rcases bind_ok hs with ⟨_, s2, hs2, hs⟩ | ⟨e, t, s2, hs2, rfl⟩
              · rcases must_ok hs2 with ⟨hc, e2⟩ | ⟨hc, e2⟩
                · cases e2
                  rcases bind_ok hs with ⟨o, s3, hs3, hs⟩ | ⟨e, t, s3, hs3, rfl⟩
                  · obtain ⟨o', e3, hs4⟩ := obj_ok hs3
                    cases e3
                    cases pure_ok hs
                    obtain ⟨rr, blk, k1, k2, k3, e4⟩ := w_thing hP p1.re hs4
                    exact ⟨rows1, H1, _, r126_15 hp rfl (by simp) hlen ra e1 e4, ⟨rr, blk, k1, k2, Nat.zero_le _, rfl⟩, p1⟩
                  · obtain ⟨o', e3, hs4⟩ := obj_ok hs3
                    cases e3
                · cases e2
              · rcases must_ok hs2 with ⟨hc, e2⟩ | ⟨hc, e2⟩
                · cases e2
                · cases e2
                  have hv : v = 0 := by simpa using hc
                  subst hv
                  exact ⟨H1, r126_16 hp rfl (by simp) hlen ra e1 (r173_1 (hP.pl 173 rfl) (w_mustF hP 3 H1)), p1.re.out⟩
            · obtain ⟨H1, e1, o1⟩ := IH.expr _ _ _ _ hs1 rows H fr h hF
              exact ⟨H1, r126_17 hp rfl (by simp) hlen ra e1, o1⟩
          · cases hs
        · simp only [h4, if_false] at hs
          cases hs
end Go.Wf
namespace Go.Wf
open Go Go.Den
variable {P : Prims} {C : EC} {F : Fn} {rows : List Nat} {s : St} {H : Heap}
theorem w_truth (hP : PK P) (b : Bool) (H : Heap) : Ev P 175 [.bool b] H (.ret (.int .i32 (flag b))) H := by
  cases b with
  | true => exact r175_0 (hP.pl 175 rfl) rfl
  | false => exact r175_1 (hP.pl 175 rfl) rfl
theorem w_is (hP : PK P) (hR : RecK P C) (h : RE C rows s H) {v : Int} {nm : Nm} {r : Rs Bool} (hs : isS C.E nm v s = some r) : ∃ b, r = .ok b s ∧ ∃ H', Ev P 174 [.ptr C.m 0, .int .i32 v, .str nm] H (.ret (.bool b)) H' ∧ Post C rows s H rows s H' := by
  rcases bind_ok hs with ⟨o, s1, hs1, hs⟩ | ⟨e, t, s1, hs1, rfl⟩
  · obtain ⟨o', e1, hs2⟩ := obj_ok hs1
    cases e1
    obtain ⟨b, hb, rfl⟩ := need_ok hs
    obtain ⟨o', th, i, rr, blk, e, hv, h1, h2, h3, h4, h5, h6, h7⟩ := h.object hs2
    cases e
    obtain ⟨H', e1, p1⟩ := hR.ext o.1 nm b rows s H hb h
    exact ⟨b, rfl, H', r174_0 (hP.pl 174 rfl) (by omega) h4 hv h5 h7 (h.ld (fun _ _ _ => rfl) rfl) e1, p1⟩
  · obtain ⟨o', e1, hs2⟩ := obj_ok hs1
    cases e1
abbrev CallOK (P : Prims) (C : EC) (F : Fn) : Prop := ∀ f e s r, callS f e s = some r → ∀ rows H fr, RE C rows s H → FrE C rows s.mem f fr H → Does P 74 [.ptr C.m 0, .map fr, .agg (encEx e)] C rows s H QI r
abbrev OpOK (P : Prims) (C : EC) (F : Fn) : Prop := ∀ f op t i nm x s r, opS F f op x s = some r → ∀ rows H fr, RE C rows s H → FrE C rows s.mem f fr H → Does P 177 [.ptr C.m 0, .map fr, .agg (encEx (.mk op t i nm x))] C rows s H QI r
abbrev ElOK (P : Prims) (C : EC) (F : Fn) : Prop := ∀ f e s r, elemS F f e s = some r → ∀ rows H fr, RE C rows s H → FrE C rows s.mem f fr H → Does P 176 [.ptr C.m 0, .map fr, .agg (encEx e)] C rows s H QI r
theorem bits_or (a b : Int) : bits .or .i32 a b = or32 a b := rfl
theorem add1 {k n : Nat} (h : k < n) (hn : n ≤ 1000000000000) : IntKind.wrap .i64 ((k : Int) + 1) = ((k + 1 : Nat) : Int) := by
  rw [wrap64 (by omega) (by omega)]; omega
theorem w_set (hE : ElOK P C F) (f : Fr) (all : List Ex) (hall : all.length ≤ 1000000000000) {x0 x1 x2 x3 : Int} {s0 s9 : List UInt8} {n0 : Nat} {cs0 : List AVal} :
    ∀ (x : List Ex) (k : Nat), all.drop k = x → ∀ (a : Int) (s : St) (r : Rs Int), setS F f x a s = some r → ∀ rows H fr, RE C rows s H → FrE C rows s.mem f fr H →
    match r with
    | .ok v s' => ∃ rows' H', LoopEv P 127 k127_0 127 [] [(0, .ptr C.m 0), (1, .map fr), (10, .int .i32 a), (100, .isl false all.length (encExs all)), (101, .int .i64 (all.length : Int)), (102, .int .i64 (k : Int))]
        ⟨[[.int .i64 x0, .int .i64 x1, .int .i64 x2, .str s0, .isl false n0 cs0, .int .i32 x3, .str s9, .isl false all.length (encExs all)]], true⟩ H (.exit 1) [] [(10, .int .i32 v)] ⟨[[.int .i64 x0, .int .i64 x1, .int .i64 x2, .str s0, .isl false n0 cs0, .int .i32 x3, .str s9, .isl false all.length (encExs all)]], true⟩ H' ∧ Post C rows s H rows' s' H'
    | .stop e t s' => ∃ H', LoopEv P 127 k127_0 127 [] [(0, .ptr C.m 0), (1, .map fr), (10, .int .i32 a), (100, .isl false all.length (encExs all)), (101, .int .i64 (all.length : Int)), (102, .int .i64 (k : Int))]
        ⟨[[.int .i64 x0, .int .i64 x1, .int .i64 x2, .str s0, .isl false n0 cs0, .int .i32 x3, .str s9, .isl false all.length (encExs all)]], true⟩ H (.panic (over e t)) [] [] ⟨[], true⟩ H' ∧ OutE C s'.out H'
  | [], k, hk, a, s, r, hs, rows, H, fr, h, hF => by
    cases pure_ok hs
    refine ⟨rows, H, loop_exit (by simp) (b127_0_2 ?_), Post.refl h⟩
    have : all.length ≤ k := by simpa using hk
    omega
  | e :: x, k, hk, a, s, r, hs, rows, H, fr, h, hF => by
    have hkl : k < all.length := by
      rcases Nat.lt_or_ge k all.length with q | q
      · exact q
      · rw [List.drop_of_length_le q] at hk; cases hk
    have hget : all[k]? = some e := by
      have : (all.drop k)[0]? = some e := by rw [hk]; rfl
      simpa using this
    have hd : all.drop (k + 1) = x := by
      have : (all.drop k).tail = x := by rw [hk]; rfl
      simpa [List.tail_drop] using this
    have rd := read_ex hget
    obtain ⟨eo, ⟨ef, en, enm, eof⟩, ei, enm', ex⟩ := e
    rcases bind_ok hs with ⟨v, s1, hs1, hs⟩ | ⟨e, t, s1, hs1, rfl⟩
    · obtain ⟨rows1, H1, v1, e1, q1, p1⟩ := hE _ _ _ _ hs1 rows H fr h hF
      cases q1
      have := w_set (x0 := x0) (x1 := x1) (x2 := x2) (x3 := x3) (s0 := s0) (s9 := s9) (n0 := n0) (cs0 := cs0) hE f all hall x (k + 1) hd (or32 a v) s1 r hs rows1 H1 fr p1.re (hF.mono p1)
      cases r with
      | ok w s2 =>
        obtain ⟨rows2, H2, l2, p2⟩ := this
        exact ⟨rows2, H2, loop_next (by rfl) (b127_0_0 (by omega) hkl (encExs_len all) rd e1 rfl (add1 hkl hall)) l2, p1.trans p2⟩
      | stop e t s2 =>
        obtain ⟨H2, l2, o2⟩ := this
        exact ⟨H2, loop_next (by rfl) (b127_0_0 (by omega) hkl (encExs_len all) rd e1 rfl (add1 hkl hall)) l2, o2⟩
    · obtain ⟨H1, e1, o1⟩ := hE _ _ _ _ hs1 rows H fr h hF
      exact ⟨H1, loop_exit (by simp) (b127_0_1 (by omega) hkl (encExs_len all) rd e1), o1⟩
theorem w_load (hP : PK P) (IH : ExOK P C F) {op i : Int} {t : Ty} {nm : Nm} {x : List Ex} (hop : op = 1 ∨ op = 2 ∨ op = 3 ∨ op = 4) {f : Fr} {r : Rs Int} (hs : (do let p ← F.place f (.mk op t i nm x); loadL p) s = some r)
    {fr : Nat} (h : RE C rows s H) (hF : FrE C rows s.mem f fr H) : Does P 127 [.ptr C.m 0, .map fr, .agg (encEx (.mk op t i nm x))] C rows s H QI r := by
  have hp := hP.pl 127 rfl
  obtain ⟨tf, tn, tnm, tof⟩ := t
  rcases bind_ok hs with ⟨p, s1, hs1, hs⟩ | ⟨e, t, s1, hs1, rfl⟩
  · obtain ⟨rows1, H1, v1, e1, q1, p1⟩ := IH.place _ _ _ _ hs1 rows H fr h hF
    obtain ⟨rr, blk, k1, k2, k3, rfl⟩ := q1
    obtain ⟨blk', w, hb, hw, rfl⟩ := loadL_ok hs
    have : blk' = blk := by rw [k2] at hb; cases hb; rfl
    subst this
    have hl : hload H1 false 1 rr (0 + p.o * 1) = some (.int .i32 w) := by
      rw [show 0 + p.o * 1 = p.o by omega]; exact p1.re.word k1 k2 hw
    rcases hop with rfl | rfl | rfl | rfl
    · exact ⟨rows1, H1, _, r127_1 hp rfl e1 (get_lt hw) hl, rfl, p1⟩
    · exact ⟨rows1, H1, _, r127_3 hp rfl e1 (get_lt hw) hl, rfl, p1⟩
    · exact ⟨rows1, H1, _, r127_5 hp rfl e1 (get_lt hw) hl, rfl, p1⟩
    · exact ⟨rows1, H1, _, r127_7 hp rfl e1 (get_lt hw) hl, rfl, p1⟩
  · obtain ⟨H1, e1, o1⟩ := IH.place _ _ _ _ hs1 rows H fr h hF
    rcases hop with rfl | rfl | rfl | rfl
    · exact ⟨H1, r127_2 hp rfl e1, o1⟩
    · exact ⟨H1, r127_4 hp rfl e1, o1⟩
    · exact ⟨H1, r127_6 hp rfl e1, o1⟩
    · exact ⟨H1, r127_8 hp rfl e1, o1⟩
theorem w_value (hP : PK P) (hR : RecK P C) (IH : ExOK P C F) (hC : CallOK P C F) (hO : OpOK P C F) (hE : ElOK P C F) (f : Fr) (e : Ex) (s : St) (r : Rs Int) (hs : exprS C.E F f e s = some r)
    (rows : List Nat) (H : Heap) (fr : Nat) (h : RE C rows s H) (hF : FrE C rows s.mem f fr H) :
    Does P 127 [.ptr C.m 0, .map fr, .agg (encEx e)] C rows s H QI r := by
  have hp := hP.pl 127 rfl
  obtain ⟨op, t, i, nm, x⟩ := e
  unfold exprS at hs
  by_cases h0 : op = 0
  · subst h0
    simp only [if_true] at hs
    cases pure_ok hs
    obtain ⟨tf, tn, tnm, tof⟩ := t
    exact ⟨rows, H, _, r127_0 hp rfl, rfl, Post.refl h⟩
  simp only [h0, if_false] at hs
  by_cases h1 : op = 1 ∨ op = 2 ∨ op = 3 ∨ op = 4
  · rw [if_pos h1] at hs
    exact w_load hP IH h1 hs h hF
  rw [if_neg h1] at hs
  by_cases h5 : op = 5
  · subst h5
    simp only [if_true] at hs
    obtain ⟨tf, tn, tnm, tof⟩ := t
    split at hs
    · rename_i a
      obtain ⟨ao, ⟨af, an, anm, aof⟩, ai, anm', ax⟩ := a
      have ra := read_ex (l := [.mk ao (.mk af an anm aof) ai anm' ax]) (k := 0) rfl
      rw [Nat.zero_mul] at ra
      have hl := encExs_len [.mk ao (.mk af an anm aof) ai anm' ax]
      rcases bind_ok hs with ⟨v, s1, hs1, hs⟩ | ⟨e, t, s1, hs1, rfl⟩
      · obtain ⟨rows1, H1, v1, e1, q1, p1⟩ := IH.expr _ _ _ _ hs1 rows H fr h hF
        cases q1
        rcases bind_ok hs with ⟨_, s2, hs2, hs⟩ | ⟨e, t, s2, hs2, rfl⟩
        · rcases must_ok hs2 with ⟨hc, e2⟩ | ⟨hc, e2⟩
          · cases e2
            rcases bind_ok hs with ⟨b, s3, hs3, hs⟩ | ⟨e, t, s3, hs3, rfl⟩
            · obtain ⟨b', e3, H2, e4, p2⟩ := w_is hP hR p1.re hs3
              cases e3
              have m1 := w_mustT hP 3 H1
              rw [← hc] at m1
              rcases bind_ok hs with ⟨_, s4, hs4, hs⟩ | ⟨e, t, s4, hs4, rfl⟩
              · rcases must_ok hs4 with ⟨hb, e5⟩ | ⟨hb, e5⟩
                · cases e5
                  cases pure_ok hs
                  subst hb
                  exact ⟨rows1, H2, _, r127_9 hp rfl (by simp) hl ra e1 m1 e4 (w_mustT hP 2 H2), rfl, p1.trans p2⟩
                · cases e5
              · rcases must_ok hs4 with ⟨hb, e5⟩ | ⟨hb, e5⟩
                · cases e5
                · cases e5
                  subst hb
                  exact ⟨H2, r127_10 hp rfl (by simp) hl ra e1 m1 e4 (w_mustF hP 2 H2), p2.re.out⟩
            · obtain ⟨b', e3, _⟩ := w_is hP hR p1.re hs3
              cases e3
          · cases e2
        · rcases must_ok hs2 with ⟨hc, e2⟩ | ⟨hc, e2⟩
          · cases e2
          · cases e2
            have m1 := w_mustF hP 3 H1
            rw [← hc] at m1
            exact ⟨H1, r127_12 hp rfl (by simp) hl ra e1 m1, p1.re.out⟩
      · obtain ⟨H1, e1, o1⟩ := IH.expr _ _ _ _ hs1 rows H fr h hF
        exact ⟨H1, r127_13 hp rfl (by simp) hl ra e1, o1⟩
    · cases hs
  simp only [h5, if_false] at hs
  by_cases h23 : op = 23
  · subst h23
    simp only [if_true] at hs
    obtain ⟨tf, tn, tnm, tof⟩ := t
    rcases x with _ | ⟨a, _ | ⟨b, l⟩⟩
    · cases hs
    · replace hs : isOpS C.E F f nm a s = some r := hs
      unfold isOpS at hs
      cases hq : F.expr f a s with
      | none => rw [hq] at hs; cases hs
      | some q =>
      cases q with
      | stop e t s1 => rw [hq] at hs; cases hs
      | ok v s1 =>
      rw [hq] at hs
      obtain ⟨ao, ⟨af, an, anm, aof⟩, ai, anm', ax⟩ := a
      have ra := read_ex (l := [.mk ao (.mk af an anm aof) ai anm' ax]) (k := 0) rfl
      rw [Nat.zero_mul] at ra
      have hl := encExs_len [.mk ao (.mk af an anm aof) ai anm' ax]
      obtain ⟨rows1, H1, v1, e1, q1, p1⟩ := IH.expr _ _ _ _ hq rows H fr h hF
      cases q1
      by_cases hv : v = 0
      · subst hv
        simp only [if_true] at hs
        cases pure_ok hs
        exact ⟨rows1, H1, _, r127_14 hp rfl (by simp) hl ra e1 (r174_1 (hP.pl 174 rfl) rfl) (w_truth hP false H1), rfl, p1⟩
      · simp only [hv, if_false] at hs
        rcases bind_ok hs with ⟨b, s3, hs3, hs⟩ | ⟨e, t, s3, hs3, rfl⟩
        · obtain ⟨b', e3, H2, e4, p2⟩ := w_is hP hR p1.re hs3
          cases e3
          cases pure_ok hs
          exact ⟨rows1, H2, _, r127_14 hp rfl (by simp) hl ra e1 e4 (w_truth hP _ H2), rfl, p1.trans p2⟩
        · obtain ⟨b', e3, _⟩ := w_is hP hR p1.re hs3
          cases e3
    · cases hs
  simp only [h23, if_false] at hs
  by_cases h6 : op = 6
  · subst h6
    simp only [if_true] at hs
    have := hC f _ s r hs rows H fr h hF
    obtain ⟨tf, tn, tnm, tof⟩ := t
    cases r with
    | ok v s1 =>
      obtain ⟨rows1, H1, v1, e1, q1, p1⟩ := this
      cases q1
      exact ⟨rows1, H1, _, r127_17 hp rfl e1, rfl, p1⟩
    | stop e t s1 =>
      obtain ⟨H1, e1, o1⟩ := this
      exact ⟨H1, r127_18 hp rfl e1, o1⟩
  simp only [h6, if_false] at hs
  by_cases h14 : op = 14 ∨ op = 15
  · rw [if_pos h14] at hs
    obtain ⟨tf, tn, tnm, tof⟩ := t
    split at hs
    · rename_i a b
      obtain ⟨ao, ⟨af, an, anm, aof⟩, ai, anm', ax⟩ := a
      obtain ⟨bo, ⟨bf, bn, bnm, bof⟩, bi, bnm', bx⟩ := b
      have ra := read_ex (l := [.mk ao (.mk af an anm aof) ai anm' ax, .mk bo (.mk bf bn bnm bof) bi bnm' bx]) (k := 0) rfl
      have rb := read_ex (l := [.mk ao (.mk af an anm aof) ai anm' ax, .mk bo (.mk bf bn bnm bof) bi bnm' bx]) (k := 1) rfl
      rw [Nat.zero_mul] at ra
      rw [Nat.one_mul] at rb
      have hl := encExs_len [.mk ao (.mk af an anm aof) ai anm' ax, .mk bo (.mk bf bn bnm bof) bi bnm' bx]
      rcases bind_ok hs with ⟨v, s1, hs1, hs⟩ | ⟨e, t, s1, hs1, rfl⟩
      · obtain ⟨rows1, H1, v1, e1, q1, p1⟩ := IH.expr _ _ _ _ hs1 rows H fr h hF
        cases q1
        by_cases hv : v = 0 ∨ v = 1
        · rw [if_pos hv] at hs
          by_cases hq : (v = 1 ∧ op = 14) ∨ (v = 0 ∧ op = 15)
          · rw [if_pos hq] at hs
            cases pure_ok hs
            rcases h14 with rfl | rfl
            · have : v = 1 := by omega
              subst this
              exact ⟨rows1, H1, _, r127_19 hp rfl (by simp) hl ra e1 (by decide), rfl, p1⟩
            · have : v = 0 := by omega
              subst this
              exact ⟨rows1, H1, _, r127_23 hp rfl (by simp) hl ra e1 (by decide), rfl, p1⟩
          · rw [if_neg hq] at hs
            have := IH.expr _ _ _ _ hs rows1 H1 fr p1.re (hF.mono p1)
            cases r with
            | ok w s2 =>
              obtain ⟨rows2, H2, v2, e2, q2, p2⟩ := this
              cases q2
              rcases h14 with rfl | rfl
              · have : v = 0 := by omega
                subst this
                exact ⟨rows2, H2, _, r127_20 hp rfl (by simp) hl ra e1 (by decide) (by simp) rb e2, rfl, p1.trans p2⟩
              · have : v = 1 := by omega
                subst this
                exact ⟨rows2, H2, _, r127_24 hp rfl (by simp) hl ra e1 (by decide) (by simp) rb e2, rfl, p1.trans p2⟩
            | stop e t s2 =>
              obtain ⟨H2, e2, o2⟩ := this
              rcases h14 with rfl | rfl
              · have : v = 0 := by omega
                subst this
                exact ⟨H2, r127_21 hp rfl (by simp) hl ra e1 (by decide) (by simp) rb e2, o2⟩
              · have : v = 1 := by omega
                subst this
                exact ⟨H2, r127_25 hp rfl (by simp) hl ra e1 (by decide) (by simp) rb e2, o2⟩
        · rw [if_neg hv] at hs; cases hs
      · obtain ⟨H1, e1, o1⟩ := IH.expr _ _ _ _ hs1 rows H fr h hF
        rcases h14 with rfl | rfl
        · exact ⟨H1, r127_22 hp rfl (by simp) hl ra e1, o1⟩
        · exact ⟨H1, r127_26 hp rfl (by simp) hl ra e1, o1⟩
    · cases hs
  rw [if_neg h14] at hs
  by_cases h24 : op = 24
  · subst h24
    rw [if_pos rfl] at hs
    obtain ⟨tf, tn, tnm, tof⟩ := t
    by_cases hlen : x.length ≤ far
    rotate_left
    · rw [if_neg hlen] at hs; cases hs
    rw [if_pos hlen] at hs
    have := w_set (x0 := 24) (x1 := tf) (x2 := tn) (x3 := i) (s0 := tnm) (s9 := nm) (n0 := tof.length) (cs0 := encTys tof) hE f x hlen x 0 rfl 0 s r hs rows H fr h hF
    cases r with
    | ok v s1 =>
      obtain ⟨rows1, H1, l1, p1⟩ := this
      exact ⟨rows1, H1, _, l127_0 hp rfl l1, rfl, p1⟩
    | stop e t s1 =>
      obtain ⟨H1, l1, o1⟩ := this
      exact ⟨H1, l127_1 hp rfl l1, o1⟩
  rw [if_neg h24] at hs
  by_cases h34 : op = 34
  · subst h34
    rw [if_pos rfl] at hs
    unfold eofS at hs
    cases hs
    obtain ⟨tf, tn, tnm, tof⟩ := t
    obtain ⟨th, iv, ov, m1, ⟨o, rfl⟩, _⟩ := h.mach
    have hld : hload H false 1 C.m 7 = some (.isl false s.inp.length (bytesV s.inp)) := hload_of m1 (v := .isl o s.inp.length (bytesV s.inp)) rfl
    have hb : (((s.inp.length : Nat) : Int) == 0) = s.inp.isEmpty := by
      cases s.inp with
      | nil => rfl
      | cons a l => simp; omega
    refine ⟨rows, H, _, r127_28 hp rfl hld ?_, rfl, Post.refl h⟩
    rw [hb]
    exact w_truth hP _ H
  rw [if_neg h34] at hs
  have := hO f op t i nm x s r hs rows H fr h hF
  obtain ⟨tf, tn, tnm, tof⟩ := t
  cases r with
  | ok v s1 =>
    obtain ⟨rows1, H1, v1, e1, q1, p1⟩ := this
    cases q1
    exact ⟨rows1, H1, _, r127_29 hp h0 (by omega) (by omega) (by omega) (by omega) h5 h23 h6 (by omega) (by omega) h24 h34 e1, rfl, p1⟩
  | stop e t s1 =>
    obtain ⟨H1, e1, o1⟩ := this
    exact ⟨H1, r127_30 hp h0 (by omega) (by omega) (by omega) (by omega) h5 h23 h6 (by omega) (by omega) h24 h34 e1, o1⟩
end Go.Wf
namespace Go.Wf
open Go Go.Den
variable {P : Prims} {C : EC} {F : Fn} {rows : List Nat} {s : St} {H : Heap}
theorem RE.toRow (h : RE C rows s H) {s' : St} {th : Nat} {iv ov iv' ov' : AVal} (h1 : H.objs[C.m]? = some (.cells (machRow C s th iv ov))) (hm : s'.mem = s.mem) (ho : s'.objs = s.objs) (hi : InV iv' s'.inp) (hu : OutV ov' s'.out)
    (hf : -9223372036854775808 ≤ s'.fuel ∧ s'.fuel ≤ 9223372036854775807) (hr : -9223372036854775808 ≤ s'.room ∧ s'.room ≤ 9223372036854775807) (hd : s'.depth ≤ 100) :
    Post C rows s H rows s' (H.setRow C.m (machRow C s' th iv' ov')) := by
  obtain ⟨th0, iv0, ov0, h1', h2, h3, h4, h5, h6, h7⟩ := h.mach
  have eth : th = th0 := by
    rw [h1] at h1'
    simp only [machRow, Option.some.injEq, AObj.cells.injEq, List.cons.injEq, AVal.msl.injEq] at h1'
    exact h1'.2.2.2.2.2.1.1
  subst eth
  have oth : ∀ (b : Nat) es, H.objs[b]? = some (AObj.amap es) → b ≠ C.m := fun b es hb e => by subst e; rw [h1] at hb; cases hb
  have keep : ∀ (b : Nat) es, H.objs[b]? = some (AObj.amap es) → (H.setRow C.m (machRow C s' th iv' ov')).objs[b]? = some (AObj.amap es) := fun b es hb => by
    rw [setRow_other _ (oth b es hb).symm]; exact hb
  have frm : ∀ {f : Fr} {fr : Nat}, FrE C rows s.mem f fr H → FrE C rows s'.mem f fr (H.setRow C.m (machRow C s' th iv' ov')) := fun hF => by
    obtain ⟨es, q1, q2⟩ := hF.obj
    exact ⟨⟨es, keep _ _ q1, by rw [hm]; exact q2⟩, hF.nz, hF.nfl, fun q => hF.ncr (q.of h.cache keep)⟩
  refine ⟨⟨⟨th, iv', ov', setRow_same _ h1, hi, hu, ?_, h5, h6, h7⟩, ⟨by rw [hm]; exact h.mem.len, h.mem.nodup, ?_, h.mem.ro⟩, h.mrow, h.mro, ⟨?_, ?_, frm h.stat.vars, h.stat.rz, h.stat.rfl', h.stat.pz, h.stat.pfl⟩, ⟨?_, ?_, h.cache.zfl, h.cache.zro, h.cache.flro⟩, hf, hr, hd, by rw [hm, ho]; exact h.objs, fun x hx => ⟨by rw [setRow_other _ (h.ne_m hx)]; exact (h.side x hx).1, (h.side x hx).2⟩⟩, ⟨fun b es hb _ _ => keep b es hb, by simp, rfl, fun b hb => ?_, fun x q => .inl (q.of h.cache keep)⟩, ⟨[], by simp⟩, by rw [hm]; exact MemLe.refl _⟩
  · rw [setRow_other _ h5.symm, hm, ho]; exact h4
  · intro k r blk hr' hb
    rw [hm] at hb
    have := h.mem.row k r blk hr' hb
    rw [setRow_other _ (fun e => h.mrow (by rw [e]; exact List.mem_of_getElem? hr'))]
    exact this
  · obtain ⟨es, q1, q2⟩ := h.stat.recs; exact ⟨es, keep _ _ q1, q2⟩
  · obtain ⟨es, q1, q2⟩ := h.stat.procs; exact ⟨es, keep _ _ q1, q2⟩
  · obtain ⟨es, q1, q2⟩ := h.cache.sizes; exact ⟨es, keep _ _ q1, q2⟩
  · obtain ⟨es, q1, q2⟩ := h.cache.fields
    refine ⟨es, keep _ _ q1, fun rec a ha => ?_⟩
    obtain ⟨b, fes, p1, p2, p3, p4, p5⟩ := q2 rec a ha
    exact ⟨b, fes, p1, p2, p3, keep _ _ p4, p5⟩
  · have : b ≠ C.m := fun e => by have := h.mro; omega
    exact setRow_other _ (Ne.symm this)
theorem setRow_setRow (h : Heap) (b : Nat) (l l' : List AVal) : (h.setRow b l).setRow b l' = h.setRow b l' := by simp [Heap.setRow]
theorem bytesV_app (a b : List UInt8) : bytesV a ++ bytesV b = bytesV (a ++ b) := by simp [bytesV]
theorem bytesV_len (a : List UInt8) : (bytesV a).length = a.length := by simp [bytesV]
theorem RE.scratchO (h : RE C rows s H) (ob : AObj) : Post C rows s H rows s (H.push ob) := by
  have keep : ∀ (b : Nat) o, H.objs[b]? = some o → (H.push ob).objs[b]? = some o := fun b o hb => push_old _ hb
  have frm : ∀ {f : Fr} {fr : Nat}, FrE C rows s.mem f fr H → FrE C rows s.mem f fr (H.push ob) := fun hF => by
    obtain ⟨es, q1, q2⟩ := hF.obj
    exact ⟨⟨es, keep _ _ q1, q2⟩, hF.nz, hF.nfl, fun q => hF.ncr (q.of h.cache (fun b es => keep b _))⟩
  have hre : RE C rows s (H.push ob) := by
    obtain ⟨th, iv, ov, h1, h2, h3, h4, h5, h6, h7⟩ := h.mach
    refine ⟨⟨th, iv, ov, keep _ _ h1, h2, h3, keep _ _ h4, h5, h6, h7⟩, ⟨h.mem.len, h.mem.nodup, fun k r x hk hx => keep _ _ (h.mem.row k r x hk hx), h.mem.ro⟩, h.mrow, h.mro,
      ⟨?_, ?_, frm h.stat.vars, h.stat.rz, h.stat.rfl', h.stat.pz, h.stat.pfl⟩, ⟨?_, ?_, h.cache.zfl, h.cache.zro, h.cache.flro⟩, h.fuel, h.room, h.depth, h.objs, fun x hx => ⟨keep _ _ (h.side x hx).1, (h.side x hx).2⟩⟩
    · obtain ⟨es', a1, a2⟩ := h.stat.recs; exact ⟨es', keep _ _ a1, a2⟩
    · obtain ⟨es', a1, a2⟩ := h.stat.procs; exact ⟨es', keep _ _ a1, a2⟩
    · obtain ⟨es', a1, a2⟩ := h.cache.sizes; exact ⟨es', keep _ _ a1, a2⟩
    · obtain ⟨es', a1, a2⟩ := h.cache.fields
      refine ⟨es', keep _ _ a1, fun rec a ha => ?_⟩
      obtain ⟨b, fes, p1, p2, p3, p4, p5⟩ := a2 rec a ha
      exact ⟨b, fes, p1, p2, p3, keep _ _ p4, p5⟩
  have hm : C.m < H.objs.length := by obtain ⟨th, iv, ov, h1, _⟩ := h.mach; exact lt_of_obj h1
  refine ⟨hre, ⟨fun b es hb _ _ => keep b _ hb, by simp, rfl, fun b hb => ?_, fun x q => .inl (q.of h.cache (fun b es => keep b _))⟩, ⟨[], by simp⟩, MemLe.refl _⟩
  have := h.mro
  rw [Heap.push, List.getElem?_append_left (by omega)]
theorem setRow_push_comm {H : Heap} {b : Nat} (hb : b < H.objs.length) (l : List AVal) (o : AObj) : (H.push o).setRow b l = (H.setRow b l).push o := by
  simp [Heap.setRow, Heap.push, List.set_append_left, hb]
theorem RE.outTake (h : RE C rows s H) : ∃ th iv ov H1, H.objs[C.m]? = some (.cells (machRow C s th iv ov)) ∧ InV iv s.inp ∧ OutV ov s.out ∧ hraw H C.m 8 = some ov ∧ hstore H C.m 8 [ov.strip] = some H1 ∧ H1 = H.setRow C.m (machRow C s th iv ov.strip) := by
  obtain ⟨th, iv, ov, h1, h2, h3, _⟩ := h.mach
  exact ⟨th, iv, ov, _, h1, h2, h3, hraw_of h1 rfl, hstore_of h1 h.mro (by simp [machRow]), rfl⟩
theorem RE.outPut (h : RE C rows s H) {th : Nat} {iv ov ov' : AVal} (h1 : H.objs[C.m]? = some (.cells (machRow C s th iv ov))) (hi : InV iv s.inp) {out' : List UInt8} (hu : OutV ov' out') :
    ∃ H2, hstore (H.setRow C.m (machRow C s th iv ov.strip)) C.m 8 [ov'] = some H2 ∧ Post C rows s H rows { s with out := out' } H2 := by
  refine ⟨_, hstore_of (setRow_same _ h1) h.mro (by simp [machRow]), ?_⟩
  rw [setRow_setRow]
  exact h.toRow (s' := { s with out := out' }) h1 rfl rfl hi hu h.fuel h.room h.depth
theorem put_ok {l : List UInt8} {r : Rs Unit} (h : put l s = some r) : s.out.length + l.length ≤ most ∧ r = .ok () { s with out := s.out ++ l } := by
  unfold put at h
  split at h
  · rename_i hl; cases h; exact ⟨hl, rfl⟩
  · cases h
theorem byteOf_wrap (v : Int) : IntKind.wrap .u8 v = ((byteOf v).toNat : Int) := by
  have e : IntKind.wrap .u8 v = v % 256 := by
    unfold IntKind.wrap
    simp [IntKind.signed, IntKind.bits]
  rw [e]
  unfold byteOf
  have h1 : 0 ≤ v % 256 := Int.emod_nonneg _ (by decide)
  have h2 : v % 256 < 256 := Int.emod_lt_of_pos _ (by decide)
  have h3 : (UInt8.ofNat (v % 256).toNat).toNat = (v % 256).toNat := by
    rw [UInt8.toNat_ofNat']
    exact Nat.mod_eq_of_lt (by omega)
  rw [h3]; omega
theorem w_holds (hP : PK P) (IH : ExOK P C F) {f : Fr} {e : Ex} {r : Rs Int} (hs : F.expr f e s = some r) {fr : Nat} (h : RE C rows s H) (hF : FrE C rows s.mem f fr H) :
    match r with
    | .ok v s' => ∃ rows' H', Ev P 77 [.ptr C.m 0, .map fr, .agg (encEx e)] H (.ret (.bool (v != 0))) H' ∧ Post C rows s H rows' s' H'
    | .stop t u s' => ∃ H', Ev P 77 [.ptr C.m 0, .map fr, .agg (encEx e)] H (.panic (over t u)) H' ∧ OutE C s'.out H' := by
  have := IH.expr _ _ _ _ hs rows H fr h hF
  obtain ⟨op, ⟨tf, tn, tnm, tof⟩, i, nm, x⟩ := e
  cases r with
  | ok v s1 =>
    obtain ⟨rows1, H1, v1, e1, q1, p1⟩ := this
    cases q1
    exact ⟨rows1, H1, r77_0 (hP.pl 77 rfl) e1, p1⟩
  | stop t u s1 =>
    obtain ⟨H1, e1, o1⟩ := this
    exact ⟨H1, r77_1 (hP.pl 77 rfl) e1, o1⟩
end Go.Wf
namespace Go.Wf
open Go Go.Den
variable {P : Prims} {C : EC} {F : Fn} {rows : List Nat} {s : St} {H : Heap}
theorem wrap32_byte (c : UInt8) : IntKind.wrap .i32 (c.toNat : Int) = byteI c := by
  have hc := c.toNat_lt
  have e : IntKind.wrap .i32 (c.toNat : Int) = ((c.toNat : Int) + 2147483648) % 4294967296 - 2147483648 := by
    unfold IntKind.wrap
    simp [IntKind.signed, IntKind.bits]
    omega
  rw [e]; unfold byteI; omega
theorem w_put1 (h : RE C rows s H) {b : UInt8} {r : Rs Unit} (hs : put [b] s = some r) : ∃ H', Post C rows s H rows { s with out := s.out ++ [b] } H' ∧ r = .ok () { s with out := s.out ++ [b] } ∧
    ((∃ H1, hraw H C.m 8 = some .nils ∧ hstore H C.m 8 [.nils] = some H1 ∧ hstore H1 C.m 8 [.isl true 1 [.int .u8 (b.toNat : Int)]] = some H') ∨
     (∃ n cs H1, hraw H C.m 8 = some (.isl true n cs) ∧ hstore H C.m 8 [.isl false n cs] = some H1 ∧ cs.length = n * 1 ∧ n + 1 ≤ Go.Den.most ∧ hstore H1 C.m 8 [.isl true (n + 1) (cs ++ [.int .u8 (b.toNat : Int)])] = some H')) := by
  obtain ⟨hl, rfl⟩ := put_ok hs
  obtain ⟨th, iv, ov, H1, h1, h2, h3, h4, h5, rfl⟩ := h.outTake
  rcases h3 with ⟨rfl, ho⟩ | rfl
  · obtain ⟨H2, e2, p2⟩ := h.outPut (ov' := .isl true 1 [.int .u8 (b.toNat : Int)]) (out' := s.out ++ [b]) h1 h2 (.inr (by rw [ho]; rfl))
    exact ⟨H2, p2, rfl, .inl ⟨_, h4, h5, e2⟩⟩
  · obtain ⟨H2, e2, p2⟩ := h.outPut (ov' := .isl true (s.out.length + 1) (bytesV s.out ++ [.int .u8 (b.toNat : Int)])) (out' := s.out ++ [b]) h1 h2 (.inr (by simp [bytesV]))
    exact ⟨H2, p2, rfl, .inr ⟨_, _, _, h4, h5, by simp [bytesV_len], by unfold Go.Den.most; unfold most at hl; simp at hl; omega, e2⟩⟩
theorem w_read (hP : PK P) (IH : ExOK P C F) (f : Fr) (e : Ex) (b : List (List Sm)) (i : List Int) (r : Rs Unit) (hs : simpleS C.E F f 13 [e] s = some r) {fr : Nat} (h : RE C rows s H) (hF : FrE C rows s.mem f fr H) :
    Does P 81 [.ptr C.m 0, .map fr, .agg (encSm (.mk 13 [e] b i))] C rows s H QU r := by
  have hp := hP.pl 81 rfl
  obtain ⟨ao, ⟨af, an, anm, aof⟩, ai, anm', ax⟩ := e
  have ra := read_ex (l := [.mk ao (.mk af an anm aof) ai anm' ax]) (k := 0) rfl
  rw [Nat.zero_mul] at ra
  have hl := encExs_len [.mk ao (.mk af an anm aof) ai anm' ax]
  have hs' : (do let p ← F.place f (.mk ao (.mk af an anm aof) ai anm' ax); let v ← readS; keepL p v) s = some r := hs
  rcases bind_ok hs' with ⟨p, s1, hs1, hs2⟩ | ⟨e, t, s1, hs1, rfl⟩
  · obtain ⟨rows1, H1, v1, e1, q1, p1⟩ := IH.place _ _ _ _ hs1 rows H fr h hF
    obtain ⟨rr, blk, k1, k2, k3, rfl⟩ := q1
    rcases bind_ok hs2 with ⟨v, s2, hs3, hs4⟩ | ⟨e, t, s2, hs3, rfl⟩
    · unfold readS at hs3
      obtain ⟨th, iv, ov, m1, ⟨o, rfl⟩, m3, _⟩ := p1.re.mach
      have hld : hload H1 false 1 C.m 7 = some (.isl false s1.inp.length (bytesV s1.inp)) := hload_of m1 (v := .isl o s1.inp.length (bytesV s1.inp)) rfl
      cases hi : s1.inp with
      | nil =>
        rw [hi] at hs3 hld
        cases hs3
        obtain ⟨blk', hb, ho, rfl⟩ := keepL_ok hs4
        have : blk' = blk := by rw [k2] at hb; cases hb; rfl
        subst this
        obtain ⟨H2, e2, p2⟩ := p1.re.keep k1 k2 ho 0
        exact ⟨rows1, H2, _, r81_7 hp rfl (by simp) hl ra e1 hld (by simp) ho (by rw [show 0 + p.o * 1 = p.o by omega]; exact e2), rfl, p1.trans p2⟩
      | cons c l =>
        rw [hi] at hs3
        cases hs3
        have hst := hstore_of (v := .isl false l.length (bytesV l)) (off := 7) m1 p1.re.mro (by simp [machRow])
        have p2 := p1.re.toRow (s' := { s1 with inp := l }) (iv' := .isl false l.length (bytesV l)) (ov' := ov) m1 rfl rfl ⟨false, rfl⟩ m3 p1.re.fuel p1.re.room p1.re.depth
        obtain ⟨blk', hb, ho, rfl⟩ := keepL_ok hs4
        have : blk' = blk := by
          have hb' : s1.mem[p.b]? = some blk' := hb
          rw [k2] at hb'; cases hb'; rfl
        subst this
        obtain ⟨H3, e3, p3⟩ := p2.re.keep k1 k2 ho (byteI c)
        have hn : s1.inp.length = l.length + 1 := by rw [hi]; rfl
        refine ⟨rows1, H3, _, r81_6 hp rfl (by simp) hl ra e1 hld (by rw [hn]; omega) (by omega) (by rw [bytesV_len, Nat.mul_one]) (x5 := (c.toNat : Int)) (by rw [hi]; rfl) (wrap32_byte c) (n7 := l.length) (cs6 := bytesV l) ?_ hst ho (by rw [show 0 + p.o * 1 = p.o by omega]; exact e3), rfl, p1.trans (p2.trans p3)⟩
        rw [subI_eq (by omega) (Nat.le_refl _) (by rw [bytesV_len, Nat.mul_one]) (Nat.le_refl _), hn, hi]
        simp [bytesV, List.take_of_length_le]
    · unfold readS at hs3
      split at hs3 <;> cases hs3
  · obtain ⟨H1, e1, o1⟩ := IH.place _ _ _ _ hs1 rows H fr h hF
    exact ⟨H1, r81_8 hp rfl (by simp) hl ra e1, o1⟩
theorem w_putInt (hP : PK P) (IH : ExOK P C F) (f : Fr) (e : Ex) (b : List (List Sm)) (i : List Int) (r : Rs Unit) (hs : simpleS C.E F f 14 [e] s = some r) {fr : Nat} (h : RE C rows s H) (hF : FrE C rows s.mem f fr H) :
    Does P 81 [.ptr C.m 0, .map fr, .agg (encSm (.mk 14 [e] b i))] C rows s H QU r := by
  have hp := hP.pl 81 rfl
  obtain ⟨ao, ⟨af, an, anm, aof⟩, ai, anm', ax⟩ := e
  have ra := read_ex (l := [.mk ao (.mk af an anm aof) ai anm' ax]) (k := 0) rfl
  rw [Nat.zero_mul] at ra
  have hl := encExs_len [.mk ao (.mk af an anm aof) ai anm' ax]
  have hs' : (do let v ← F.expr f (.mk ao (.mk af an anm aof) ai anm' ax); (match ioOK v with | true => put (decI v) | false => stuck)) s = some r := hs
  rcases bind_ok hs' with ⟨v, s1, hs1, hs2⟩ | ⟨e, t, s1, hs1, rfl⟩
  · obtain ⟨rows1, H1, v1, e1, q1, p1⟩ := IH.expr _ _ _ _ hs1 rows H fr h hF
    cases q1
    have hin := IH.rng _ _ _ _ _ hs1
    have hr := in32_iff.1 hin
    have hio : ioOK v = true := by
      cases hq : ioOK v with
      | true => rfl
      | false => rw [hq] at hs2; cases hs2
    rw [hio] at hs2
    obtain ⟨hlen, rfl⟩ := put_ok hs2
    obtain ⟨th, iv, ov, H2, m1, m2, m3, m4, m5, rfl⟩ := p1.re.outTake
    obtain ⟨v', K, e2, m6, sc⟩ := hP.app ov s1.out v (H1.setRow C.m (machRow C s1 th iv ov.strip)) m3 hio hlen
    obtain ⟨H3, e3, p3⟩ : ∃ H3, hstore K C.m 8 [v'] = some H3 ∧ Post C rows1 s1 H1 rows1 { s1 with out := s1.out ++ decI v } H3 := by
      rcases sc with rfl | ⟨l, rfl⟩
      · exact p1.re.outPut (ov' := v') (out' := s1.out ++ decI v) m1 m2 m6
      · have sp := p1.re.scratchO (.cells l)
        obtain ⟨H3, e3, p3⟩ := sp.re.outPut (ov' := v') (out' := s1.out ++ decI v) (push_old _ m1) m2 m6
        rw [setRow_push_comm (lt_of_obj m1)] at e3
        exact ⟨H3, e3, sp.trans p3⟩
    have hne : s1.out ++ decI v ≠ [] := by
      have : decI v ≠ [] := by
        unfold decI
        split
        · simp
        · unfold decN; split <;> simp
      simp [this]
    have hv' : v' = .isl true (s1.out ++ decI v).length (bytesV (s1.out ++ decI v)) := by
      rcases m6 with ⟨_, q⟩ | q
      · exact (hne q).elim
      · exact q
    subst hv'
    rcases m3 with ⟨rfl, ho⟩ | rfl
    · exact ⟨rows1, H3, _, r81_10 hp rfl (by simp) hl ra e1 m4 m5 (wrap64 (by omega) (by omega)) e2 e3, rfl, p1.trans p3⟩
    · exact ⟨rows1, H3, _, r81_9 hp rfl (by simp) hl ra e1 m4 m5 (wrap64 (by omega) (by omega)) e2 e3, rfl, p1.trans p3⟩
  · obtain ⟨H1, e1, o1⟩ := IH.expr _ _ _ _ hs1 rows H fr h hF
    exact ⟨H1, r81_11 hp rfl (by simp) hl ra e1, o1⟩
theorem w_putChar (hP : PK P) (IH : ExOK P C F) (f : Fr) (e : Ex) (b : List (List Sm)) (i : List Int) (r : Rs Unit) (hs : simpleS C.E F f 15 [e] s = some r) {fr : Nat} (h : RE C rows s H) (hF : FrE C rows s.mem f fr H) :
    Does P 81 [.ptr C.m 0, .map fr, .agg (encSm (.mk 15 [e] b i))] C rows s H QU r := by
  have hp := hP.pl 81 rfl
  obtain ⟨ao, ⟨af, an, anm, aof⟩, ai, anm', ax⟩ := e
  have ra := read_ex (l := [.mk ao (.mk af an anm aof) ai anm' ax]) (k := 0) rfl
  rw [Nat.zero_mul] at ra
  have hl := encExs_len [.mk ao (.mk af an anm aof) ai anm' ax]
  have hs' : (do let v ← F.expr f (.mk ao (.mk af an anm aof) ai anm' ax); put [byteOf v]) s = some r := hs
  rcases bind_ok hs' with ⟨v, s1, hs1, hs2⟩ | ⟨e, t, s1, hs1, rfl⟩
  · obtain ⟨rows1, H1, v1, e1, q1, p1⟩ := IH.expr _ _ _ _ hs1 rows H fr h hF
    cases q1
    obtain ⟨H2, p2, rfl, hq⟩ := w_put1 p1.re hs2
    rcases hq with ⟨H3, a1, a2, a3⟩ | ⟨n, cs, H3, a1, a2, a3, a4, a5⟩
    · exact ⟨rows1, H2, _, r81_13 hp rfl (by simp) hl ra e1 a1 a2 (byteOf_wrap v) a3, rfl, p1.trans p2⟩
    · exact ⟨rows1, H2, _, r81_12 hp rfl (by simp) hl ra e1 a1 a2 (byteOf_wrap v) a3 a4 a5, rfl, p1.trans p2⟩
  · obtain ⟨H1, e1, o1⟩ := IH.expr _ _ _ _ hs1 rows H fr h hF
    exact ⟨H1, r81_14 hp rfl (by simp) hl ra e1, o1⟩
theorem w_putLn (hP : PK P) (f : Fr) (b : List (List Sm)) (i : List Int) (r : Rs Unit) (hs : simpleS C.E F f 17 [] s = some r) {fr : Nat} (h : RE C rows s H) :
    Does P 81 [.ptr C.m 0, .map fr, .agg (encSm (.mk 17 [] b i))] C rows s H QU r := by
  have hp := hP.pl 81 rfl
  have hs' : put [10] s = some r := hs
  obtain ⟨H2, p2, rfl, hq⟩ := w_put1 h hs'
  rcases hq with ⟨H3, a1, a2, a3⟩ | ⟨n, cs, H3, a1, a2, a3, a4, a5⟩
  · exact ⟨rows, H2, _, r81_16 hp rfl a1 a2 a3, rfl, p2⟩
  · exact ⟨rows, H2, _, r81_15 hp rfl a1 a2 a3 a4 a5, rfl, p2⟩
theorem w_assert (hP : PK P) (IH : ExOK P C F) (f : Fr) (e : Ex) (b : List (List Sm)) (i : List Int) (r : Rs Unit) (hs : simpleS C.E F f 12 [e] s = some r) {fr : Nat} (h : RE C rows s H) (hF : FrE C rows s.mem f fr H) :
    Does P 81 [.ptr C.m 0, .map fr, .agg (encSm (.mk 12 [e] b i))] C rows s H QU r := by
  have hp := hP.pl 81 rfl
  obtain ⟨ao, ⟨af, an, anm, aof⟩, ai, anm', ax⟩ := e
  have ra := read_ex (l := [.mk ao (.mk af an anm aof) ai anm' ax]) (k := 0) rfl
  rw [Nat.zero_mul] at ra
  have hl := encExs_len [.mk ao (.mk af an anm aof) ai anm' ax]
  have hs' : (do let v ← F.expr f (.mk ao (.mk af an anm aof) ai anm' ax); must (v != 0) 5) s = some r := hs
  rcases bind_ok hs' with ⟨v, s1, hs1, hs2⟩ | ⟨e, t, s1, hs1, rfl⟩
  · obtain ⟨rows1, H1, e1, p1⟩ := w_holds hP IH hs1 h hF
    rcases must_ok hs2 with ⟨hc, rfl⟩ | ⟨hc, rfl⟩
    · rw [hc] at e1
      exact ⟨rows1, H1, _, r81_3 hp rfl (by simp) hl ra e1 (w_mustT hP 5 H1), rfl, p1⟩
    · rw [hc] at e1
      exact ⟨H1, r81_4 hp rfl (by simp) hl ra e1 (w_mustF hP 5 H1), p1.re.out⟩
  · obtain ⟨H1, e1, o1⟩ := w_holds hP IH hs1 h hF
    exact ⟨H1, r81_5 hp rfl (by simp) hl ra e1, o1⟩
end Go.Wf
namespace Go.Wf
open Go Go.Den
variable {P : Prims} {C : EC} {F : Fn} {rows : List Nat} {s : St} {H : Heap}
def LDoes {α : Type} (P : Prims) (f : FuncId) (k : Code) (n : Nat) (l : Facts) (bx : Bxs) (ex : α → AExit) (l' : α → Facts) (bx' : Bxs) (C : EC) (rows : List Nat) (s : St) (H : Heap) : Rs α → Prop
  | .ok a s' => ∃ rows' H', LoopEv P f k n [] l bx H (ex a) [] (l' a) bx' H' ∧ Post C rows s H rows' s' H'
  | .stop e t s' => ∃ H', LoopEv P f k n [] l bx H (.panic (over e t)) [] [] ⟨[], true⟩ H' ∧ OutE C s'.out H'
abbrev WhlP (P : Prims) (C : EC) (fr : Nat) (cs : List AVal) (rows : List Nat) (s : St) (H : Heap) (r : Rs Unit) : Prop :=
  LDoes P 43 k43_0 88 [(0, .ptr C.m 0), (1, .map fr), (5, .loc 0 0)] ⟨[cs], false⟩ (fun _ => .exit 1) (fun _ => []) ⟨[cs], false⟩ C rows s H r
abbrev RepP (P : Prims) (C : EC) (fr : Nat) (cs : List AVal) (rows : List Nat) (s : St) (H : Heap) (r : Rs Unit) : Prop :=
  LDoes P 43 k43_1 88 [(0, .ptr C.m 0), (1, .map fr), (5, .loc 0 0), (6, .bool true)] ⟨[cs], false⟩ (fun _ => .exit 3) (fun _ => []) ⟨[cs], false⟩ C rows s H r
abbrev ForP (P : Prims) (C : EC) (fr : Nat) (cs : List AVal) (rr n : Nat) (o : Nat) (last : Int) (rows : List Nat) (s : St) (H : Heap) (r : Rs Unit) : Prop :=
  LDoes P 78 k78_0 90 [(0, .ptr C.m 0), (1, .map fr), (5, .loc 0 0), (6, .loc 1 0), (8, .int .i32 last)] ⟨[cs, [.msl rr 0 n 1, .int .i64 (o : Int)]], false⟩ (fun _ => .ret) (fun _ => []) ⟨[cs, [.msl rr 0 n 1, .int .i64 (o : Int)]], false⟩ C rows s H r
structure StOK (P : Prims) (C : EC) (F : Fn) : Prop where
  body : ∀ f l s r, F.body f l s = some r → ∀ rows H fr, RE C rows s H → FrE C rows s.mem f fr H → Does P 31 [.ptr C.m 0, .map fr, .isl false l.length (encSms l)] C rows s H QU r
  whl : ∀ f x b i s r, F.whl f x b s = some r → ∀ rows H fr, RE C rows s H → FrE C rows s.mem f fr H → WhlP P C fr (encSm (.mk 3 x b i)) rows s H r
  rep : ∀ f e l i s r, F.rep f e l s = some r → ∀ rows H fr, RE C rows s H → FrE C rows s.mem f fr H → RepP P C fr (encSm (.mk 4 [e] [l] i)) rows s H r
  forl : ∀ f p last by' l x s r, F.forl f p last by' l s = some r → ∀ rows H fr rr blk, RE C rows s H → FrE C rows s.mem f fr H → rows[p.b]? = some rr → s.mem[p.b]? = some blk → ForP P C fr (encSm (.mk 5 x [l] [by'])) rr blk.length p.o last rows s H r
abbrev StmtOK (P : Prims) (C : EC) (F : Fn) : Prop := ∀ f sm s r, stmtS C.E F f sm s = some r → ∀ rows H fr, RE C rows s H → FrE C rows s.mem f fr H → Does P 43 [.ptr C.m 0, .map fr, .agg (encSm sm)] C rows s H QU r
theorem okL_ok {n : Nat} {r : Rs Unit} (h : okL n s = some r) : n ≤ far ∧ r = .ok () s := by
  unfold okL at h
  split at h
  · cases h; exact ⟨by assumption, rfl⟩
  · cases h
theorem drop_cons {α : Type} {all x : List α} {k : Nat} {e : α} (hk : all.drop k = e :: x) : k < all.length ∧ all[k]? = some e ∧ all.drop (k + 1) = x := by
  have hkl : k < all.length := by
    rcases Nat.lt_or_ge k all.length with q | q
    · exact q
    · rw [List.drop_of_length_le q] at hk; cases hk
  refine ⟨hkl, ?_, ?_⟩
  · have : (all.drop k)[0]? = some e := by rw [hk]; rfl
    simpa using this
  · have : (all.drop k).tail = x := by rw [hk]; rfl
    simpa [List.tail_drop] using this
theorem w_body (hP : PK P) (hS : StmtOK P C F) (f : Fr) (fr : Nat) (all : List Sm) (hall : all.length ≤ far) : ∀ (l : List Sm) (k : Nat), all.drop k = l → ∀ (s : St) (r : Rs Unit), bodyS C.E F f l s = some r → ∀ rows H, RE C rows s H → FrE C rows s.mem f fr H →
    LDoes P 31 k31_0 21 [(0, .ptr C.m 0), (1, .map fr), (8, .isl false all.length (encSms all)), (9, .int .i64 (all.length : Int)), (10, .int .i64 (k : Int))] ⟨[], true⟩ (fun _ => .exit 0) (fun _ => []) ⟨[], true⟩ C rows s H r
  | [], k, hk, s, r, hs, rows, H, h, hF => by
    cases pure_ok hs
    have : all.length ≤ k := by simpa using hk
    exact ⟨rows, H, loop_exit (by simp) (b31_0_3 (by omega)), Post.refl h⟩
  | e :: l, k, hk, s, r, hs, rows, H, h, hF => by
    obtain ⟨hkl, hget, hd⟩ := drop_cons hk
    have rd := read_sm hget
    obtain ⟨eo, ex, eb, ei⟩ := e
    rcases bind_ok hs with ⟨_, s1, hs1, hs2⟩ | ⟨e, t, s1, hs1, rfl⟩
    · obtain ⟨rows1, H1, v1, e1, q1, p1⟩ := w_burn hP h hs1
      cases q1
      rcases bind_ok hs2 with ⟨_, s2, hs3, hs4⟩ | ⟨e, t, s2, hs3, rfl⟩
      · obtain ⟨rows2, H2, v2, e2, q2, p2⟩ := hS _ _ _ _ hs3 rows1 H1 fr p1.re (hF.mono p1)
        cases q2
        have := w_body hP hS f fr all hall l (k + 1) hd s2 r hs4 rows2 H2 p2.re ((hF.mono p1).mono p2)
        cases r with
        | ok w s3 =>
          obtain ⟨rows3, H3, l3, p3⟩ := this
          exact ⟨rows3, H3, loop_next (by rfl) (b31_0_0 (by omega) hkl (encSms_len all) rd e1 e2 (add1 hkl hall)) l3, (p1.trans p2).trans p3⟩
        | stop e t s3 =>
          obtain ⟨H3, l3, o3⟩ := this
          exact ⟨H3, loop_next (by rfl) (b31_0_0 (by omega) hkl (encSms_len all) rd e1 e2 (add1 hkl hall)) l3, o3⟩
      · obtain ⟨H2, e2, o2⟩ := hS _ _ _ _ hs3 rows1 H1 fr p1.re (hF.mono p1)
        exact ⟨H2, loop_exit (by simp) (b31_0_1 (by omega) hkl (encSms_len all) rd e1 e2), o2⟩
    · obtain ⟨H1, e1, o1⟩ := w_burn hP h hs1
      exact ⟨H1, loop_exit (by simp) (b31_0_2 (by omega) hkl (encSms_len all) rd e1), o1⟩
theorem w_seq (hP : PK P) (hS : StmtOK P C F) (f : Fr) (l : List Sm) (s : St) (r : Rs Unit) (hs : seqS C.E F f l s = some r) (rows : List Nat) (H : Heap) (fr : Nat) (h : RE C rows s H) (hF : FrE C rows s.mem f fr H) :
    Does P 31 [.ptr C.m 0, .map fr, .isl false l.length (encSms l)] C rows s H QU r := by
  rcases bind_ok hs with ⟨_, s1, hs1, hs2⟩ | ⟨e, t, s1, hs1, rfl⟩
  · obtain ⟨hl, e1⟩ := okL_ok hs1
    cases e1
    have := w_body hP hS f fr l hl l 0 rfl s r hs2 rows H h hF
    cases r with
    | ok w s1 =>
      obtain ⟨rows1, H1, l1, p1⟩ := this
      exact ⟨rows1, H1, _, l31_0 (hP.pl 31 rfl) l1, rfl, p1⟩
    | stop e t s1 =>
      obtain ⟨H1, l1, o1⟩ := this
      exact ⟨H1, l31_1 (hP.pl 31 rfl) l1, o1⟩
  · obtain ⟨hl, e1⟩ := okL_ok hs1
    cases e1
theorem w_again (hP : PK P) (IH : ExOK P C F) (IS : StOK P C F) (f : Fr) (fr : Nat) (op : Int) (i : List Int) (all : List Ex) (bs : List (List Sm)) (hall : all.length ≤ far) :
    ∀ (x : List Ex) (b : List (List Sm)) (k : Nat), all.drop k = x → bs.drop k = b → ∀ (s : St) (r : Rs Bool), againS F f x b s = some r → ∀ rows H, RE C rows s H → FrE C rows s.mem f fr H →
    LDoes P 76 k76_0 32 [(0, .ptr C.m 0), (1, .map fr), (5, .loc 0 0), (10, .isl false all.length (encExs all)), (11, .int .i64 (all.length : Int)), (12, .int .i64 (k : Int))] ⟨[encSm (.mk op all bs i)], true⟩
      (fun a => cond a .ret (.exit 0)) (fun a => cond a [(6, .bool true)] []) ⟨[encSm (.mk op all bs i)], true⟩ C rows s H r
  | [], [], k, hk, hb, s, r, hs, rows, H, h, hF => by
    cases pure_ok hs
    have : all.length ≤ k := by simpa using hk
    exact ⟨rows, H, loop_exit (by simp) (b76_0_5 (by omega)), Post.refl h⟩
  | [], _ :: _, k, hk, hb, s, r, hs, rows, H, h, hF => by cases hs
  | _ :: _, [], k, hk, hb, s, r, hs, rows, H, h, hF => by cases hs
  | e :: x, b :: bl, k, hk, hb, s, r, hs, rows, H, h, hF => by
    obtain ⟨hkl, hget, hd⟩ := drop_cons hk
    obtain ⟨hbl, hgb, hdb⟩ := drop_cons hb
    have rd := read_ex hget
    have rb := read_body hgb
    obtain ⟨eo, ⟨ef, en, enm, eof⟩, ei, enm', ex⟩ := e
    rcases bind_ok hs with ⟨_, s1, hs1, hs2⟩ | ⟨e, t, s1, hs1, rfl⟩
    · obtain ⟨rows1, H1, v1, e1, q1, p1⟩ := w_burn hP h hs1
      cases q1
      rcases bind_ok hs2 with ⟨v, s2, hs3, hs4⟩ | ⟨e, t, s2, hs3, rfl⟩
      · obtain ⟨rows2, H2, e2, p2⟩ := w_holds hP IH hs3 p1.re (hF.mono p1)
        by_cases hv : v = 0
        · subst hv
          simp only [if_true] at hs4
          have := w_again hP IH IS f fr op i all bs hall x bl (k + 1) hd hdb s2 r hs4 rows2 H2 p2.re ((hF.mono p1).mono p2)
          cases r with
          | ok w s3 =>
            obtain ⟨rows3, H3, l3, p3⟩ := this
            exact ⟨rows3, H3, loop_next (by rfl) (b76_0_2 (by omega) hkl (encExs_len all) rd e1 e2 rfl (add1 hkl hall)) l3, (p1.trans p2).trans p3⟩
          | stop e t s3 =>
            obtain ⟨H3, l3, o3⟩ := this
            exact ⟨H3, loop_next (by rfl) (b76_0_2 (by omega) hkl (encExs_len all) rd e1 e2 rfl (add1 hkl hall)) l3, o3⟩
        · simp only [hv, if_false] at hs4
          have hv' : (v != 0) = true := by simpa using hv
          rw [hv'] at e2
          rcases bind_ok hs4 with ⟨_, s3, hs5, hs6⟩ | ⟨e, t, s3, hs5, rfl⟩
          · obtain ⟨rows3, H3, v3, e3, q3, p3⟩ := IS.body _ _ _ _ hs5 rows2 H2 fr p2.re ((hF.mono p1).mono p2)
            cases q3
            cases pure_ok hs6
            exact ⟨rows3, H3, loop_exit (by simp) (b76_0_0 (by omega) hkl (encExs_len all) rd e1 e2 rfl hbl (encSmss_len bs) (by rw [Nat.mul_one]; exact rb) e3), (p1.trans p2).trans p3⟩
          · obtain ⟨H3, e3, o3⟩ := IS.body _ _ _ _ hs5 rows2 H2 fr p2.re ((hF.mono p1).mono p2)
            exact ⟨H3, loop_exit (by simp) (b76_0_1 (by omega) hkl (encExs_len all) rd e1 e2 rfl hbl (encSmss_len bs) (by rw [Nat.mul_one]; exact rb) e3), o3⟩
      · obtain ⟨H2, e2, o2⟩ := w_holds hP IH hs3 p1.re (hF.mono p1)
        exact ⟨H2, loop_exit (by simp) (b76_0_3 (by omega) hkl (encExs_len all) rd e1 e2), o2⟩
    · obtain ⟨H1, e1, o1⟩ := w_burn hP h hs1
      exact ⟨H1, loop_exit (by simp) (b76_0_4 (by omega) hkl (encExs_len all) rd e1), o1⟩
theorem w_whl (hP : PK P) (IH : ExOK P C F) (IS : StOK P C F) (f : Fr) (x : List Ex) (b : List (List Sm)) (i : List Int) (s : St) (r : Rs Unit) (hs : whlS F f x b s = some r) (rows : List Nat) (H : Heap) (fr : Nat) (h : RE C rows s H) (hF : FrE C rows s.mem f fr H) :
    WhlP P C fr (encSm (.mk 3 x b i)) rows s H r := by
  rcases bind_ok hs with ⟨_, s0, hs0, hs⟩ | ⟨e, t, s1, hs1, rfl⟩
  · obtain ⟨hl, e0⟩ := okL_ok hs0
    cases e0
    rcases bind_ok hs with ⟨a, s1, hs1, hs2⟩ | ⟨e, t, s1, hs1, rfl⟩
    · obtain ⟨rows1, H1, l1, p1⟩ := w_again hP IH IS f fr 3 i x b hl x b 0 rfl rfl s _ hs1 rows H h hF
      cases a with
      | true =>
        have e1 := l76_2 (hP.pl 76 rfl) l1
        have := IS.whl f x b i s1 r hs2 rows1 H1 fr p1.re (hF.mono p1)
        cases r with
        | ok w s2 =>
          obtain ⟨rows2, H2, l2, p2⟩ := this
          exact ⟨rows2, H2, loop_next (by rfl) (b43_0_0 e1 rfl) l2, p1.trans p2⟩
        | stop e t s2 =>
          obtain ⟨H2, l2, o2⟩ := this
          exact ⟨H2, loop_next (by rfl) (b43_0_0 e1 rfl) l2, o2⟩
      | false =>
        cases pure_ok hs2
        have e1 := l76_0 (hP.pl 76 rfl) l1
        exact ⟨rows1, H1, loop_exit (by simp) (b43_0_1 e1 rfl), p1⟩
    · obtain ⟨H1, l1, o1⟩ := w_again hP IH IS f fr 3 i x b hl x b 0 rfl rfl s _ hs1 rows H h hF
      exact ⟨H1, loop_exit (by simp) (b43_0_2 (l76_1 (hP.pl 76 rfl) l1)), o1⟩
  · obtain ⟨hl, e1⟩ := okL_ok hs1
    cases e1
theorem w_rep (hP : PK P) (IH : ExOK P C F) (IS : StOK P C F) (f : Fr) (e : Ex) (l : List Sm) (i : List Int) (s : St) (r : Rs Unit) (hs : repS F f e l s = some r) (rows : List Nat) (H : Heap) (fr : Nat) (h : RE C rows s H) (hF : FrE C rows s.mem f fr H) :
    RepP P C fr (encSm (.mk 4 [e] [l] i)) rows s H r := by
  have rd := read_ex (l := [e]) (k := 0) rfl
  rw [Nat.zero_mul] at rd
  have rb := read_body (l := [l]) (k := 0) rfl
  have hl := encExs_len [e]
  have hb := encSmss_len [l]
  obtain ⟨eo, ⟨ef, en, enm, eof⟩, ei, enm', ex⟩ := e
  rcases bind_ok hs with ⟨_, s1, hs1, hs2⟩ | ⟨e, t, s1, hs1, rfl⟩
  · obtain ⟨rows1, H1, v1, e1, q1, p1⟩ := IS.body _ _ _ _ hs1 rows H fr h hF
    cases q1
    rcases bind_ok hs2 with ⟨_, s2, hs3, hs4⟩ | ⟨e, t, s2, hs3, rfl⟩
    · obtain ⟨rows2, H2, v2, e2, q2, p2⟩ := w_burn hP p1.re hs3
      cases q2
      rcases bind_ok hs4 with ⟨v, s3, hs5, hs6⟩ | ⟨e, t, s3, hs5, rfl⟩
      · obtain ⟨rows3, H3, e3, p3⟩ := w_holds hP IH hs5 p2.re ((hF.mono p1).mono p2)
        have hb1 := b43_1_0 (P := P) (b0 := true) (x0 := 4) (n2 := i.length) (cs2 := encI i) rfl (by simp) hb rb e1 e2 (by simp) hl rd e3
        by_cases hv : v = 0
        · subst hv
          simp only [if_true] at hs6
          have := IS.rep f _ l i s3 r hs6 rows3 H3 fr p3.re (((hF.mono p1).mono p2).mono p3)
          cases r with
          | ok w s4 =>
            obtain ⟨rows4, H4, l4, p4⟩ := this
            exact ⟨rows4, H4, loop_next (by rfl) hb1 l4, ((p1.trans p2).trans p3).trans p4⟩
          | stop e t s4 =>
            obtain ⟨H4, l4, o4⟩ := this
            exact ⟨H4, loop_next (by rfl) hb1 l4, o4⟩
        · simp only [hv, if_false] at hs6
          cases pure_ok hs6
          have hv' : (v != 0) = true := by simpa using hv
          rw [hv'] at hb1
          exact ⟨rows3, H3, loop_next (by rfl) hb1 (loop_exit (by simp) (b43_1_4 rfl)), (p1.trans p2).trans p3⟩
      · obtain ⟨H3, e3, o3⟩ := w_holds hP IH hs5 p2.re ((hF.mono p1).mono p2)
        exact ⟨H3, loop_exit (by simp) (b43_1_1 rfl (by simp) hb rb e1 e2 (by simp) hl rd e3), o3⟩
    · obtain ⟨H2, e2, o2⟩ := w_burn hP p1.re hs3
      exact ⟨H2, loop_exit (by simp) (b43_1_2 rfl (by simp) hb rb e1 e2), o2⟩
  · obtain ⟨H1, e1, o1⟩ := IS.body _ _ _ _ hs1 rows H fr h hF
    exact ⟨H1, loop_exit (by simp) (b43_1_3 rfl (by simp) hb rb e1), o1⟩
end Go.Wf
namespace Go.Wf
open Go Go.Den
variable {P : Prims} {C : EC} {F : Fn} {rows : List Nat} {s : St} {H : Heap}
theorem w_bit (hP : PK P) {n : Int} (hn : in32 n = true) (H : Heap) : Ev P 132 [.int .i32 n] H (.ret (.tup [.int .i32 (cond (elemB n) (bitOf n) 0), .bool (elemB n)])) H := by
  have he := hP.elem n H
  cases hb : elemB n with
  | false => rw [hb] at he; exact r132_0 (hP.pl 132 rfl) he rfl
  | true =>
    rw [hb] at he
    have hr : 0 ≤ n ∧ n < 32 := by simpa [elemB] using hb
    have e : IntKind.wrap .u64 n = n := by
      have : IntKind.wrap .u64 n = n % 18446744073709551616 := by
        unfold IntKind.wrap
        simp [IntKind.signed, IntKind.bits]
      rw [this]; omega
    refine r132_1 (hP.pl 132 rfl) he rfl e (i0 := n.toNat) (by omega) ?_
    have : min n.toNat 32 = n.toNat := by omega
    rw [this, Int.one_mul]
    rfl
theorem w_elem (hP : PK P) (IH : ExOK P C F) : ElOK P C F := by
  intro f e s r hs rows H fr h hF
  have hp := hP.pl 176 rfl
  obtain ⟨op, ⟨tf, tn, tnm, tof⟩, i, nm, x⟩ := e
  unfold elemS at hs
  by_cases h25 : op = 25
  · subst h25
    simp only [if_true] at hs
    split at hs
    · rename_i a
      have ra := read_ex (l := [a]) (k := 0) rfl
      rw [Nat.zero_mul] at ra
      have hl := encExs_len [a]
      obtain ⟨ao, ⟨af, an, anm, aof⟩, ai, anm', ax⟩ := a
      rcases bind_ok hs with ⟨v, s1, hs1, hs2⟩ | ⟨e, t, s1, hs1, rfl⟩
      · obtain ⟨rows1, H1, v1, e1, q1, p1⟩ := IH.expr _ _ _ _ hs1 rows H fr h hF
        cases q1
        have eb := w_bit hP (IH.rng _ _ _ _ _ hs1) H1
        rcases bind_ok hs2 with ⟨_, s2, hs3, hs4⟩ | ⟨e, t, s2, hs3, rfl⟩
        · rcases must_ok hs3 with ⟨hc, e2⟩ | ⟨hc, e2⟩
          · cases e2
            cases pure_ok hs4
            rw [hc] at eb
            exact ⟨rows1, H1, _, r176_3 hp (by simp) hl ra e1 eb (by decide) (w_mustT hP 6 H1), rfl, p1⟩
          · cases e2
        · rcases must_ok hs3 with ⟨hc, e2⟩ | ⟨hc, e2⟩
          · cases e2
          · cases e2
            rw [hc] at eb
            exact ⟨H1, r176_4 hp (by simp) hl ra e1 eb (by decide) (w_mustF hP 6 H1), p1.re.out⟩
      · obtain ⟨H1, e1, o1⟩ := IH.expr _ _ _ _ hs1 rows H fr h hF
        exact ⟨H1, r176_5 hp (by simp) hl ra e1, o1⟩
    · cases hs
  simp only [h25, if_false] at hs
  by_cases h26 : op = 26
  · subst h26
    simp only [if_true] at hs
    split at hs
    · rename_i a b
      have ra := read_ex (l := [a, b]) (k := 0) rfl
      rw [Nat.zero_mul] at ra
      have rb := read_ex (l := [a, b]) (k := 1) rfl
      rw [Nat.one_mul] at rb
      have hl := encExs_len [a, b]
      obtain ⟨ao, ⟨af, an, anm, aof⟩, ai, anm', ax⟩ := a
      obtain ⟨bo, ⟨bf, bn, bnm, bof⟩, bi, bnm', bx⟩ := b
      rcases bind_ok hs with ⟨v, s1, hs1, hs2⟩ | ⟨e, t, s1, hs1, rfl⟩
      · obtain ⟨rows1, H1, v1, e1, q1, p1⟩ := IH.expr _ _ _ _ hs1 rows H fr h hF
        cases q1
        have eb := w_bit hP (IH.rng _ _ _ _ _ hs1) H1
        rcases bind_ok hs2 with ⟨w, s2, hs3, hs4⟩ | ⟨e, t, s2, hs3, rfl⟩
        · obtain ⟨rows2, H2, v2, e2, q2, p2⟩ := IH.expr _ _ _ _ hs3 rows1 H1 fr p1.re (hF.mono p1)
          cases q2
          have es := hP.span v w H2 (IH.rng _ _ _ _ _ hs1) (IH.rng _ _ _ _ _ hs3)
          rcases bind_ok hs4 with ⟨_, s3, hs5, hs6⟩ | ⟨e, t, s3, hs5, rfl⟩
          · rcases must_ok hs5 with ⟨hc, e3⟩ | ⟨hc, e3⟩
            · cases e3
              cases pure_ok hs6
              rw [hc] at es
              exact ⟨rows2, H2, _, r176_0 hp (by simp) hl ra e1 eb rfl (by simp) rb e2 es (w_mustT hP 6 H2), rfl, p1.trans p2⟩
            · cases e3
          · rcases must_ok hs5 with ⟨hc, e3⟩ | ⟨hc, e3⟩
            · cases e3
            · cases e3
              rw [hc] at es
              exact ⟨H2, r176_1 hp (by simp) hl ra e1 eb rfl (by simp) rb e2 es (w_mustF hP 6 H2), p2.re.out⟩
        · obtain ⟨H2, e2, o2⟩ := IH.expr _ _ _ _ hs3 rows1 H1 fr p1.re (hF.mono p1)
          exact ⟨H2, r176_2 hp (by simp) hl ra e1 eb rfl (by simp) rb e2, o2⟩
      · obtain ⟨H1, e1, o1⟩ := IH.expr _ _ _ _ hs1 rows H fr h hF
        exact ⟨H1, r176_5 hp (by simp) hl ra e1, o1⟩
    · cases hs
  simp only [h26, if_false] at hs
  cases hs
mutual
theorem beqAs_tys : ∀ l : List Ty, beqAs (encTys l) (encTys l) = true
  | [] => rfl
  | .mk f n s of :: l => by
    simp only [encTys, encTy, List.cons_append, List.nil_append, beqAs, beqA, decide_true, Bool.and_self, beqB_refl, Nat.beq_refl, beq_self_eq_true, beqAs_tys of, beqAs_tys l]
end
mutual
theorem beqAs_exs : ∀ l : List Ex, beqAs (encExs l) (encExs l) = true
  | [] => rfl
  | .mk op (.mk f n s of) i nm x :: l => by
    simp only [encExs, encEx, List.cons_append, List.nil_append, beqAs, beqA, decide_true, Bool.and_self, beqB_refl, Nat.beq_refl, beq_self_eq_true, beqAs_tys of, beqAs_exs x, beqAs_exs l]
end
def normF (f : Int) : Int := if 1 ≤ f ∧ f ≤ 4 then f else 1
theorem normF_le (f : Int) : 1 ≤ normF f ∧ normF f ≤ 4 := by unfold normF; split <;> omega
theorem un_norm (op f a : Int) : un op (normF f) a = un op f a := by
  have e : (normF f = 4) = (f = 4) := by
    unfold normF; split <;> simp <;> omega
  simp only [un, e]
theorem bin_norm (op f a b : Int) : bin op (normF f) a b = bin op f a b := by
  have e : (normF f = 4) = (f = 4) := by
    unfold normF; split <;> simp <;> omega
  simp only [bin, e]
abbrev Op177 (P : Prims) (C : EC) (fr : Nat) (all : List Ex) (c0 c1 : List AVal) (k : Nat) (H : Heap) (ex : AExit) (l' : Facts) (bx' : Bxs) (H' : Heap) : Prop :=
  LoopEv P 177 k177_0 58 [] [(0, .ptr C.m 0), (1, .map fr), (5, .loc 0 0), (7, .loc 1 0), (19, .isl false all.length (encExs all)), (20, .int .i64 (all.length : Int)), (21, .int .i64 (k : Int))] ⟨[c0, c1], true⟩ H ex [] l' bx' H'
end Go.Wf
namespace Go.Wf
open Go Go.Den
variable {P : Prims} {C : EC} {F : Fn} {rows : List Nat} {s : St} {H : Heap}
abbrev row1 (op tf tn : Int) (tnm : Nm) (tof : List Ty) (X : AVal) : List AVal := [.int .i64 op, .int .i64 tf, .int .i64 tn, .str tnm, .isl false tof.length (encTys tof), .int .i32 0, .str [], X]
theorem bool_norm (f : Int) : ((decide (1 ≤ f) && decide (f ≤ 4)) = true ∧ normF f = f) ∨ ((decide (1 ≤ f) && decide (f ≤ 4)) = false ∧ normF f = 1) := by
  by_cases h : 1 ≤ f ∧ f ≤ 4
  · exact .inl ⟨by simp [h.1, h.2], by unfold normF; rw [if_pos h]⟩
  · refine .inr ⟨?_, by unfold normF; rw [if_neg h]⟩
    cases h1 : decide (1 ≤ f) with
    | false => rfl
    | true =>
      have := of_decide_eq_true h1
      simp only [Bool.true_and]
      exact decide_eq_false (fun h2 => h ⟨this, h2⟩)
theorem op_first (hP : PK P) (IH : ExOK P C F) (f : Fr) (fr : Nat) (op tf tn i : Int) (tnm nm : Nm) (tof : List Ty) (all : List Ex) (e : Ex) (hget : all[0]? = some e) {r : Rs Int} (hs : F.expr f e s = some r) (h : RE C rows s H) (hF : FrE C rows s.mem f fr H) :
    match r with
    | .ok v s' => ∃ rows' H', Post C rows s H rows' s' H' ∧ ∀ {ex : AExit} {l' : Facts} {bx' : Bxs} {H2 : Heap}, Op177 P C fr all (encEx (.mk op (.mk tf tn tnm tof) i nm all)) (row1 op tf tn tnm tof (.isl true 1 (litC (normF e.t.form) v))) 1 H' ex l' bx' H2 →
        Op177 P C fr all (encEx (.mk op (.mk tf tn tnm tof) i nm all)) (row1 op tf tn tnm tof .nils) 0 H ex l' bx' H2
    | .stop e t s' => ∃ H', Op177 P C fr all (encEx (.mk op (.mk tf tn tnm tof) i nm all)) (row1 op tf tn tnm tof .nils) 0 H (.panic (over e t)) [] ⟨[], true⟩ H' ∧ OutE C s'.out H' := by
  have rd := read_ex hget
  have hkl := get_lt hget
  have := IH.expr _ _ _ _ hs rows H fr h hF
  obtain ⟨eo, ⟨ef, en, enm, eof⟩, ei, enm', ex⟩ := e
  have q0 := hP.num ef 0 H
  have qc := hP.isC ef 0 H
  have w1 : IntKind.wrap .i64 (((0 : Nat) : Int) + 1) = ((1 : Nat) : Int) := by rw [wrap64 (by omega) (by omega)]; rfl
  cases r with
  | ok v s' =>
    obtain ⟨rows', H', v', e1, q1, p1⟩ := this
    cases q1
    refine ⟨rows', H', p1, fun hl => ?_⟩
    rcases bool_norm ef with ⟨hb, hn⟩ | ⟨hb, hn⟩
    · rw [hb] at qc
      have hl' := hl
      simp only [Ex.t, Ty.form, hn] at hl'
      exact loop_next (by rfl) (b177_0_v1_2 (by omega) hkl (encExs_len all) rd q0 qc rfl e1 (hP.num ef v H') (beqAs_tys eof) (beqAs_exs ex) w1) hl'
    · rw [hb] at qc
      have hl' := hl
      simp only [Ex.t, Ty.form, hn] at hl'
      exact loop_next (by rfl) (b177_0_v1_0 (by omega) hkl (encExs_len all) rd q0 qc rfl e1 (hP.num 1 v H') (beqAs_tys eof) (beqAs_exs ex) w1) hl'
  | stop e t s' =>
    obtain ⟨H', e1, o1⟩ := this
    rcases bool_norm ef with ⟨hb, hn⟩ | ⟨hb, hn⟩
    · rw [hb] at qc
      exact ⟨H', loop_exit (by simp) (b177_0_v1_3 (by omega) hkl (encExs_len all) rd q0 qc rfl e1 (beqAs_tys eof) (beqAs_exs ex)), o1⟩
    · rw [hb] at qc
      exact ⟨H', loop_exit (by simp) (b177_0_v1_1 (by omega) hkl (encExs_len all) rd q0 qc rfl e1 (beqAs_tys eof) (beqAs_exs ex)), o1⟩
theorem op_second (hP : PK P) (IH : ExOK P C F) (f : Fr) (fr : Nat) (op tf tn i : Int) (tnm nm : Nm) (tof : List Ty) (all : List Ex) (e : Ex) (hget : all[1]? = some e) {f1 v1 : Int} {r : Rs Int} (hs : F.expr f e s = some r) (h : RE C rows s H) (hF : FrE C rows s.mem f fr H) :
    match r with
    | .ok v s' => ∃ rows' H', Post C rows s H rows' s' H' ∧ ∀ {ex : AExit} {l' : Facts} {bx' : Bxs} {H2 : Heap}, Op177 P C fr all (encEx (.mk op (.mk tf tn tnm tof) i nm all)) (row1 op tf tn tnm tof (.isl true 2 (litC f1 v1 ++ litC (normF e.t.form) v))) 2 H' ex l' bx' H2 →
        Op177 P C fr all (encEx (.mk op (.mk tf tn tnm tof) i nm all)) (row1 op tf tn tnm tof (.isl true 1 (litC f1 v1))) 1 H ex l' bx' H2
    | .stop e t s' => ∃ H', Op177 P C fr all (encEx (.mk op (.mk tf tn tnm tof) i nm all)) (row1 op tf tn tnm tof (.isl true 1 (litC f1 v1))) 1 H (.panic (over e t)) [] ⟨[], true⟩ H' ∧ OutE C s'.out H' := by
  have rd := read_ex hget
  have hkl := get_lt hget
  have := IH.expr _ _ _ _ hs rows H fr h hF
  obtain ⟨eo, ⟨ef, en, enm, eof⟩, ei, enm', ex⟩ := e
  have q0 := hP.num ef 0 H
  have qc := hP.isC ef 0 H
  have w1 : IntKind.wrap .i64 (((1 : Nat) : Int) + 1) = ((2 : Nat) : Int) := by rw [wrap64 (by omega) (by omega)]; rfl
  have hlen : (litC f1 v1).length = 1 * 8 := rfl
  have hmost : 1 + 1 ≤ Go.Den.most := by decide
  cases r with
  | ok v s' =>
    obtain ⟨rows', H', v', e1, q1, p1⟩ := this
    cases q1
    refine ⟨rows', H', p1, fun hl => ?_⟩
    rcases bool_norm ef with ⟨hb, hn⟩ | ⟨hb, hn⟩
    · rw [hb] at qc
      have hl' := hl
      simp only [Ex.t, Ty.form, hn] at hl'
      exact loop_next (by rfl) (b177_0_2 (by omega) hkl (encExs_len all) rd q0 qc rfl e1 (hP.num ef v H') hlen hmost (beqAs_tys eof) (beqAs_exs ex) w1) hl'
    · rw [hb] at qc
      have hl' := hl
      simp only [Ex.t, Ty.form, hn] at hl'
      exact loop_next (by rfl) (b177_0_0 (by omega) hkl (encExs_len all) rd q0 qc rfl e1 (hP.num 1 v H') hlen hmost (beqAs_tys eof) (beqAs_exs ex) w1) hl'
  | stop e t s' =>
    obtain ⟨H', e1, o1⟩ := this
    rcases bool_norm ef with ⟨hb, hn⟩ | ⟨hb, hn⟩
    · rw [hb] at qc
      exact ⟨H', loop_exit (by simp) (b177_0_3 (by omega) hkl (encExs_len all) rd q0 qc rfl e1 (beqAs_tys eof) (beqAs_exs ex)), o1⟩
    · rw [hb] at qc
      exact ⟨H', loop_exit (by simp) (b177_0_1 (by omega) hkl (encExs_len all) rd q0 qc rfl e1 (beqAs_tys eof) (beqAs_exs ex)), o1⟩
theorem un_none {op f a : Int} (h : un op f a = some none) : op = 33 := by
  unfold un at h
  split at h <;> first | (cases h; done) | skip
  split at h <;> first | (cases h; done) | skip
  split at h <;> first | (cases h; done) | skip
  split at h <;> first | (cases h; done) | skip
  split at h <;> first | (cases h; done) | skip
  split at h
  · assumption
  · cases h
theorem bin_op {op f a b : Int} {o : Option Int} (h : bin op f a b = some o) : op ≠ 33 := by
  intro e; subst e
  simp [bin] at h
theorem w_op (hP : PK P) (IH : ExOK P C F) : OpOK P C F := by
  intro f op t i nm x s r hs rows H fr h hF
  have hp := hP.pl 177 rfl
  obtain ⟨tf, tn, tnm, tof⟩ := t
  have lx : ∀ {X : AVal} {k : Nat} {H : Heap}, x.length ≤ k → Op177 P C fr x (encEx (.mk op (.mk tf tn tnm tof) i nm x)) (row1 op tf tn tnm tof (.isl true k (X.cells))) k H (.exit 0) [(5, .loc 0 0), (7, .loc 1 0)] ⟨[encEx (.mk op (.mk tf tn tnm tof) i nm x), row1 op tf tn tnm tof (.isl true k X.cells)], true⟩ H := by
    intro X k H hk
    exact loop_exit (by simp) (b177_0_4 (by omega))
  rcases x with _ | ⟨a, _ | ⟨b, _ | ⟨c, l⟩⟩⟩
  · cases hs
  · replace hs : (do let v ← F.expr f a; (match un op a.t.form v with | none => stuck | some none => trap 6 | some (some r) => pure r : M Int)) s = some r := hs
    rcases bind_ok hs with ⟨v, s1, hs1, hs2⟩ | ⟨e, t, s1, hs1, rfl⟩
    · obtain ⟨rows1, H1, p1, step⟩ := op_first hP IH f fr op tf tn i tnm nm tof [a] a rfl hs1 h hF
      have l1 := step (lx (X := .agg (litC (normF a.t.form) v)) (k := 1) (H := H1) (Nat.le_refl _))
      have hn := normF_le a.t.form
      cases ho : un op a.t.form v with
      | none => rw [ho] at hs2; cases hs2
      | some o =>
        rw [ho] at hs2
        obtain ⟨fv, e2, x8, x9, x10, x11, x12, s4, s5, rfl, hf⟩ := hP.fold1 op tf tn tnm tof.length (encTys tof) (normF a.t.form) v o H1 hn.1 hn.2 (by rw [un_norm]; exact ho) (IH.rng _ _ _ _ _ hs1)
        cases o with
        | none =>
          cases hs2
          have h33 := un_none ho
          subst h33
          exact ⟨H1, l177_1 hp l1 e2 hf (w_mustF hP 6 H1), p1.re.out⟩
        | some w =>
          cases pure_ok hs2
          obtain ⟨rfl, rfl⟩ := hf
          exact ⟨rows1, H1, _, l177_2 hp l1 e2 rfl, rfl, p1⟩
    · obtain ⟨H1, l1, o1⟩ := op_first hP IH f fr op tf tn i tnm nm tof [a] a rfl hs1 h hF
      exact ⟨H1, l177_3 hp l1, o1⟩
  · replace hs : (do let v ← F.expr f a; let w ← F.expr f b; (match bin op a.t.form v w with | none => stuck | some none => trap 4 | some (some r) => pure r : M Int)) s = some r := hs
    rcases bind_ok hs with ⟨v, s1, hs1, hs2⟩ | ⟨e, t, s1, hs1, rfl⟩
    · obtain ⟨rows1, H1, p1, step⟩ := op_first hP IH f fr op tf tn i tnm nm tof [a, b] a rfl hs1 h hF
      rcases bind_ok hs2 with ⟨w, s2, hs3, hs4⟩ | ⟨e, t, s2, hs3, rfl⟩
      · obtain ⟨rows2, H2, p2, step2⟩ := op_second (f1 := normF a.t.form) (v1 := v) hP IH f fr op tf tn i tnm nm tof [a, b] b rfl hs3 p1.re (hF.mono p1)
        have l1 := step (step2 (lx (X := .agg (litC (normF a.t.form) v ++ litC (normF b.t.form) w)) (k := 2) (H := H2) (Nat.le_refl _)))
        have hn := normF_le a.t.form
        have hn2 := normF_le b.t.form
        cases ho : bin op a.t.form v w with
        | none => rw [ho] at hs4; cases hs4
        | some o =>
          rw [ho] at hs4
          obtain ⟨fv, e2, x8, x9, x10, x11, x12, s4, s5, rfl, hf⟩ := hP.fold2 op tf tn tnm tof.length (encTys tof) (normF a.t.form) v (normF b.t.form) w o H2 hn.1 hn.2 hn2.1 hn2.2 (by rw [bin_norm]; exact ho) (IH.rng _ _ _ _ _ hs1) (IH.rng _ _ _ _ _ hs3)
          cases o with
          | none =>
            cases hs4
            have h33 : (op != 33) = true := by simpa using bin_op ho
            refine ⟨H2, l177_0 hp l1 e2 hf ?_ (w_trap hP 4 H2), p2.re.out⟩
            rw [h33]; exact w_mustT hP 6 H2
          | some u =>
            cases pure_ok hs4
            obtain ⟨rfl, rfl⟩ := hf
            exact ⟨rows2, H2, _, l177_2 hp l1 e2 rfl, rfl, p1.trans p2⟩
      · obtain ⟨H2, l2, o2⟩ := op_second (f1 := normF a.t.form) (v1 := v) hP IH f fr op tf tn i tnm nm tof [a, b] b rfl hs3 p1.re (hF.mono p1)
        exact ⟨H2, l177_3 hp (step l2), o2⟩
    · obtain ⟨H1, l1, o1⟩ := op_first hP IH f fr op tf tn i tnm nm tof [a, b] a rfl hs1 h hF
      exact ⟨H1, l177_3 hp l1, o1⟩
  · cases hs
end Go.Wf
namespace Go.Wf
open Go Go.Den
variable {P : Prims} {C : EC} {F : Fn} {rows : List Nat} {s : St} {H : Heap}
theorem Post.row {r1 r2 : List Nat} {s1 s2 : St} {H1 H2 : Heap} (p : Post C r1 s1 H1 r2 s2 H2) {b rr : Nat} {blk : List Int} (h1 : r1[b]? = some rr) (h2 : s1.mem[b]? = some blk) : ∃ blk', r2[b]? = some rr ∧ s2.mem[b]? = some blk' ∧ blk'.length = blk.length := by
  obtain ⟨x, rfl⟩ := p.ext
  obtain ⟨blk', h3, h4⟩ := p.le b blk h2
  exact ⟨blk', by rw [List.getElem?_append_left (get_lt h1)]; exact h1, h3, h4⟩
theorem w_for (hP : PK P) (IS : StOK P C F) (f : Fr) (p : Loc) (last by' : Int) (l : List Sm) (x : List Ex) (s : St) (r : Rs Unit) (hs : forS F f p last by' l s = some r) (rows : List Nat) (H : Heap) (fr rr : Nat) (blk : List Int) (h : RE C rows s H) (hF : FrE C rows s.mem f fr H) (k1 : rows[p.b]? = some rr) (k2 : s.mem[p.b]? = some blk) :
    ForP P C fr (encSm (.mk 5 x [l] [by'])) rr blk.length p.o last rows s H r := by
  have rb := read_body (l := [l]) (k := 0) rfl
  have hb := encSmss_len [l]
  have ri : readRow false 1 (encI [by']) 0 = some (.int .i32 by') := rfl
  have hi : (encI [by']).length = 1 * 1 := rfl
  have eo : 0 + p.o * 1 = p.o := by omega
  rcases bind_ok hs with ⟨_, s1, hs1, hs2⟩ | ⟨e, t, s1, hs1, rfl⟩
  · obtain ⟨rows1, H1, v1, e1, q1, p1⟩ := w_burn hP h hs1
    cases q1
    obtain ⟨blk1, m1, m2, m3⟩ := p1.row k1 k2
    rcases bind_ok hs2 with ⟨v, s2, hs3, hs4⟩ | ⟨e, t, s2, hs3, rfl⟩
    · obtain ⟨blk', w, n1, n2, n3⟩ := loadL_ok hs3
      cases n3
      have : blk1 = blk' := by rw [m2] at n1; cases n1; rfl
      subst this
      have hlt : p.o < blk.length := by rw [← m3]; exact get_lt n2
      have hl : hload H1 false 1 rr (0 + p.o * 1) = some (.int .i32 v) := by rw [eo]; exact p1.re.word m1 m2 n2
      by_cases hc : (0 < by' ∧ last < v) ∨ (by' < 0 ∧ v < last)
      · rw [if_pos hc] at hs4
        cases pure_ok hs4
        refine ⟨rows1, H1, loop_exit (by simp) ?_, p1⟩
        by_cases hp : by' > 0
        · exact b78_0_0 e1 hlt hl (by simp) hi ri hp (by omega)
        · exact b78_0_6 e1 hlt hl (by simp) hi ri hp (by simp) ri (by omega) (by omega)
      · rw [if_neg hc] at hs4
        rcases bind_ok hs4 with ⟨_, s3, hs5, hs6⟩ | ⟨e, t, s3, hs5, rfl⟩
        · obtain ⟨rows3, H3, v3, e3, q3, p3⟩ := IS.body _ _ _ _ hs5 rows1 H1 fr p1.re (hF.mono p1)
          cases q3
          obtain ⟨blk3, j1, j2, j3⟩ := p3.row m1 m2
          rcases bind_ok hs6 with ⟨y, s4, hs7, hs8⟩ | ⟨e, t, s4, hs7, rfl⟩
          · obtain ⟨blk', w', n4, n5, n6⟩ := loadL_ok hs7
            cases n6
            have : blk3 = blk' := by rw [j2] at n4; cases n4; rfl
            subst this
            have hl3 : hload H3 false 1 rr (0 + p.o * 1) = some (.int .i32 y) := by rw [eo]; exact p3.re.word j1 j2 n5
            rcases bind_ok hs8 with ⟨_, s5, hs9, hs10⟩ | ⟨e, t, s5, hs9, rfl⟩
            · obtain ⟨blk', n7, n8, n9⟩ := keepL_ok hs9
              cases n9
              have : blk3 = blk' := by rw [j2] at n7; cases n7; rfl
              subst this
              obtain ⟨H4, e4, p4⟩ := p3.re.keep j1 j2 n8 (w32 (y + by'))
              have ea := r130_0 (P := P) (H := H3) (x0 := y) (x1 := by') (hP.pl 130 rfl) rfl
              have pt := (p1.trans p3).trans p4
              obtain ⟨blk4, i1, i2, i3⟩ := pt.row k1 k2
              have := IS.forl f p last by' l x _ r hs10 rows3 H4 fr rr blk4 p4.re (((hF.mono p1).mono p3).mono p4) i1 i2
              rw [i3] at this
              have hlt3 : p.o < blk.length := hlt
              have hst : hstore H3 rr (0 + p.o * 1) [.int .i32 (IntKind.wrap .i32 (y + by'))] = some H4 := by rw [eo]; exact e4
              have step : ∀ {ex : AExit} {bx' : Bxs} {H' : Heap}, LoopEv P 78 k78_0 90 [] [(0, .ptr C.m 0), (1, .map fr), (5, .loc 0 0), (6, .loc 1 0), (8, .int .i32 last)] ⟨[encSm (.mk 5 x [l] [by']), [.msl rr 0 blk.length 1, .int .i64 (p.o : Int)]], false⟩ H4 ex [] [] bx' H' →
                  LoopEv P 78 k78_0 90 [] [(0, .ptr C.m 0), (1, .map fr), (5, .loc 0 0), (6, .loc 1 0), (8, .int .i32 last)] ⟨[encSm (.mk 5 x [l] [by']), [.msl rr 0 blk.length 1, .int .i64 (p.o : Int)]], false⟩ H ex [] [] bx' H' := fun hl' => by
                by_cases hp : by' > 0
                · exact loop_next (by rfl) (b78_0_4 e1 hlt hl (by simp) hi ri hp (by omega) (by simp) ri (by omega) (by simp) hb rb e3 hlt3 hl3 (by simp) ri ea hlt3 hst) hl'
                · by_cases hn : by' < 0
                  · exact loop_next (by rfl) (b78_0_7 e1 hlt hl (by simp) hi ri hp (by simp) ri hn (by omega) (by simp) hb rb e3 hlt3 hl3 (by simp) ri ea hlt3 hst) hl'
                  · exact loop_next (by rfl) (b78_0_9 e1 hlt hl (by simp) hi ri hp (by simp) ri hn (by simp) hb rb e3 hlt3 hl3 (by simp) ri ea hlt3 hst) hl'
              cases r with
              | ok w s6 =>
                obtain ⟨rows6, H6, l6, p6⟩ := this
                exact ⟨rows6, H6, step l6, pt.trans p6⟩
              | stop e t s6 =>
                obtain ⟨H6, l6, o6⟩ := this
                exact ⟨H6, step l6, o6⟩
            · obtain ⟨blk', n7, n8, n9⟩ := keepL_ok hs9
              cases n9
          · obtain ⟨blk', w', n4, n5, n6⟩ := loadL_ok hs7
            cases n6
        · obtain ⟨H3, e3, o3⟩ := IS.body _ _ _ _ hs5 rows1 H1 fr p1.re (hF.mono p1)
          refine ⟨H3, loop_exit (by simp) ?_, o3⟩
          by_cases hp : by' > 0
          · exact b78_0_5 e1 hlt hl (by simp) hi ri hp (by omega) (by simp) ri (by omega) (by simp) hb rb e3
          · by_cases hn : by' < 0
            · exact b78_0_8 e1 hlt hl (by simp) hi ri hp (by simp) ri hn (by omega) (by simp) hb rb e3
            · exact b78_0_10 e1 hlt hl (by simp) hi ri hp (by simp) ri hn (by simp) hb rb e3
    · obtain ⟨blk', w, n1, n2, n3⟩ := loadL_ok hs3
      cases n3
  · obtain ⟨H1, e1, o1⟩ := w_burn hP h hs1
    exact ⟨H1, loop_exit (by simp) (b78_0_11 e1), o1⟩
theorem w_forStmt (hP : PK P) (IH : ExOK P C F) (IS : StOK P C F) (f : Fr) (v a z : Ex) (l : List Sm) (by' : Int) (r : Rs Unit)
    (hs : (do let p ← F.place f v; let first ← F.expr f a; keepL p first; let last ← F.expr f z; F.forl f p last by' l) s = some r) {fr : Nat} (h : RE C rows s H) (hF : FrE C rows s.mem f fr H) :
    Does P 78 [.ptr C.m 0, .map fr, .agg (encSm (.mk 5 [v, a, z] [l] [by']))] C rows s H QU r := by
  have hp := hP.pl 78 rfl
  have r0 := read_ex (l := [v, a, z]) (k := 0) rfl
  have r1 := read_ex (l := [v, a, z]) (k := 1) rfl
  have r2 := read_ex (l := [v, a, z]) (k := 2) rfl
  have hl := encExs_len [v, a, z]
  rw [Nat.zero_mul] at r0
  rw [Nat.one_mul] at r1
  have IF := IS.forl
  obtain ⟨vo, ⟨vf, vn, vnm, vof⟩, vi, vnm', vx⟩ := v
  obtain ⟨ao, ⟨af, an, anm, aof⟩, ai, anm', ax⟩ := a
  obtain ⟨zo, ⟨zf, zn, znm, zof⟩, zi, znm', zx⟩ := z
  rcases bind_ok hs with ⟨p, s1, hs1, hs2⟩ | ⟨e, t, s1, hs1, rfl⟩
  · obtain ⟨rows1, H1, v1, e1, q1, p1⟩ := IH.place _ _ _ _ hs1 rows H fr h hF
    obtain ⟨rr, blk, k1, k2, k3, rfl⟩ := q1
    rcases bind_ok hs2 with ⟨first, s2, hs3, hs4⟩ | ⟨e, t, s2, hs3, rfl⟩
    · obtain ⟨rows2, H2, v2, e2, q2, p2⟩ := IH.expr _ _ _ _ hs3 rows1 H1 fr p1.re (hF.mono p1)
      cases q2
      obtain ⟨blk2, m1, m2, m3⟩ := p2.row k1 k2
      rcases bind_ok hs4 with ⟨_, s3, hs5, hs6⟩ | ⟨e, t, s3, hs5, rfl⟩
      · obtain ⟨blk', n1, n2, n3⟩ := keepL_ok hs5
        cases n3
        have : blk2 = blk' := by rw [m2] at n1; cases n1; rfl
        subst this
        obtain ⟨H3, e3, p3⟩ := p2.re.keep m1 m2 n2 first
        have hlt : p.o < blk.length := by rw [← m3]; exact n2
        have hst : hstore H2 rr (0 + p.o * 1) [.int .i32 first] = some H3 := by rw [show 0 + p.o * 1 = p.o by omega]; exact e3
        have hF3 := ((hF.mono p1).mono p2).mono p3
        rcases bind_ok hs6 with ⟨last, s4, hs7, hs8⟩ | ⟨e, t, s4, hs7, rfl⟩
        · obtain ⟨rows4, H4, v4, e4, q4, p4⟩ := IH.expr _ _ _ _ hs7 rows2 H3 fr p3.re hF3
          cases q4
          have pt := (p2.trans p3).trans p4
          obtain ⟨blk4, i1, i2, i3⟩ := pt.row k1 k2
          have := IF f p last by' l [.mk vo (.mk vf vn vnm vof) vi vnm' vx, .mk ao (.mk af an anm aof) ai anm' ax, .mk zo (.mk zf zn znm zof) zi znm' zx] s4 r hs8 rows4 H4 fr rr blk4 p4.re (hF3.mono p4) i1 i2
          rw [i3] at this
          cases r with
          | ok w s5 =>
            obtain ⟨rows5, H5, l5, p5⟩ := this
            exact ⟨rows5, H5, _, l78_1 hp (by simp) hl r0 e1 (by simp) r1 e2 hlt hst (by simp) r2 e4 l5, rfl, (p1.trans pt).trans p5⟩
          | stop e t s5 =>
            obtain ⟨H5, l5, o5⟩ := this
            exact ⟨H5, l78_0 hp (by simp) hl r0 e1 (by simp) r1 e2 hlt hst (by simp) r2 e4 l5, o5⟩
        · obtain ⟨H4, e4, o4⟩ := IH.expr _ _ _ _ hs7 rows2 H3 fr p3.re hF3
          exact ⟨H4, r78_1 hp (by simp) hl r0 e1 (by simp) r1 e2 hlt hst (by simp) r2 e4, o4⟩
      · obtain ⟨blk', n1, n2, n3⟩ := keepL_ok hs5
        cases n3
    · obtain ⟨H2, e2, o2⟩ := IH.expr _ _ _ _ hs3 rows1 H1 fr p1.re (hF.mono p1)
      exact ⟨H2, r78_2 hp (by simp) hl r0 e1 (by simp) r1 e2, o2⟩
  · obtain ⟨H1, e1, o1⟩ := IH.place _ _ _ _ hs1 rows H fr h hF
    exact ⟨H1, r78_3 hp (by simp) hl r0 e1, o1⟩
theorem w_change (hP : PK P) (IH : ExOK P C F) (f : Fr) (op : Int) (hop : op = 7 ∨ op = 8 ∨ op = 9 ∨ op = 10) (to a : Ex) (b : List (List Sm)) (i : List Int) (r : Rs Unit) (hs : changeS F f op to a s = some r) {fr : Nat} (h : RE C rows s H) (hF : FrE C rows s.mem f fr H) :
    Does P 80 [.ptr C.m 0, .map fr, .agg (encSm (.mk op [to, a] b i))] C rows s H QU r := by
  have hp := hP.pl 80 rfl
  have r0 := read_ex (l := [to, a]) (k := 0) rfl
  have r1 := read_ex (l := [to, a]) (k := 1) rfl
  have hl := encExs_len [to, a]
  rw [Nat.zero_mul] at r0
  rw [Nat.one_mul] at r1
  obtain ⟨vo, ⟨vf, vn, vnm, vof⟩, vi, vnm', vx⟩ := to
  obtain ⟨ao, ⟨af, an, anm, aof⟩, ai, anm', ax⟩ := a
  rcases bind_ok hs with ⟨p, s1, hs1, hs2⟩ | ⟨e, t, s1, hs1, rfl⟩
  · obtain ⟨rows1, H1, v1, e1, q1, p1⟩ := IH.place _ _ _ _ hs1 rows H fr h hF
    obtain ⟨rr, blk, k1, k2, k3, rfl⟩ := q1
    rcases bind_ok hs2 with ⟨x, s2, hs3, hs4⟩ | ⟨e, t, s2, hs3, rfl⟩
    · obtain ⟨rows2, H2, v2, e2, q2, p2⟩ := IH.expr _ _ _ _ hs3 rows1 H1 fr p1.re (hF.mono p1)
      cases q2
      obtain ⟨blk2, m1, m2, m3⟩ := p2.row k1 k2
      have fin : ∀ (g : Int → Int) (hs5 : (do let w ← loadL p; keepL p (g w)) s2 = some r), ∃ w H3, r = .ok () { s2 with mem := s2.mem.set p.b (blk2.set p.o (g w)) } ∧ p.o < blk.length ∧ hload H2 false 1 rr (0 + p.o * 1) = some (.int .i32 w) ∧ hstore H2 rr (0 + p.o * 1) [.int .i32 (g w)] = some H3 ∧ Post C rows2 s2 H2 rows2 { s2 with mem := s2.mem.set p.b (blk2.set p.o (g w)) } H3 := by
        intro g hs5
        have eo : 0 + p.o * 1 = p.o := by omega
        rcases bind_ok hs5 with ⟨w, s3, hs6, hs7⟩ | ⟨e, t, s3, hs6, rfl⟩
        · obtain ⟨blk', w', n1, n2, n3⟩ := loadL_ok hs6
          cases n3
          have : blk2 = blk' := by rw [m2] at n1; cases n1; rfl
          subst this
          obtain ⟨blk', n4, n5, rfl⟩ := keepL_ok hs7
          have : blk2 = blk' := by rw [m2] at n4; cases n4; rfl
          subst this
          obtain ⟨H3, e3, p3⟩ := p2.re.keep m1 m2 n5 (g w)
          exact ⟨w, H3, rfl, by rw [← m3]; exact n5, by rw [eo]; exact p2.re.word m1 m2 n2, by rw [eo]; exact e3, p3⟩
        · obtain ⟨blk', w', n1, n2, n3⟩ := loadL_ok hs6
          cases n3
      by_cases h7 : op = 7
      · subst h7
        simp only [if_true] at hs4
        obtain ⟨w, H3, rfl, a1, a2, a3, a4⟩ := fin (fun w => w32 (w + x)) hs4
        exact ⟨rows2, H3, _, r80_0 hp (by simp) hl r0 e1 (by simp) r1 e2 rfl a1 a2 (r130_0 (hP.pl 130 rfl) rfl) a1 a3, rfl, (p1.trans p2).trans a4⟩
      simp only [h7, if_false] at hs4
      by_cases h8 : op = 8
      · subst h8
        simp only [if_true] at hs4
        obtain ⟨w, H3, rfl, a1, a2, a3, a4⟩ := fin (fun w => w32 (w - x)) hs4
        exact ⟨rows2, H3, _, r80_1 hp (by simp) hl r0 e1 (by simp) r1 e2 rfl a1 a2 (r131_0 (hP.pl 131 rfl) rfl) a1 a3, rfl, (p1.trans p2).trans a4⟩
      simp only [h8, if_false] at hs4
      have eb := w_bit hP (IH.rng _ _ _ _ _ hs3) H2
      rcases bind_ok hs4 with ⟨_, s3, hs5, hs6⟩ | ⟨e, t, s3, hs5, rfl⟩
      · rcases must_ok hs5 with ⟨hc, e3⟩ | ⟨hc, e3⟩
        · cases e3
          rw [hc] at eb
          by_cases h9 : op = 9
          · subst h9
            simp only [if_true] at hs6
            obtain ⟨w, H3, rfl, a1, a2, a3, a4⟩ := fin (fun w => or32 w (bitOf x)) hs6
            exact ⟨rows2, H3, _, r80_2 hp (by simp) hl r0 e1 (by simp) r1 e2 eb (w_mustT hP 6 H2) rfl a1 a2 rfl a1 a3, rfl, (p1.trans p2).trans a4⟩
          · simp only [h9, if_false] at hs6
            obtain ⟨w, H3, rfl, a1, a2, a3, a4⟩ := fin (fun w => andNot32 w (bitOf x)) hs6
            exact ⟨rows2, H3, _, r80_3 hp (by simp) hl r0 e1 (by simp) r1 e2 h7 h8 eb (w_mustT hP 6 H2) h9 a1 a2 rfl a1 a3, rfl, (p1.trans p2).trans a4⟩
        · cases e3
      · rcases must_ok hs5 with ⟨hc, e3⟩ | ⟨hc, e3⟩
        · cases e3
        · cases e3
          rw [hc] at eb
          exact ⟨H2, r80_4 hp (by simp) hl r0 e1 (by simp) r1 e2 h7 h8 eb (w_mustF hP 6 H2), p2.re.out⟩
    · obtain ⟨H2, e2, o2⟩ := IH.expr _ _ _ _ hs3 rows1 H1 fr p1.re (hF.mono p1)
      exact ⟨H2, r80_5 hp (by simp) hl r0 e1 (by simp) r1 e2, o2⟩
  · obtain ⟨H1, e1, o1⟩ := IH.place _ _ _ _ hs1 rows H fr h hF
    exact ⟨H1, r80_6 hp (by simp) hl r0 e1, o1⟩
end Go.Wf
namespace Go.Wf
open Go Go.Den
variable {P : Prims} {C : EC} {F : Fn} {rows : List Nat} {s : St} {H : Heap}
theorem putAll_len : ∀ (vs : List Int) (r : List Int) (o : Nat), (putAll r o vs).length = r.length
  | [], _, _ => rfl
  | v :: vs, r, o => by simp [putAll, putAll_len vs]
theorem putAll_app : ∀ (vs : List Int) (r : List Int) (o : Nat) (v : Int), putAll r o (vs ++ [v]) = (putAll r o vs).set (o + vs.length) v
  | [], _, _, _ => rfl
  | u :: vs, r, o, v => by
    simp only [List.cons_append, putAll, putAll_app vs]
    rw [show o + (u :: vs).length = o + 1 + vs.length by simp; omega]
theorem putAt_enc : ∀ (vs : List Int) (r : List Int) (o : Nat), putAt (encI r) o (encI vs) = encI (putAll r o vs)
  | [], _, _ => rfl
  | v :: vs, r, o => by
    have e : (encI r).set o (.int .i32 v) = encI (r.set o v) := by simp [encI, List.map_set]
    show putAt ((encI r).set o (.int .i32 v)) (o + 1) (encI vs) = _
    rw [e, putAt_enc vs]
    rfl
theorem set_self {α : Type} : ∀ {l : List α} {k : Nat} {a : α}, l[k]? = some a → l.set k a = l
  | [], _, _, h => by simp at h
  | b :: l, 0, a, h => by simp at h; subst h; rfl
  | b :: l, k + 1, a, h => by simp only [List.set_cons_succ]; rw [set_self (by simpa using h)]
theorem hstore_list {h : Heap} {b off : Nat} {l cs : List AVal} (hb : h.objs[b]? = some (.cells l)) (hr : h.ro ≤ b) (ho : off + cs.length ≤ l.length) : hstore h b off cs = some (h.setRow b (putAt l off cs)) := by
  have h1 : Nat.ble h.ro b = true := Nat.ble_eq_true_of_le hr
  have h2 : Nat.ble (off + cs.length) l.length = true := Nat.ble_eq_true_of_le ho
  simp only [hstore, hb, h1, h2, Bool.and_self, cond_true, Heap.setRow]
theorem keepAll_ok {l : Loc} {vs : List Int} {r : Rs Unit} (h : keepAll l vs s = some r) : ∃ blk, s.mem[l.b]? = some blk ∧ l.o + vs.length ≤ blk.length ∧ r = .ok () { s with mem := s.mem.set l.b (putAll blk l.o vs) } := by
  unfold keepAll at h
  cases hb : s.mem[l.b]? with
  | none => rw [hb] at h; cases h
  | some blk =>
    rw [hb] at h
    simp only at h
    by_cases hx : l.o + vs.length ≤ blk.length
    · rw [if_pos hx] at h; cases h; exact ⟨blk, rfl, hx, rfl⟩
    · rw [if_neg hx] at h; cases h
theorem wordsAt_ok {l : Loc} {n : Nat} {r : Rs (List Int)} (h : wordsAt l n s = some r) : ∃ blk, s.mem[l.b]? = some blk ∧ l.o + n ≤ blk.length ∧ r = .ok ((blk.drop l.o).take n) s := by
  unfold wordsAt at h
  cases hb : s.mem[l.b]? with
  | none => rw [hb] at h; cases h
  | some blk =>
    rw [hb] at h
    simp only at h
    by_cases hx : l.o + n ≤ blk.length
    · rw [if_pos hx] at h; cases h; exact ⟨blk, rfl, hx, rfl⟩
    · rw [if_neg hx] at h; cases h
theorem w_strL (to : Ex) (eo : Int) (et : Ty) (ei : Int) (ex : List Ex) (str : List UInt8) {rr o n b : Nat} (hfar : o ≤ far) (hn : str.length ≤ far) :
    ∀ (l : List UInt8) (k : Nat), str.drop k = l → k + l.length = str.length → ∀ (s : St) (blk : List Int), blk.length = n → o + k + l.length ≤ n → s.mem[b]? = some blk → ∀ H, RE C rows s H → rows[b]? = some rr →
    ∃ H', LoopEv P 73 k73_0 103 [] [(7, .loc 1 0), (8, .loc 2 0), (39, .int .i64 (str.length : Int)), (40, .int .i64 (k : Int))]
      ⟨[encEx to, encEx (.mk eo et ei str ex), [.msl rr 0 n 1, .int .i64 (o : Int)]], false⟩ H (.exit 1) [] [(7, .loc 1 0), (8, .loc 2 0)]
      ⟨[encEx to, encEx (.mk eo et ei str ex), [.msl rr 0 n 1, .int .i64 (o : Int)]], false⟩ H' ∧
      Post C rows s H rows { s with mem := s.mem.set b (putAll blk (o + k) (l.map byteI)) } H'
  | [], k, hd, hk, s, blk, hb, hle, hm, H, h, hr => by
    obtain ⟨to1, ⟨to2, to3, to4, to5⟩, to6, to7, to8⟩ := to
    obtain ⟨et1, et2, et3, et4⟩ := et
    refine ⟨H, loop_exit (by simp) (b73_0_1 (by simp at hk; omega)), ?_⟩
    simp only [List.map_nil, putAll, set_self hm]
    exact Post.refl h
  | c :: l, k, hd, hk, s, blk, hb, hle, hm, H, h, hr => by
    obtain ⟨hkl, hget, hd'⟩ := drop_cons hd
    have hf : far = 1000000000000 := rfl
    simp only [List.length_cons] at hk hle
    obtain ⟨H1, e1, p1⟩ := h.keep (l := ⟨b, o + k⟩) hr hm (by simp only; omega) (byteI c)
    have hm1 : (s.mem.set b (blk.set (o + k) (byteI c)))[b]? = some (blk.set (o + k) (byteI c)) := by simp [get_lt hm]
    obtain ⟨H2, l2, p2⟩ := w_strL to eo et ei ex str hfar hn l (k + 1) hd' (by omega) { s with mem := s.mem.set b (blk.set (o + k) (byteI c)) } (blk.set (o + k) (byteI c)) (by simpa using hb) (by omega) hm1 H1 p1.re hr
    obtain ⟨to1, ⟨to2, to3, to4, to5⟩, to6, to7, to8⟩ := to
    obtain ⟨et1, et2, et3, et4⟩ := et
    refine ⟨H2, loop_next (by rfl) (b73_0_0 (by omega) (wrap64 (by omega) (by omega)) hget (wrap32_byte c) (i0 := o + k) (by omega) (by omega) (by rw [show 0 + (o + k) * 1 = o + k by omega]; exact e1) (add1 (n := str.length) hkl (by omega))) l2, ?_⟩
    have := p1.trans p2
    simp only [List.set_set] at this
    exact this
theorem RE.copy (h : RE C rows s H) {b rr o b2 rr2 o2 n : Nat} {blk blk2 : List Int} (hr : rows[b]? = some rr) (hb : s.mem[b]? = some blk) (hr2 : rows[b2]? = some rr2) (hb2 : s.mem[b2]? = some blk2) (h1 : o + n ≤ blk.length) (h2 : o2 + n ≤ blk2.length) :
    ∃ H', hcopy H rr o rr2 o2 n = some H' ∧ Post C rows s H rows { s with mem := s.mem.set b (putAll blk o ((blk2.drop o2).take n)) } H' := by
  have g1 := h.mem.row _ _ _ hr hb
  have g2 := h.mem.row _ _ _ hr2 hb2
  have hle : Nat.ble (o2 + n) (encI blk2).length = true := Nat.ble_eq_true_of_le (by rw [encI_len]; exact h2)
  unfold hcopy
  simp only [g2, hle, cond_true]
  by_cases h0 : n = 0
  · subst h0
    refine ⟨H, rfl, ?_⟩
    simp only [List.take_zero, putAll, set_self hb]
    exact Post.refl h
  · have hz : Nat.beq n 0 = false := by cases n with | zero => exact (h0 rfl).elim | succ n => rfl
    rw [hz]
    have hcs : (((encI blk2).drop o2).take n).map AVal.strip = encI ((blk2.drop o2).take n) := by
      simp only [encI, List.map_drop, List.map_take, List.map_map]
      rfl
    rw [hcs]
    refine ⟨_, hstore_list g1 (h.mem.ro rr (List.mem_of_getElem? hr)) ?_, ?_⟩
    · rw [encI_len, encI_len, List.length_take, List.length_drop]; omega
    · rw [putAt_enc]
      exact h.blk hr hb (putAll_len _ _ _)
theorem w_assign (hP : PK P) (hR : RecK P C) (IH : ExOK P C F) (f : Fr) (to e : Ex) (r : Rs Unit) (hs : assignS C.E F f to e s = some r) {fr : Nat} (h : RE C rows s H) (hF : FrE C rows s.mem f fr H) :
    Does P 73 [.ptr C.m 0, .map fr, .agg (encEx to), .agg (encEx e)] C rows s H QU r := by
  have hp := hP.pl 73 rfl
  have hf : far = 1000000000000 := rfl
  rcases bind_ok hs with ⟨p, s1, hs1, hs2⟩ | ⟨e', t, s1, hs1, rfl⟩
  · obtain ⟨rows1, H1, v1, e1, q1, p1⟩ := IH.place _ _ _ _ hs1 rows H fr h hF
    obtain ⟨rr, blk, k1, k2, k3, rfl⟩ := q1
    have hblk : (blk.length : Int) ≤ 2 * far ∨ True := .inr trivial
    by_cases hstr : e.op = 0 ∧ e.t.form = 6
    · rw [if_pos hstr] at hs2
      rcases bind_ok hs2 with ⟨_, s0, hs0, hs2⟩ | ⟨e', t, s0, hs0, rfl⟩
      rotate_left
      · obtain ⟨_, q⟩ := okL_ok hs0; cases q
      obtain ⟨hsl, q⟩ := okL_ok hs0
      cases q
      obtain ⟨blk', n1, n2, rfl⟩ := keepAll_ok hs2
      have : blk = blk' := by rw [k2] at n1; cases n1; rfl
      subst this
      have hlen : p.o + (e.s.length + 1) ≤ blk.length := by simpa using n2
      obtain ⟨H2, l2, p2⟩ := w_strL (P := P) to e.op e.t e.i e.x e.s (rr := rr) (o := p.o) (n := blk.length) (b := p.b) k3 hsl e.s 0 rfl (by simp) s1 blk rfl (by omega) k2 H1 p1.re k1
      rw [Nat.add_zero] at p2
      have hm2 : (s1.mem.set p.b (putAll blk p.o (e.s.map byteI)))[p.b]? = some (putAll blk p.o (e.s.map byteI)) := by simp [get_lt k2]
      obtain ⟨H3, e3, p3⟩ := p2.re.keep (l := ⟨p.b, p.o + e.s.length⟩) k1 hm2 (by simp only [putAll_len]; omega) 0
      have pt := (p1.trans p2).trans p3
      simp only [List.set_set] at pt
      have hpa : putAll blk p.o (e.s.map byteI ++ [0]) = (putAll blk p.o (e.s.map byteI)).set (p.o + e.s.length) 0 := by rw [putAll_app]; simp
      rw [hpa]
      obtain ⟨to1, ⟨to2, to3, to4, to5⟩, to6, to7, to8⟩ := to
      obtain ⟨eo, ⟨ef, en, enm, eof⟩, ei, str, ex⟩ := e
      simp only [Ex.op, Ex.t, Ty.form] at hstr
      obtain ⟨rfl, rfl⟩ := hstr
      exact ⟨rows1, H3, _, l73_0 hp e1 rfl rfl l2 (wrap64 (by simp only [Ex.s] at *; omega) (by simp only [Ex.s] at *; omega)) (i0 := p.o + str.length) (by omega) (by simp only [Ex.s] at *; omega) (by rw [show 0 + (p.o + str.length) * 1 = p.o + str.length by omega]; exact e3), rfl, pt⟩
    · rw [if_neg hstr] at hs2
      by_cases hag : to.t.form = 7 ∨ to.t.form = 8
      · rw [if_pos hag] at hs2
        have IE := IH.place
        obtain ⟨to1, ⟨to2, to3, to4, to5⟩, to6, to7, to8⟩ := to
        obtain ⟨eo, ⟨ef, en, enm, eof⟩, ei, str, ex⟩ := e
        simp only [Ex.op, Ex.t, Ty.form] at hstr hag
        rcases bind_ok hs2 with ⟨q, s2, hs3, hs4⟩ | ⟨e', t, s2, hs3, rfl⟩
        · obtain ⟨rows2, H2, v2, e2, q2, p2⟩ := IE _ _ _ _ hs3 rows1 H1 fr p1.re (hF.mono p1)
          obtain ⟨rr2, blk2, j1, j2, j3, rfl⟩ := q2
          obtain ⟨blk1, m1, m2, m3⟩ := p2.row k1 k2
          rcases bind_ok hs4 with ⟨n, s3, hs5, hs6⟩ | ⟨e', t, s3, hs5, rfl⟩
          · obtain ⟨n', hn, e4⟩ := W_ok hs5
            cases e4
            obtain ⟨H3, e5, p3⟩ := w_words hP hR C.E.k _ n (Nat.le_refl _) hn rows2 s2 H2 p2.re
            have hle := words_le hn
            rcases bind_ok hs6 with ⟨l, s4, hs7, hs8⟩ | ⟨e', t, s4, hs7, rfl⟩
            · obtain ⟨b', n1, n2, n3⟩ := wordsAt_ok hs7
              cases n3
              have : blk2 = b' := by rw [j2] at n1; cases n1; rfl
              subst this
              obtain ⟨b', n4, n5, rfl⟩ := keepAll_ok hs8
              have : blk1 = b' := by rw [m2] at n4; cases n4; rfl
              subst this
              have hl : ((blk2.drop q.o).take n).length = n := by rw [List.length_take, List.length_drop]; omega
              rw [hl] at n5
              obtain ⟨H4, e6, p4⟩ := p3.re.copy (n := n) m1 m2 j1 j2 n5 n2
              have s1' : subM 1 rr 0 blk.length (some p.o) (lowB ((p.o + n : Nat) : Int)) = some (.msl rr (0 + p.o * 1) (p.o + n - p.o) 1) := by
                rw [lowB_nat rfl]; exact subM_eq (by omega) (by rw [← m3]; exact n5)
              have s2' : subM 1 rr2 0 blk2.length (some q.o) (lowB ((q.o + n : Nat) : Int)) = some (.msl rr2 (0 + q.o * 1) (q.o + n - q.o) 1) := by
                rw [lowB_nat rfl]; exact subM_eq (by omega) n2
              have w1 : IntKind.wrap .i64 ((p.o : Int) + (n : Int)) = ((p.o + n : Nat) : Int) := by rw [wrap64 (by omega) (by omega)]; omega
              have w2 : IntKind.wrap .i64 ((q.o : Int) + (n : Int)) = ((q.o + n : Nat) : Int) := by rw [wrap64 (by omega) (by omega)]; omega
              have hc : hcopy H3 rr (0 + p.o * 1) rr2 (0 + q.o * 1) n = some H4 := by
                rw [show 0 + p.o * 1 = p.o by omega, show 0 + q.o * 1 = q.o by omega]; exact e6
              have pt := ((p1.trans p2).trans p3).trans p4
              have hmin : min (q.o + n - q.o) (p.o + n - p.o) = n := by omega
              rcases hag with rfl | rfl
              · by_cases h0 : eo = 0
                · exact ⟨rows2, H4, _, r73_1 hp e1 h0 (fun q => hstr ⟨h0, q⟩) rfl e2 e5 w1 s1' w2 s2' hmin hc, rfl, pt⟩
                · exact ⟨rows2, H4, _, r73_9 hp e1 h0 rfl e2 e5 w1 s1' w2 s2' hmin hc, rfl, pt⟩
              · by_cases h0 : eo = 0
                · exact ⟨rows2, H4, _, r73_4 hp e1 h0 (fun q => hstr ⟨h0, q⟩) rfl e2 e5 w1 s1' w2 s2' hmin hc, rfl, pt⟩
                · exact ⟨rows2, H4, _, r73_12 hp e1 h0 rfl e2 e5 w1 s1' w2 s2' hmin hc, rfl, pt⟩
            · obtain ⟨b', n1, n2, n3⟩ := wordsAt_ok hs7
              cases n3
          · obtain ⟨n', hn, e4⟩ := W_ok hs5
            cases e4
        · obtain ⟨H2, e2, o2⟩ := IE _ _ _ _ hs3 rows1 H1 fr p1.re (hF.mono p1)
          rcases hag with rfl | rfl
          · by_cases h0 : eo = 0
            · exact ⟨H2, r73_3 hp e1 h0 (fun q => hstr ⟨h0, q⟩) rfl e2, o2⟩
            · exact ⟨H2, r73_11 hp e1 h0 rfl e2, o2⟩
          · by_cases h0 : eo = 0
            · exact ⟨H2, r73_6 hp e1 h0 (fun q => hstr ⟨h0, q⟩) rfl e2, o2⟩
            · exact ⟨H2, r73_14 hp e1 h0 rfl e2, o2⟩
      · rw [if_neg hag] at hs2
        have IE := IH.expr
        have IR := IH.rng
        obtain ⟨to1, ⟨to2, to3, to4, to5⟩, to6, to7, to8⟩ := to
        obtain ⟨eo, ⟨ef, en, enm, eof⟩, ei, str, ex⟩ := e
        simp only [Ex.op, Ex.t, Ty.form] at hstr hag
        have h7 : to2 ≠ 7 := fun q => hag (.inl q)
        have h8 : to2 ≠ 8 := fun q => hag (.inr q)
        rcases bind_ok hs2 with ⟨v, s2, hs3, hs4⟩ | ⟨e', t, s2, hs3, rfl⟩
        · obtain ⟨rows2, H2, v2, e2, q2, p2⟩ := IE _ _ _ _ hs3 rows1 H1 fr p1.re (hF.mono p1)
          cases q2
          obtain ⟨blk2, m1, m2, m3⟩ := p2.row k1 k2
          obtain ⟨blk', n1, n2, rfl⟩ := keepL_ok hs4
          have : blk2 = blk' := by rw [m2] at n1; cases n1; rfl
          subst this
          obtain ⟨H3, e3, p3⟩ := p2.re.keep m1 m2 n2 v
          have hlt : p.o < blk.length := by rw [← m3]; exact n2
          have hst : hstore H2 rr (0 + p.o * 1) [.int .i32 v] = some H3 := by rw [show 0 + p.o * 1 = p.o by omega]; exact e3
          by_cases h0 : eo = 0
          · exact ⟨rows2, H3, _, r73_7 hp e1 h0 (fun q => hstr ⟨h0, q⟩) h7 h8 e2 hlt hst, rfl, (p1.trans p2).trans p3⟩
          · exact ⟨rows2, H3, _, r73_15 hp e1 h0 h7 h8 e2 hlt hst, rfl, (p1.trans p2).trans p3⟩
        · obtain ⟨H2, e2, o2⟩ := IE _ _ _ _ hs3 rows1 H1 fr p1.re (hF.mono p1)
          by_cases h0 : eo = 0
          · exact ⟨H2, r73_8 hp e1 h0 (fun q => hstr ⟨h0, q⟩) h7 h8 e2, o2⟩
          · exact ⟨H2, r73_16 hp e1 h0 h7 h8 e2, o2⟩
  · obtain ⟨H1, e1, o1⟩ := IH.place _ _ _ _ hs1 rows H fr h hF
    obtain ⟨to1, ⟨to2, to3, to4, to5⟩, to6, to7, to8⟩ := to
    obtain ⟨eo, ⟨ef, en, enm, eof⟩, ei, str, ex⟩ := e
    exact ⟨H1, r73_17 hp e1, o1⟩
end Go.Wf
