/- Part 1 of 11 of what the statement leans on. Proved: gatepostlaw02.ValueBags returns true for every input, and the input reads behind the call as it read before; condition: none but the row's own cells. -/
import Derived.Calls
set_option linter.all false
section
/- The meaning of the annotated code over pure values: definitions alone, no Go memory. -/
namespace Go.Fw

/-- Where a slice's right to grow lies: in a slot, in a cell of a box of this frame, in a cell of an outer frame's box. -/
inductive Src where
  | slot (t : Nat)
  | cell (k off : Nat)
  | gcell (d k off : Nat)
  deriving DecidableEq

inductive Fl where
  | no
  | nil
  | own
  | al (s : Src)
  deriving DecidableEq

/-- Pure values. A slice is the list of its elements, each a list of cells. -/
inductive PV where
  | undef
  | sc (v : Value)
  | agg (cs : List PV)
  | sl (f : Fl) (z : Nat) (es : List (List PV))
  | own (k off : Nat)
  | ptr (d k off : Nat)
  | fresh (off : Nat)
  | elp (z : Nat) (es : List (List PV)) (i off : Nat)
  | clo (f : Nat) (first caps : List PV)
  | tup (vs : List PV)

abbrev PV.int (n : Int) : PV := .sc (.int .i64 n)
abbrev PV.bool (b : Bool) : PV := .sc (.bool b)
abbrev PV.str (s : ByteArray) : PV := .sc (.string s)

mutual
/-- Without any right. -/
def canon : PV → PV
  | .sl _ z es => .sl .no z es
  | .agg cs => .agg (canons cs)
  | .tup vs => .tup (canons vs)
  | .clo f a b => .clo f (canons a) (canons b)
  | p => p
def canons : List PV → List PV
  | [] => []
  | p :: ps => canon p :: canons ps
end

/-- Without a right, but that nil stays nil. -/
def dem : PV → PV
  | .sl .nil z es => .sl .nil z es
  | .sl _ z es => .sl .no z es
  | p => p
def dems : List PV → List PV
  | [] => []
  | p :: ps => dem p :: dems ps

/-- An alias' right ends. -/
def strip : PV → PV
  | .sl (.al _) z es => .sl .no z es
  | p => p

mutual
/-- No pointer in it. -/
def pf : PV → Bool
  | .own .. | .ptr .. | .fresh .. | .elp .. => false
  | .agg cs => pfs cs
  | .tup vs => pfs vs
  | .clo _ a b => pfs a && pfs b
  | _ => true
def pfs : List PV → Bool
  | [] => true
  | p :: ps => pf p && pfs ps
end

def hasN : List Nat → Nat → Bool
  | [], _ => false
  | j :: r, k => Nat.beq k j || hasN r k

mutual
/-- Of the frame's own boxes these alone are pointed to. -/
def ownSub (D : List Nat) : PV → Bool
  | .own k _ => hasN D k
  | .fresh _ => false
  | .agg cs => ownSubs D cs
  | .tup vs => ownSubs D vs
  | .clo _ a b => ownSubs D a && ownSubs D b
  | _ => true
def ownSubs (D : List Nat) : List PV → Bool
  | [] => true
  | p :: ps => ownSub D p && ownSubs D ps
end

/-- May it lie in one cell? -/
def cellOK : PV → Bool
  | .undef | .agg _ | .tup _ => false
  | .sc (.agg _) | .sc (.tuple _) => false
  | _ => true
def cellsOK : List PV → Bool
  | [] => true
  | p :: ps => cellOK p && cellsOK ps

mutual
/-- As a callee sees it: a box of this frame is one of frame 'me'. -/
def outw (me : Nat) : PV → PV
  | .own k off => .ptr me k off
  | .agg cs => .agg (outws me cs)
  | .tup vs => .tup (outws me vs)
  | .clo f a b => .clo f (outws me a) (outws me b)
  | p => p
def outws (me : Nat) : List PV → List PV
  | [] => []
  | p :: ps => outw me p :: outws me ps
end

mutual
/-- A fresh pointer becomes the frame's own box 'k'. -/
def home (k : Nat) : PV → PV
  | .fresh off => .own k off
  | .agg cs => .agg (homes k cs)
  | .tup vs => .tup (homes k vs)
  | p => p
def homes (k : Nat) : List PV → List PV
  | [] => []
  | p :: ps => home k p :: homes k ps
end

inductive Cel (Ω : Type) where
  | box (cs : List PV)
  | opq (x : Ω)

/-- A frame's boxes, by the slot that made them, rising. -/
abbrev Fr (Ω : Type) := List (Nat × Cel Ω)

/-- A running frame: its slots (rising; what is not there is not known), its boxes, the outer frames' boxes. -/
structure FS (Ω : Type) where
  sl : List (Nat × PV)
  L : Fr Ω
  S : List (Fr Ω)
  dirty : Bool

def look {α : Type} : List (Nat × α) → Nat → Option α
  | [], _ => none
  | (j, u) :: r, k => if Nat.beq k j then some u else look r k

def ins {α : Type} : List (Nat × α) → Nat → α → List (Nat × α)
  | [], k, v => [(k, v)]
  | (j, u) :: r, k, v => if Nat.beq k j then (k, v) :: r else if Nat.blt k j then (k, v) :: (j, u) :: r else (j, u) :: ins r k v

def getS (s : List (Nat × PV)) (k : Nat) : PV :=
  match look s k with
  | some v => v
  | none => .undef

inductive Opd where
  | t (n : Nat)
  | c (p : PV)
  | f (f : Nat)

/-- What a cell is: a number, a text, a truth. -/
inductive CK where
  | num
  | txt
  | tru

inductive IOp where
  | mv (x : Opd)
  | asg (x : Opd)
  | pick (c a b : Opd)
  | box (n : Option Nat) (x : Opd)
  | zalloc (cells : List PV)
  | build (zero : List PV) (parts : List (Nat × Option Nat × Opd))
  | bslice (z : Nat) (one : Bool) (elems : List Opd)
  | load (n : Option Nat) (a : Opd)
  | store (n : Option Nat) (a x : Opd)
  | bin (op : BinOp) (x y : Opd)
  | eqs (ks : List CK) (neg : Bool) (x y : Opd)
  | beq (neg : Bool) (x y : Opd)
  | eqnil (neg : Bool) (x : Opd)
  | eqnils (neg : Bool) (x : Opd)
  | un (op : UnOp) (x : Opd)
  | cvi (k : IntKind) (x : Opd)
  | same (x : Opd)
  | s2b (x : Opd)
  | b2s (x : Opd)
  | faddr (off : Nat) (x : Opd)
  | fld (off : Nat) (n : Option Nat) (x : Opd)
  | iaddr (z : Nat) (x i : Opd)
  | aaddr (len z : Nat) (x i : Opd)
  | istr (x i : Opd)
  | iarr (len z : Nat) (n : Option Nat) (x i : Opd)
  | slice (z : Nat) (x : Opd) (lo hi : Option Opd)
  | sslice (x : Opd) (lo hi : Option Opd)
  | nilchk (x : Opd)
  | mkfn (f : Nat) (first caps : List Opd)
  | extr (x : Opd) (i : Nat)
  | len (x : Opd)
  | slen (x : Opd)
  | app (src : Option Src) (z bytes : Nat) (x y : Opd)
  | mm (max : Bool) (x y : Opd)
  | call (f : Nat) (args : List Opd)
  | callx (f : Nat) (args : List Opd)
  | callv (x : Opd) (args : List Opd)
  | callvx (x : Opd) (args : List Opd)
  /-- A load that reads none of these boxes of the frame; a store to this box; a call that writes no box. -/
  | loadx (av : List Nat) (n : Option Nat) (a : Opd)
  | storek (k : Nat) (n : Option Nat) (a x : Opd)
  | callr (f : Nat) (args : List Opd)

structure IOper where
  dst : Option Nat
  op : IOp
  g : Option (Nat × Bool)

inductive ICode where
  | skip
  | reg (ops : List IOper) (keep : List Nat)
  | seq (a b : ICode)
  | cond (c : Opd) (a b : ICode)
  | block (id : Nat) (c : ICode)
  | loop (keep boxes : List Nat) (c : ICode)
  | exit (id : Nat)
  | ret
  /-- The same, where slots and boxes that are not kept are gone. -/
  | exitB (keep boxes : List Nat) (id : Nat)
  | retB (keep boxes : List Nat)

inductive IExit where
  | normal
  | exit (id : Nat)
  | ret
  deriving DecidableEq

structure IFunc where
  n : Nat
  body : ICode
  /-- Each result: its slot; 'some n': it lies in the box that the slot points to (n: cells of a struct). -/
  rets : List (Nat × Option (Option Nat))
  /-- The one result is a slice that is handed over with its right to grow. -/
  gives : Bool

/-- What a call answers: the value; a new box, or thing, behind a pointer in it; the outer frames behind it. -/
abbrev Ret (Ω : Type) := PV × Option (Cel Ω) × List (Fr Ω)
abbrev Orc (Ω : Type) := Nat → List PV → List (Fr Ω) → Option (Ret Ω)

section
variable {Ω : Type}

def FS.rd (st : FS Ω) : Opd → PV
  | .t n => getS st.sl n
  | .c p => p
  | .f f => .clo f [] []

def FS.put (st : FS Ω) (dst : Option Nat) (v : PV) : FS Ω :=
  match dst with
  | some d => { st with sl := ins st.sl d v }
  | none => st

/- Tests on numbers, texts: closed to evaluation, so that they stay readable. -/
def iLt (a b : Int) : Bool := decide (a < b)
def iLe (a b : Int) : Bool := decide (a ≤ b)
def iEq (a b : Int) : Bool := decide (a = b)
def sEq (a b : ByteArray) : Bool := decide (a = b)
def inR (i : Int) (n : Nat) : Bool := decide (0 ≤ i ∧ i < (n : Int))
def inR1 (i : Int) (n : Nat) : Bool := decide (0 ≤ i ∧ i ≤ (n : Int))
def nLe (a b : Nat) : Bool := decide (a ≤ b)
def wrapI (k : IntKind) (n : Int) : Int := k.wrap n
def iNat (i : Int) : Nat := i.toNat
def nInt (n : Nat) : Int := n

def sameK : IntKind → IntKind → Bool
  | .i8, .i8 | .i16, .i16 | .i32, .i32 | .i64, .i64 | .u8, .u8 | .u16, .u16 | .u32, .u32 | .u64, .u64 => true
  | _, _ => false

def binV (op : BinOp) : Value → Value → Option Value
  | .int k a, .int k' b =>
    match op with
    | .shl => if iLt b 0 then none else some (.int k (wrapI k (a * 2 ^ (min (iNat b) k.bits))))
    | .shr => if iLt b 0 then none else some (.int k (a.fdiv (2 ^ (min (iNat b) k.bits))))
    | _ =>
    if sameK k k' then
      match op with
      | .add => some (.int k (wrapI k (a + b)))
      | .sub => some (.int k (wrapI k (a - b)))
      | .mul => some (.int k (wrapI k (a * b)))
      | .quo => if iEq b 0 then none else some (.int k (wrapI k (a.tdiv b)))
      | .rem => if iEq b 0 then none else some (.int k (a.tmod b))
      | .eql => some (.bool (iEq a b))
      | .neq => some (.bool (!iEq a b))
      | .lss => some (.bool (iLt a b))
      | .leq => some (.bool (iLe a b))
      | .gtr => some (.bool (iLt b a))
      | .geq => some (.bool (iLe b a))
      | _ => none
    else none
  | .string a, .string b =>
    match op with
    | .add => if nLe (a.size + b.size) 9223372036854775807 then some (.string (a ++ b)) else none
    | .eql => some (.bool (sEq a b))
    | .neq => some (.bool (!sEq a b))
    | _ => none
  | _, _ => none

/-- Cell by cell. -/
def eqCells : List CK → List PV → List PV → Option Bool
  | [], [], [] => some true
  | .txt :: ks, .sc (.string a) :: x, .sc (.string b) :: y => (eqCells ks x y).map (sEq a b && ·)
  | .num :: ks, .sc (.int k a) :: x, .sc (.int k' b) :: y => if sameK k k' then (eqCells ks x y).map (iEq a b && ·) else none
  | .tru :: ks, .sc (.bool a) :: x, .sc (.bool b) :: y => (eqCells ks x y).map ((a == b) && ·)
  | _, _, _ => none

def unV (op : UnOp) : Value → Option Value
  | .int k a => match op with
    | .neg => some (.int k (wrapI k (0 - a)))
    | _ => none
  | .bool a => match op with
    | .not => some (.bool !a)
    | _ => none
  | _ => none

/-- A part of some cells: one cell, or a struct of n. -/
def part (n : Option Nat) (off : Nat) (cs : List PV) : Option PV :=
  match n with
  | none => (cs[off]?).map dem
  | some n => if Nat.ble (off + n) cs.length then some (.agg (canons ((cs.drop off).take n))) else none

/-- A read cell that bears a right is its alias. -/
def aliased (s : Src) : PV → PV
  | .sl .own z es => .sl (.al s) z es
  | p => p

/-- What a cell of a box holds, as it is read. -/
def loaded (s : Src) : PV → PV
  | .sl .own z es => .sl (.al s) z es
  | p => dem p

def cellsOf : Option Nat → PV → Option (List PV)
  | none, p => if cellOK p then some [p] else none
  | some n, .agg cs => if Nat.beq cs.length n then some cs else none
  | some _, _ => none

def setCells (off : Nat) (vs cs : List PV) : List PV :=
  match vs with
  | [] => cs
  | v :: vs => setCells (off + 1) vs (cs.set off v)

def buildParts : List (Nat × Option Nat × PV) → List PV → Option (List PV)
  | [], cs => some cs
  | (off, n, v) :: ps, cs =>
    match cellsOf n (canon v) with
    | some vs => if Nat.ble (off + vs.length) cs.length then buildParts ps (setCells off vs cs) else none
    | none => none

def elems (z : Nat) (one : Bool) : List PV → Option (List (List PV))
  | [] => some []
  | v :: vs =>
    match cellsOf (if one then none else some z) (canon v), elems z one vs with
    | some c, some r => if Nat.beq c.length z && (pfs c && cellsOK c) then some (c :: r) else none
    | _, _ => none

def maxBytes : Nat := 2 ^ 46

def intOf? : PV → Option Int
  | .sc (.int _ n) => some n
  | _ => none

def sliceBound (d : Nat) (top : Nat) : Option PV → Option Nat
  | none => some d
  | some v => match intOf? v with
    | some i => if inR1 i top then some (iNat i) else none
    | none => none

def bytesOf : List (List PV) → Option (List UInt8)
  | [] => some []
  | [.sc (.int .u8 n)] :: r => (bytesOf r).map (UInt8.ofNat n.toNat :: ·)
  | _ => none

def pickP (c a b : PV) : Option PV :=
  match c with
  | .sc (.bool t) => some (canon (if t then a else b))
  | _ => none
def binP (op : BinOp) (x y : PV) : Option PV :=
  match x, y with
  | .sc a, .sc b => (binV op a b).map .sc
  | _, _ => none
def eqsP (ks : List CK) (neg : Bool) (x y : PV) : Option PV :=
  match x, y with
  | .agg a, .agg b => (eqCells ks a b).map fun r => .sc (.bool (if neg then !r else r))
  | _, _ => none
def beqP (neg : Bool) (x y : PV) : Option PV :=
  match x, y with
  | .sc (.bool a), .sc (.bool b) => some (.sc (.bool (if neg then !(a == b) else a == b)))
  | _, _ => none
def eqnilP (neg : Bool) (x : PV) : Option PV :=
  match x with
  | .own .. | .ptr .. => some (.sc (.bool neg))
  | .sc (.pointer none) => some (.sc (.bool !neg))
  | _ => none
def eqnilsP (neg : Bool) (x : PV) : Option PV :=
  match x with
  | .sl .nil _ _ => some (.sc (.bool !neg))
  | .sl _ _ (_ :: _) => some (.sc (.bool neg))
  | _ => none
def unP (op : UnOp) (x : PV) : Option PV :=
  match x with
  | .sc a => (unV op a).map .sc
  | _ => none
def cviP (k : IntKind) (x : PV) : Option PV :=
  match x with
  | .sc (.int _ n) => some (.sc (.int k (wrapI k n)))
  | _ => none
def sameP (x : PV) : Option PV :=
  match x with
  | .sc (.string s) => some (.sc (.string s))
  | _ => none
def s2bP (x : PV) : Option PV :=
  match x with
  | .sc (.string s) => some (.sl .no 1 (s.data.toList.map fun b => [.sc (.int .u8 b.toNat)]))
  | _ => none
def b2sP (x : PV) : Option PV :=
  match x with
  | .sl _ 1 es => (bytesOf es).map fun l => .sc (.string ⟨l.toArray⟩)
  | _ => none
def faddrP (off : Nat) (x : PV) : Option PV :=
  match x with
  | .own k o => some (.own k (o + off))
  | .ptr d k o => some (.ptr d k (o + off))
  | .elp z es i o => some (.elp z es i (o + off))
  | _ => none
def fldP (off : Nat) (n : Option Nat) (x : PV) : Option PV :=
  match x with
  | .agg cs => part n off cs
  | _ => none
def iaddrP (z : Nat) (x i : PV) : Option PV :=
  match x, i with
  | .sl _ z' es, .sc (.int _ i) => if Nat.beq z z' then (if inR i es.length then some (.elp z es (iNat i) 0) else none) else none
  | _, _ => none
def aaddrP (len z : Nat) (x i : PV) : Option PV :=
  match x, i with
  | .own k o, .sc (.int _ i) => if inR i len then some (.own k (o + iNat i * z)) else none
  | _, _ => none
def istrP (x i : PV) : Option PV :=
  match x, i with
  | .sc (.string s), .sc (.int _ i) => if inR i s.size then some (.sc (.int .u8 (s.data.toList.getD (iNat i) 0).toNat)) else none
  | _, _ => none
def iarrP (len z : Nat) (n : Option Nat) (x i : PV) : Option PV :=
  match x, i with
  | .agg cs, .sc (.int _ i) => if inR i len then part n (iNat i * z) cs else none
  | _, _ => none
def sliceP (z : Nat) (x : PV) (lo hi : Option PV) : Option PV :=
  match x with
  | .sl _ z' es => if Nat.beq z z' then (sliceBound es.length es.length hi).bind fun h => (sliceBound 0 h lo).map fun l => .sl .no z ((es.take h).drop l) else none
  | _ => none
def ssliceP (x : PV) (lo hi : Option PV) : Option PV :=
  match x with
  | .sc (.string s) => (sliceBound s.size s.size hi).bind fun h => (sliceBound 0 h lo).map fun l => .sc (.string (s.extract l h))
  | _ => none
def nilchkP (x : PV) : Option PV :=
  match x with
  | .own .. | .ptr .. | .elp .. | .clo .. => some x
  | _ => none
def extrP (i : Nat) (x : PV) : Option PV :=
  match x with
  | .tup vs => (vs[i]?).map dem
  | _ => none
def lenP (x : PV) : Option PV :=
  match x with
  | .sl _ _ es => some (.sc (.int .i64 (nInt es.length)))
  | _ => none
def slenP (x : PV) : Option PV :=
  match x with
  | .sc (.string s) => some (.sc (.int .i64 (nInt s.size)))
  | _ => none
def mmP (mx : Bool) (x y : PV) : Option PV :=
  match x, y with
  | .sc (.int k a), .sc (.int k' b) => if sameK k k' then some (.sc (.int k (if mx then max a b else min a b))) else none
  | _, _ => none

/-- The value of an operation that reads and writes no box ('rd' reads an operand). -/
def pureVal (rd : Opd → PV) : IOp → Option PV
  | .mv (.t x) => some (aliased (.slot x) (rd (.t x)))
  | .mv x => some (rd x)
  | .pick c a b => pickP (rd c) (rd a) (rd b)
  | .build zero parts => (buildParts (parts.map fun p => (p.1, p.2.1, rd p.2.2)) (dems zero)).map .agg
  | .bin op x y => binP op (rd x) (rd y)
  | .eqs ks neg x y => eqsP ks neg (rd x) (rd y)
  | .beq neg x y => beqP neg (rd x) (rd y)
  | .eqnil neg x => eqnilP neg (rd x)
  | .eqnils neg x => eqnilsP neg (rd x)
  | .un op x => unP op (rd x)
  | .cvi k x => cviP k (rd x)
  | .same x => sameP (rd x)
  | .b2s x => b2sP (rd x)
  | .faddr off x => faddrP off (rd x)
  | .fld off n x => fldP off n (rd x)
  | .iaddr z x i => iaddrP z (rd x) (rd i)
  | .aaddr len z x i => aaddrP len z (rd x) (rd i)
  | .istr x i => istrP (rd x) (rd i)
  | .iarr len z n x i => iarrP len z n (rd x) (rd i)
  | .slice z x lo hi => sliceP z (rd x) (lo.map rd) (hi.map rd)
  | .sslice x lo hi => ssliceP (rd x) (lo.map rd) (hi.map rd)
  | .nilchk x => nilchkP (rd x)
  | .mkfn f first caps => some (.clo f (canons (first.map rd)) (canons (caps.map rd)))
  | .extr x i => extrP i (rd x)
  | .len x => lenP (rd x)
  | .slen x => slenP (rd x)
  | .mm mx x y => mmP mx (rd x) (rd y)
  | _ => none

def FS.box? (st : FS Ω) : PV → Option (List PV × Nat × (Nat → Src))
  | .own k off => match look st.L k with
    | some (.box cs) => some (cs, off, .cell k)
    | _ => none
  | .ptr d k off => match st.S[d]? with
    | some F => match look F k with
      | some (.box cs) => some (cs, off, .gcell d k)
      | _ => none
    | none => none
  | _ => none

def FS.loadV (st : FS Ω) (n : Option Nat) : PV → Option PV
  | .elp _ es i off => match es[i]? with
    | some cs => part n off cs
    | none => none
  | p => match st.box? p with
    | some (cs, off, src) => match n with
      | none => (cs[off]?).map (loaded (src off))
      | some _ => part n off cs
    | none => none

def FS.setBox (st : FS Ω) (p : PV) (cs : List PV) : Option (FS Ω) :=
  match p with
  | .own k _ => some { st with L := ins st.L k (.box cs) }
  | .ptr d k _ => match st.S[d]? with
    | some F => some { st with S := st.S.set d (ins F k (.box cs)) }
    | none => none
  | _ => none

/-- What may be stored there: no pointer into an outer frame's box, none to a box of this frame into its own. -/
def storeOK : PV → List PV → Bool
  | .own .., vs => ownSubs [] vs
  | _, vs => pfs vs

/-- The operand's slot loses its right. -/
def FS.lose (st : FS Ω) : Opd → FS Ω
  | .t n => match getS st.sl n with
    | .sl _ z es => { st with sl := ins st.sl n (.sl .no z es) }
    | _ => st
  | _ => st

/-- A right that moves goes on; an alias gives none. -/
def moved : PV → PV
  | .sl .own z es => .sl .own z es
  | .sl .nil z es => .sl .nil z es
  | .sl _ z es => .sl .no z es
  | p => p

def isOwn : PV → Bool
  | .sl .own _ _ => true
  | _ => false

def ownZ (z : Nat) : PV → Bool
  | .sl .own z' _ => Nat.beq z' z
  | _ => false

/-- The slot has not been written. -/
def noAl (d : Nat) : List (Nat × PV) → Bool
  | [] => true
  | (j, _) :: r => !Nat.beq d j && noAl d r

/-- As 'put', where the value may bear a right. -/
def FS.putR (st : FS Ω) (dst : Option Nat) (v : PV) : Option (FS Ω) :=
  match dst with
  | some d => if !isOwn v || noAl d st.sl then some { st with sl := ins st.sl d v } else none
  | none => some st

def FS.homed (st : FS Ω) (dst : Option Nat) (r : PV) (o : Option (Cel Ω)) : Option (FS Ω) :=
  match o with
  | none => if pf r then st.putR dst r else none
  | some c => match dst with
    | some d => match look st.L d with
      | none => some { st with sl := ins st.sl d (home d r), L := ins st.L d c }
      | _ => none
    | none => none

/-- A call that is handed no box. -/
def FS.qcall (st : FS Ω) (Γ : Orc Ω) (dst : Option Nat) (f : Nat) (vs : List PV) : Option (FS Ω) :=
  if pfs vs then (Γ f vs []).bind fun r => st.homed dst r.1 r.2.1 else none

def sameKeys : Fr Ω → Fr Ω → Bool
  | [], [] => true
  | (j, _) :: a, (k, _) :: b => Nat.beq j k && sameKeys a b
  | _, _ => false

/-- A call that may be handed boxes. -/
def FS.xcall (st : FS Ω) (Γ : Orc Ω) (dst : Option Nat) (f : Nat) (vs : List PV) : Option (FS Ω) :=
  (Γ f (outws st.S.length vs) (st.S ++ [st.L])).bind fun r =>
    (r.2.2[st.S.length]?).bind fun L' => if sameKeys st.L L' && Nat.beq r.2.2.length (st.S.length + 1) then ({ st with S := r.2.2.take st.S.length, L := L', dirty := true } : FS Ω).homed dst r.1 r.2.1 else none

def FS.storeV (st : FS Ω) (n : Option Nat) (a x : Opd) : Option (FS Ω) :=
  let v := st.rd x
  match st.box? (st.rd a), cellsOf n v with
  | some (cs, off, _), some vs =>
    if Nat.ble (off + vs.length) cs.length && (storeOK (st.rd a) vs && cellsOK vs) then
      let st1 := if n.isNone && isOwn v then st.lose x else st
      match st1.setBox (st.rd a) (setCells off (if n.isNone then [moved v] else dems vs) cs) with
      | some st2 => some { st2 with dirty := true }
      | none => none
    else none
  | _, _ => none

def atBox (k : Nat) : PV → Bool
  | .own j _ => Nat.beq j k
  | _ => false
def offBox (av : List Nat) : PV → Bool
  | .own k _ => !hasN av k
  | _ => true

/-- A call that writes no box. -/
def FS.rcall (st : FS Ω) (Γ : Orc Ω) (dst : Option Nat) (f : Nat) (vs : List PV) : Option (FS Ω) :=
  (Γ f (outws st.S.length vs) (st.S ++ [st.L])).bind fun r => match r.2.1 with
    | none => ({ st with dirty := true } : FS Ω).homed dst r.1 none
    | some _ => none

def stepOp (Γ : Orc Ω) (o : IOper) (st : FS Ω) : Option (FS Ω) :=
  match o.op with
  | .asg x =>
    let v := st.rd x
    let st' := (if isOwn v then st.lose x else st).put o.dst (moved v)
    some { st' with dirty := true }
  | .box n x =>
    match o.dst, cellsOf n (st.rd x) with
    | some d, some cs => match look st.L d with
      | none => if ownSubs [] cs then some { st with sl := ins st.sl d (.own d 0), L := ins st.L d (.box (dems cs)) } else none
      | _ => none
    | _, _ => none
  | .zalloc cs =>
    match o.dst with
    | some d => match look st.L d with
      | none => if ownSubs [] cs then some { st with sl := ins st.sl d (.own d 0), L := ins st.L d (.box (dems cs)) } else none
      | _ => none
    | none => none
  | .load n a => (st.loadV n (st.rd a)).map (st.put o.dst ·)
  | .store n a x => st.storeV n a x
  | .storek k n a x => if atBox k (st.rd a) then st.storeV n a x else none
  | .loadx av n a => if offBox av (st.rd a) then (st.loadV n (st.rd a)).map (st.put o.dst ·) else none
  | .app src z bytes x y =>
    match st.rd x, st.rd y with
    | .sl f z1 es, .sl _ z2 fs =>
      if (Nat.beq z1 z && Nat.beq z2 z && nLe ((es.length + fs.length) * bytes) maxBytes) then
        let res := PV.sl .own z (es ++ fs)
        match f, src with
        | .nil, none => st.putR o.dst res
        | .nil, some _ => if st.dirty then none else st.putR o.dst res
        | .own, none => (st.lose x).putR o.dst res
        | .al (.slot t), some (.slot t') => if Nat.beq t t' && !st.dirty && ownZ z (st.rd (.t t)) then (st.lose (.t t)).putR o.dst res else none
        | .al (.cell k off), some (.cell ..) =>
          if st.dirty then none else
          match look st.L k with
          | some (.box cs) => match cs[off]? with
            | some (.sl .own z' es') => if Nat.beq z' z then ({ st with L := ins st.L k (.box (cs.set off (.sl .no z' es'))) } : FS Ω).putR o.dst res else none
            | _ => none
          | _ => none
        | .al (.gcell d k off), some (.cell ..) =>
          if st.dirty then none else
          match st.S[d]? with
          | some F => match look F k with
            | some (.box cs) => match cs[off]? with
              | some (.sl .own z' es') => if Nat.beq z' z then ({ st with S := st.S.set d (ins F k (.box (cs.set off (.sl .no z' es')))) } : FS Ω).putR o.dst res else none
              | _ => none
            | _ => none
          | none => none
        | _, _ => none
      else none
    | _, _ => none
  | .bslice z one es => (elems z one (es.map st.rd)).bind fun l => st.putR o.dst (.sl .own z l)
  | .s2b x => (s2bP (st.rd x)).map (st.put o.dst ·)
  | .call f args => st.qcall Γ o.dst f (canons (args.map st.rd))
  | .callv x args =>
    match st.rd x with
    | .clo f first caps => st.qcall Γ o.dst f (canons (first ++ args.map st.rd ++ caps))
    | _ => none
  | .callx f args => st.xcall Γ o.dst f (canons (args.map st.rd))
  | .callvx x args =>
    match st.rd x with
    | .clo f first caps => st.xcall Γ o.dst f (canons (first ++ args.map st.rd ++ caps))
    | _ => none
  | .callr f args => st.rcall Γ o.dst f (canons (args.map st.rd))
  | op => (pureVal st.rd op).map (st.put o.dst ·)

def stepG (Γ : Orc Ω) (o : IOper) (st : FS Ω) : Option (FS Ω) :=
  match o.g with
  | none => stepOp Γ o st
  | some (j, want) => match getS st.sl j with
    |   .sc (.bool b) => if b == want then stepOp Γ o st else some (st.put o.dst (.sc Go.undef))
    | .sc _ => some (st.put o.dst (.sc Go.undef))
    | _ => none

def runOps (Γ : Orc Ω) : List IOper → FS Ω → Option (FS Ω)
  | [], st => some st
  | o :: os, st => (stepG Γ o st).bind (runOps Γ os)

/-- What is kept. -/
def keepS : List Nat → List (Nat × PV) → List (Nat × PV)
  | [], _ => []
  | k :: ks, s => (k, strip (getS s k)) :: keepS ks s
def keepL : List Nat → Fr Ω → Fr Ω
  | [], _ => []
  | k :: ks, s => match look s k with
    | some c => (k, c) :: keepL ks s
    | none => keepL ks s
def ownSubS (D : List Nat) : List (Nat × PV) → Bool
  | [] => true
  | (_, p) :: r => ownSub D p && ownSubS D r

def runReg (Γ : Orc Ω) (ops : List IOper) (keep : List Nat) (st : FS Ω) : Option (FS Ω) :=
  (runOps Γ ops st).map fun s => { s with sl := keepS keep s.sl, dirty := false }

/-- At a loop's head: what lives in a round alone is gone. -/
def reset (keep boxes : List Nat) (st : FS Ω) : Option (FS Ω) :=
  let s := keepS keep st.sl
  if ownSubS boxes s then some { st with sl := s, L := keepL boxes st.L } else none

def loopN (body : FS Ω → Option (IExit × FS Ω)) (keep boxes : List Nat) : Nat → FS Ω → Option (IExit × FS Ω)
  | 0, _ => none
  | n + 1, st => match reset keep boxes st with
    | none => none
    | some st => match body st with
      | some (.normal, st') => loopN body keep boxes n st'
      | r => r

def den (Γ : Orc Ω) (N : Nat) : ICode → FS Ω → Option (IExit × FS Ω)
  | .skip, st => some (.normal, st)
  | .reg ops keep, st => (runReg Γ ops keep st).map (.normal, ·)
  | .seq a b, st => match den Γ N a st with
    | some (.normal, st') => den Γ N b st'
    | r => r
  | .cond c a b, st => match st.rd c with
    | .sc (.bool true) => den Γ N a st
    | .sc (.bool false) => den Γ N b st
    | _ => none
  | .block id c, st => match den Γ N c st with
    | some (.exit i, st') => if Nat.beq i id then some (.normal, st') else some (.exit i, st')
    | r => r
  | .loop keep boxes c, st => loopN (den Γ N c) keep boxes N st
  | .exit id, st => some (.exit id, st)
  | .ret, st => some (.ret, st)
  | .exitB keep boxes id, st => (reset keep boxes st).map (.exit id, ·)
  | .retB keep boxes, st => (reset keep boxes st).map (.ret, ·)

mutual
/-- The frame's own box in a result: which. -/
def ownIn : PV → Option Nat
  | .own k _ => some k
  | .agg cs => ownsIn cs
  | .tup vs => ownsIn vs
  | _ => none
def ownsIn : List PV → Option Nat
  | [] => none
  | p :: ps => match ownIn p with
    | some k => some k
    | none => ownsIn ps
end
mutual
def freshed (k : Nat) : PV → PV
  | .own k' off => if Nat.beq k k' then .fresh off else .own k' off
  | .agg cs => .agg (fresheds k cs)
  | .tup vs => .tup (fresheds k vs)
  | p => p
def fresheds (k : Nat) : List PV → List PV
  | [] => []
  | p :: ps => freshed k p :: fresheds k ps
end
mutual
/-- Nothing of the frame that ends: no pointer but a fresh one. -/
def pfr : PV → Bool
  | .own .. | .ptr .. | .elp .. => false
  | .agg cs => pfrs cs
  | .tup vs => pfrs vs
  | .clo _ a b => pfs a && pfs b
  | _ => true
def pfrs : List PV → Bool
  | [] => true
  | p :: ps => pfr p && pfrs ps
end

def retVal (rets : List (Nat × Option (Option Nat))) (gives : Bool) (st : FS Ω) : Option PV :=
  match rets with
  | [(t, none)] => if gives then (match st.rd (.t t) with
      | .sl .own z es => some (.sl .own z es)
      | .sl .nil z es => some (.sl .own z es)
      | _ => none) else some (canon (st.rd (.t t)))
  | rs => (rs.mapM fun (t, c) => match c with
      | none => some (canon (st.rd (.t t)))
      | some n => (st.loadV n (st.rd (.t t))).map canon).map fun vs => match vs with
        | [v] => v
        | vs => .tup vs

/-- What the frame answers at its end. -/
def retOf (rets : List (Nat × Option (Option Nat))) (gives : Bool) (st : FS Ω) : Option (Ret Ω) :=
  match retVal rets gives st with
  | none => none
  | some v => match ownIn v with
    | none => if pfr v then some (v, none, st.S) else none
    | some k => match look st.L k with
      | some (.box cs) => if pfrs (freshed k v :: []) && pfs cs then some (freshed k v, some (.box (canons cs)), st.S) else none
      | some (.opq x) => if pfrs (freshed k v :: []) then some (freshed k v, some (.opq x), st.S) else none
      | _ => none

def number : Nat → List PV → List (Nat × PV)
  | _, [] => []
  | k, p :: ps => (k, p) :: number (k + 1) ps

def initFS (args : List PV) (S : List (Fr Ω)) : FS Ω := { sl := number 0 args, L := [], S := S, dirty := false }

/-- The functions: code, or a thing proved by hand. -/
inductive Ent (Ω : Type) where
  | fn (f : IFunc)
  | prim (p : List PV → List (Fr Ω) → Option (Ret Ω))

def interp (T : Nat → Option (Ent Ω)) : Nat → Orc Ω
  | 0 => fun _ _ _ => none
  | n + 1 => fun f args S =>
    match T f with
    | none => none
    | some (.prim p) => p args S
    | some (.fn fn) =>
      match den (interp T n) n fn.body (initFS args S) with
      | some (.normal, st) | some (.ret, st) => retOf fn.rets fn.gives st
      | _ => none
end
theorem iLt_def (a b : Int) : iLt a b = decide (a < b) := rfl
theorem iLe_def (a b : Int) : iLe a b = decide (a ≤ b) := rfl
theorem iEq_def (a b : Int) : iEq a b = decide (a = b) := rfl
theorem sEq_def (a b : ByteArray) : sEq a b = decide (a = b) := rfl
theorem inR_def (i : Int) (n : Nat) : inR i n = decide (0 ≤ i ∧ i < (n : Int)) := rfl
theorem inR1_def (i : Int) (n : Nat) : inR1 i n = decide (0 ≤ i ∧ i ≤ (n : Int)) := rfl
theorem nLe_def (a b : Nat) : nLe a b = decide (a ≤ b) := rfl
theorem wrapI_def (k : IntKind) (n : Int) : wrapI k n = k.wrap n := rfl
theorem iNat_def (i : Int) : iNat i = i.toNat := rfl
theorem nInt_def (n : Nat) : nInt n = n := rfl
attribute [irreducible] iLt iLe iEq sEq inR inR1 nLe wrapI iNat nInt
end Go.Fw
end
