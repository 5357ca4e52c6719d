/- The engine, part 1: abstract values, abstract code, the evaluator. It says nothing of the model: definitions alone. -/
import Derived.CallsIn
set_option linter.all false
namespace Go.Eng

/-- How a read-only slice is known: p: permanent; n: known to be nil; b: lent for one call. -/
inductive Tag where
  | p | n | b
  deriving DecidableEq, Repr, Inhabited

def mapO {α β : Type} (f : α → Option β) : List α → Option (List β)
  | [] => some []
  | x :: xs => (f x).bind fun y => (mapO f xs).map fun ys => y :: ys

/-- Read-only values: they bear what they hold. -/
inductive IV where
  | any
  | b (x : Bool)
  | i (k : IntKind) (n : Int)
  | s (x : List UInt8)
  | c (v : Value)
  | rsl (t : Tag) (rows : List (List IV))
  | rptr (row : List IV) (o : Nat)
  | fn (f : Nat) (first cap : List IV)
  | ifc (t : Nat) (ag : Bool) (cells : List IV)
  | agg (l : List IV)
  deriving Inhabited

/-- Values: read-only ones, parts of memory that the run owns, and what is put together of both. -/
inductive AV where
  | iv (x : IV)
  | agg (l : List AV)
  | tup (l : List AV)
  | ptr (b sz i o : Nat)
  | sl (b sz st len : Nat) (cap : Option Nat)
  | fn (f : Nat) (first cap : List AV)
  | yld (l : Nat)
  | ifc (t : Nat) (v : AV)
  | mp (b : Nat)
  | asl (b sz i o esz len : Nat)
  deriving Inhabited

abbrev AV.undef : AV := .tup []

/-- A read-only value as a value. -/
def iv2a : IV → AV
  | .agg l => .agg (l.map .iv)
  | x => .iv x

inductive X where
  | t (n : Nat)
  | c (v : AV)
  deriving Inhabited

/-- How a call is done: iso: by itself, what it gives being read-only but for the kept places; sh: on the caller's own memory, of which all new blocks are kept, or dropped. -/
inductive CMode where
  | iso (keep : List Nat)
  | sh (all : Bool)
  deriving Inhabited

/-- A cell's kind. -/
inductive SK where
  | b | i | s
  deriving DecidableEq, Repr, Inhabited

inductive NilK where
  | sl | pt | fn | ifc | mp
  deriving DecidableEq, Repr, Inhabited

inductive AOp where
  | mov (x : X)
  | movs (x : X)
  | pick (c a b : X)
  | bin (op : BinOp) (x y : X)
  | eqn (k : NilK) (neg : Bool) (x : X)
  | beq (neg : Bool) (x y : X)
  | eqs (neg : Bool) (ks : Bool × List SK) (x y : X)
  | not (x : X)
  | neg (x : X)
  | conv (k : IntKind) (x : X)
  | fld (off n : Nat) (ag : Bool) (x : X)
  | fad (off : Nat) (x : X)
  | iad (sz : Nat) (x i : X)
  | iada (n sz : Nat) (x i : X)
  | idx (n sz : Nat) (ag : Bool) (x i : X)
  | idxs (x i : X)
  | ext (x : X) (i : Nat)
  | bld (zero : List AV) (parts : List (Nat × Nat × X))
  | slc (sz : Nat) (x : X) (lo hi mx : Option X)
  | slcs (x : X) (lo hi : Option X)
  | slca (n sz : Nat) (x : X) (lo hi : Option X)
  | len (x : X)
  | lens (x : X)
  | lena (n : Nat)
  | cap (x : X)
  | mnmx (mx : Bool) (xs : List X)
  | mkif (t : Nat) (ag : Bool) (x : X)
  | mkfn (f : Nat) (first cap : List X)
  | nchk (x : X)
  | tas (t : Nat) (ok : Bool) (zero : AV) (x : X)
  | ld (n : Nat) (ag : Bool) (x : X)
  | b2s (x : X)
  | lkp (ks : Bool × List SK) (ok : Bool) (zero : AV) (x k : X)
  | alc (cells : List AV)
  | box (n : Nat) (x : X)
  | bsl (sz len : Nat) (zero : List AV) (parts : List (Nat × X))
  | mks (sz bytes : Nat) (zero : List AV) (l c : X)
  | mkm
  | s2b (x : X)
  | st (n : Nat) (x v : X)
  | frz (x : X)
  | app (sz bytes : Nat) (x y : X)
  | appz (sz bytes : Nat) (zero : List AV) (x n : X)
  | cpy (sz : Nat) (x y : X)
  | clr (sz : Nat) (zero : List AV) (x : X)
  | mup (ks : Bool × List SK) (x k v : X)
  | call (m : CMode) (f : X) (args : List X)
  | inv (m : CMode) (name : String) (tab : List (Nat × Nat × Option (Nat × Bool))) (x : X) (args : List X)
  | dfr (f : X) (args : List X)
  | bad
  deriving Inhabited

inductive Cls where
  | P | R | N | W
  deriving DecidableEq, Repr, Inhabited

/-- What an operation does to memory: nothing; it reads; it lays new blocks; it writes. -/
def AOp.cls : AOp → Cls
  | .ld .. | .b2s .. | .lkp .. => .R
  | .alc .. | .box .. | .bsl .. | .mks .. | .mkm | .s2b .. => .N
  | .st .. | .frz .. | .app .. | .appz .. | .cpy .. | .clr .. | .mup .. | .inv .. | .dfr .. | .bad => .W
  | .call (.iso _) .. => .N
  | .call .. => .W
  | _ => .P

/-- The temporaries that an operation looks at. -/
def X.use : X → List Nat
  | .t n => [n]
  | .c _ => []
def useO : Option X → List Nat
  | some x => x.use
  | none => []
def useL (l : List X) : List Nat := l.flatMap X.use
def AOp.use : AOp → List Nat
  | .mov x | .movs x | .eqn _ _ x | .not x | .neg x | .conv _ x | .fld _ _ _ x | .fad _ x | .ext x _ | .len x | .lens x | .cap x | .mkif _ _ x | .nchk x | .tas _ _ _ x | .ld _ _ x | .b2s x | .box _ x | .s2b x | .frz x | .clr _ _ x => x.use
  | .bin _ x y | .beq _ x y | .eqs _ _ x y | .iad _ x y | .iada _ _ x y | .idx _ _ _ x y | .idxs x y | .lkp _ _ _ x y | .mks _ _ _ x y | .st _ x y | .app _ _ x y | .appz _ _ _ x y | .cpy _ x y => x.use ++ y.use
  | .pick x y z | .mup _ x y z => x.use ++ y.use ++ z.use
  | .bld _ ps => ps.flatMap fun p => p.2.2.use
  | .slc _ x a b c => x.use ++ useO a ++ useO b ++ useO c
  | .slcs x a b | .slca _ _ x a b => x.use ++ useO a ++ useO b
  | .mnmx _ xs => useL xs
  | .mkfn _ a b => useL a ++ useL b
  | .bsl _ _ _ ps => ps.flatMap fun p => p.2.use
  | .call _ f as | .dfr f as => f.use ++ useL as
  | .inv _ _ _ x as => x.use ++ useL as
  | .lena _ | .alc _ | .mkm | .bad => []

/-- What an operation is, where the order is not fixed: calls count as those that write. -/
def AOp.kind : AOp → Cls
  | .call .. => .W
  | op => op.cls

structure AOper where
  d : Option Nat
  g : Option (Nat × Bool)
  k : Nat
  op : AOp
  /-- What reads ahead of it, in an order that is not fixed: it has to read the same behind it. -/
  re : List (Option Nat × Option (Nat × Bool) × AOp)
  deriving Inhabited

def AOper.use (o : AOper) : List Nat := o.op.use ++ (match o.g with | some (g, _) => [g] | none => [])

inductive ACode where
  | skip
  | reg (n : Nat) (ops : List AOper)
  | seq (a b : ACode)
  | cond (x : X) (a b : ACode)
  | blk (id : Nat) (c : ACode)
  | loop (c : ACode)
  | exit (id : Nat)
  | scope (c : ACode) (l : Nat) (rest : ACode)
  | label
  | goto (l : Nat)
  | ret
  | rng (x : X) (ps : List Nat) (assign body : ACode)
  | forget (ts : List Nat)
  deriving Inhabited

inductive Ex where
  | nrm | exit (id : Nat) | goto (l : Nat) | ret
  deriving DecidableEq, Repr, Inhabited

inductive LSt where
  | ready | busy | done
  deriving DecidableEq, Repr, Inhabited

structure LoopRec where
  t : List AV
  ps : List Nat
  assign : ACode
  body : ACode
  st : LSt
  pend : Option Ex
  deriving Inhabited

inductive Blk where
  | cells (sz : Nat) (rows : List (List AV))
  | mp (es : List (AV × AV))
  | lp (r : LoopRec)
  deriving Inhabited

structure AH where
  next : Nat
  bl : List (Nat × Blk)
  deriving Inhabited

def lk : List (Nat × Blk) → Nat → Option Blk
  | [], _ => none
  | (j, x) :: l, b => if j = b then some x else lk l b
def up : List (Nat × Blk) → Nat → Blk → List (Nat × Blk)
  | [], _, _ => []
  | (j, x) :: l, b, y => if j = b then (j, y) :: l else (j, x) :: up l b y
def del : List (Nat × Blk) → Nat → List (Nat × Blk)
  | [], _ => []
  | (j, x) :: l, b => if j = b then del l b else (j, x) :: del l b

def AH.empty : AH := ⟨0, []⟩
def AH.get (h : AH) (b : Nat) : Option Blk := lk h.bl b
def AH.set (h : AH) (b : Nat) (x : Blk) : AH := ⟨h.next, up h.bl b x⟩
def AH.del (h : AH) (b : Nat) : AH := ⟨h.next, Eng.del h.bl b⟩
/-- A new block at a number that is already reserved. -/
def AH.add (h : AH) (b : Nat) (x : Blk) : AH := ⟨h.next, (b, x) :: h.bl⟩
def AH.bump (h : AH) (n : Nat) : AH := ⟨h.next + n, h.bl⟩
/-- Without the blocks from a number on. -/
def AH.cut (h : AH) (b : Nat) : AH := ⟨h.next, h.bl.filter fun p => p.1 < b⟩

structure St where
  t : List AV
  h : AH
  d : List (AV × List AV)
  /-- In a round of a range over a function: nothing may be deferred there. -/
  rd : Bool
  deriving Inhabited

inductive Callee where
  | fn (f : Nat)
  | yld (l : Nat)
  deriving DecidableEq, Repr, Inhabited

abbrev Rec := Callee → List AV → AH → Option (AV × AH)

def X.ev (t : List AV) : X → AV
  | .t n => t.getD n (.iv .any)
  | .c v => v

def setD (t : List AV) (d : Option Nat) (v : AV) : List AV :=
  match d with
  | some n => t.set n v
  | none => t

/-! ### whole numbers and strings -/
def binI (op : BinOp) (k : IntKind) (a b : Int) : Option IV :=
  match op with
  | .add => some (.i k (k.wrap (a + b)))
  | .sub => some (.i k (k.wrap (a - b)))
  | .mul => some (.i k (k.wrap (a * b)))
  | .quo => if b = 0 then none else some (.i k (k.wrap (a.tdiv b)))
  | .rem => if b = 0 then none else some (.i k (a.tmod b))
  | .and => some (.i k (k.wrap (BitVec.ofInt k.bits a &&& BitVec.ofInt k.bits b).toNat))
  | .or => some (.i k (k.wrap (BitVec.ofInt k.bits a ||| BitVec.ofInt k.bits b).toNat))
  | .xor => some (.i k (k.wrap (BitVec.ofInt k.bits a ^^^ BitVec.ofInt k.bits b).toNat))
  | .andNot => some (.i k (k.wrap (BitVec.ofInt k.bits a &&& ~~~ BitVec.ofInt k.bits b).toNat))
  | .eql => some (.b (a == b))
  | .neq => some (.b (a != b))
  | .lss => some (.b (a < b))
  | .leq => some (.b (a ≤ b))
  | .gtr => some (.b (a > b))
  | .geq => some (.b (a ≥ b))
  | _ => none

def shI (op : BinOp) (k : IntKind) (a b : Int) : Option IV :=
  if b < 0 then none else
  match op with
  | .shl => some (.i k (k.wrap (a * 2 ^ (min b.toNat k.bits))))
  | .shr => some (.i k (a.fdiv (2 ^ (min b.toNat k.bits))))
  | _ => none

def bytesLess : List UInt8 → List UInt8 → Bool
  | _, [] => false
  | [], _ :: _ => true
  | a :: x, b :: y => a < b || (a == b && bytesLess x y)

def strI (op : BinOp) (x y : List UInt8) : Option IV :=
  match op with
  | .eql => some (.b (x == y))
  | .neq => some (.b (!(x == y)))
  | .lss => some (.b (bytesLess x y))
  | .leq => some (.b (bytesLess x y || x == y))
  | .gtr => some (.b (!(bytesLess x y || x == y)))
  | .geq => some (.b (!(bytesLess x y)))
  | _ => none

def binV (op : BinOp) : AV → AV → Option AV
  | .iv (.i k a), .iv (.i k' b) =>
    match op with
    | .shl | .shr => (shI op k a b).map .iv
    | _ => if k = k' then (binI op k a b).map .iv else none
  | .iv (.s a), .iv (.s b) => (strI op a b).map .iv
  | _, _ => none

/-- Is a value nil? none: it isn't known. -/
def isNil : NilK → AV → Option Bool
  | .sl, .iv (.rsl .n _) => some true
  | .sl, .iv (.rsl _ (_ :: _)) => some false
  | .sl, .sl _ _ _ (_ + 1) _ => some false
  | .sl, .iv (.c (.slice none _ _)) => some true
  | .sl, .iv (.c (.slice (some _) _ _)) => some false
  | .pt, .iv (.c (.pointer none)) => some true
  | .pt, .iv (.rptr _ _) => some false
  | .pt, .ptr .. => some false
  | .fn, .iv (.c .nilFunc) => some true
  | .fn, .iv (.fn ..) => some false
  | .fn, .fn .. => some false
  | .fn, .yld _ => some false
  | .ifc, .iv (.c .nilIface) => some true
  | .ifc, .iv (.ifc ..) => some false
  | .ifc, .ifc .. => some false
  | .mp, .iv (.c (.map none)) => some true
  | .mp, .mp _ => some false
  | _, _ => none

/-- Two scalars: are they one? -/
def eqIV : SK → IV → IV → Option Bool
  | .b, .b a, .b b => some (a == b)
  | .i, .i k a, .i k' b => if k = k' then some (a == b) else none
  | .s, .s a, .s b => some (a == b)
  | _, _, _ => none
def eqCells : List SK → List AV → List AV → Option Bool
  | [], [], [] => some true
  | s :: ss, .iv a :: x, .iv b :: y =>
    match eqIV s a b, eqCells ss x y with
    | some p, some q => some (p && q)
    | _, _ => none
  | _, _, _ => none

/-- Two values of a plain type (a struct's, or a cell's): are they one? -/
def eqPlain (ks : Bool × List SK) (x y : AV) : Option Bool :=
  match ks.1, x, y with
  | true, .agg a, .agg b => eqCells ks.2 a b
  | false, .iv a, .iv b => eqCells ks.2 [.iv a] [.iv b]
  | _, _, _ => none

/-! ### slices and pointers -/
def inRange (i : Int) (n : Nat) : Option Nat := if 0 ≤ i ∧ i < n then some i.toNat else none

def indexAddr (sz : Nat) (x : AV) (i : Int) : Option AV :=
  match x with
  | .iv (.rsl _ rows) =>
    match inRange i rows.length with
    | some j => match rows[j]? with
      | some row => if row.length = sz then some (.iv (.rptr row 0)) else none
      | none => none
    | none => none
  | .sl b sz' st len _ => if sz' = sz then (inRange i len).map fun j => .ptr b sz (st + j) 0 else none
  | .asl b s k o esz len => if esz = sz then (inRange i len).map fun j => .ptr b s k (o + j * esz) else none
  | _ => none

def indexAddrA (n sz : Nat) (x : AV) (i : Int) : Option AV :=
  match x with
  | .ptr b s k o => (inRange i n).map fun j => .ptr b s k (o + j * sz)
  | .iv (.rptr row o) => (inRange i n).map fun j => .iv (.rptr row (o + j * sz))
  | _ => none

def fieldAddr (off : Nat) : AV → Option AV
  | .ptr b s k o => some (.ptr b s k (o + off))
  | .iv (.rptr row o) => some (.iv (.rptr row (o + off)))
  | _ => none

def partV (cs : List AV) (off n : Nat) (ag : Bool) : Option AV :=
  if off + n ≤ cs.length then
    if ag then some (.agg ((cs.drop off).take n)) else cs[off]?
  else none

def boundOf (t : List AV) : Option X → Option (Option Int)
  | none => some none
  | some x => match x.ev t with
    | .iv (.i _ n) => some (some n)
    | _ => none

/-- The bounds of a slice expression: low, high, and the end of its capacity. top: how far it may go. -/
def bounds (len top : Nat) (lo hi mx : Option Int) : Option (Nat × Nat × Option Nat) :=
  match mx with
  | none =>
    let h := hi.getD len
    let l := lo.getD 0
    if 0 ≤ l ∧ l ≤ h ∧ h ≤ top then some (l.toNat, h.toNat, none) else none
  | some m =>
    match hi with
    | none => none
    | some h =>
      let l := lo.getD 0
      if 0 ≤ l ∧ l ≤ h ∧ h ≤ m ∧ m ≤ top then some (l.toNat, h.toNat, some m.toNat) else none

/-- Are all rows as long? -/
def uni {α : Type} (sz : Nat) (rows : List (List α)) : Bool := rows.all fun r => r.length == sz

def sliceV (sz : Nat) (x : AV) (lo hi mx : Option Int) : Option AV :=
  match x with
  | .iv (.rsl t rows) => if uni sz rows then (bounds rows.length rows.length lo hi mx).map fun (l, h, _) => .iv (.rsl t ((rows.drop l).take (h - l))) else none
  | .sl b sz' st len cap =>
    if sz' ≠ sz then none else
    (bounds len (cap.getD len) lo hi mx).map fun (l, h, m) => .sl b sz (st + l) (h - l) (match m with | some m => some (m - l) | none => cap.map fun c => c - l)
  | _ => none

/-! ### what is owned, made read-only -/
/-- The row of a block. -/
def rowsOf (h : AH) (b sz : Nat) : Option (List (List AV)) :=
  match h.get b with
  | some (.cells s rows) => if s = sz then some rows else none
  | _ => none

/-- A read-only value that is not lent. -/
def permB : Nat → IV → Bool
  | 0, _ => false
  | n + 1, y =>
    match y with
    | .rsl .b _ => false
    | .rptr .. => false
    | .fn .. => false
    | .ifc _ _ cells => cells.all (permB n)
    | .agg l => l.all (permB n)
    | _ => true

/-- lend: for one call; else: for good. -/
def toI (h : AH) (lend : Bool) : Nat → AV → Option IV
  | 0, _ => none
  | n + 1, v =>
    match v with
    | .iv (.rsl .n r) => some (.rsl .p r)
    | .iv x => if lend || permB (n + 1) x then some x else none
    | .agg l => if lend then (mapO (toI h lend n) l).map .agg else none
    | .sl b sz st len _ =>
      (rowsOf h b sz).bind fun rows =>
        if st + len ≤ rows.length then
          (mapO (fun row => mapO (toI h lend n) row) ((rows.drop st).take len)).map (.rsl (if lend then .b else .p))
        else none
    | .ptr b sz i o =>
      if lend then (rowsOf h b sz).bind fun rows => (rows[i]?).bind fun row => (mapO (toI h lend n) row).map fun r => .rptr r o else none
    | .fn f a c => if lend then (mapO (toI h lend n) a).bind fun a' => (mapO (toI h lend n) c).map fun c' => .fn f a' c' else none
    | .asl b sz i o esz len =>
      if lend then (rowsOf h b sz).bind fun rows => (rows[i]?).bind fun row =>
        if o + len * esz ≤ row.length ∧ 0 < esz then (mapO (fun j => mapO (toI h lend n) ((row.drop (o + j * esz)).take esz)) (List.range len)).map (.rsl .b) else none
      else none
    | .ifc t (.agg l) => (mapO (toI h lend n) l).map fun l' => .ifc t true l'
    | .ifc t x => (toI h lend n x).map fun x' => .ifc t false [x']
    | _ => none

def deep : Nat := 64

def toIA (h : AH) (lend : Bool) : AV → Option AV
  | .agg l => (mapO (fun x => (toI h lend deep x).map AV.iv) l).map .agg
  | x => (toI h lend deep x).map .iv

/-- The cells of a value that lies in memory. -/
def cellsO : AV → Option (List AV)
  | .agg l => some l
  | .tup _ => none
  | .iv .any => none
  | .iv (.agg _) => none
  | .iv (.c (.agg _)) => none
  | .iv (.c (.tuple _)) => none
  | v => some [v]

def keptIds (keep : List Nat) : Nat → List AV → Option (List Nat)
  | _, [] => some []
  | k, v :: vs =>
    if k ∈ keep then match v with
      | .sl b _ _ _ _ => (keptIds keep (k + 1) vs).map fun l => b :: l
      | _ => keptIds keep (k + 1) vs
    else keptIds keep (k + 1) vs

def AH.dels (h : AH) : List Nat → AH
  | [] => h
  | b :: bs => (h.del b).dels bs

def nodupN : List Nat → Bool
  | [] => true
  | x :: xs => !(xs.contains x) && nodupN xs

/-- The cells of a result, from place k on: kept ones become new blocks (numbered from j on); h: the whole memory; g: what is not kept. -/
def harvestCells (h g : AH) (keep : List Nat) : Nat → Nat → List AV → Option (List AV × List Blk)
  | _, _, [] => some ([], [])
  | k, j, v :: vs =>
    if k ∈ keep then
      match v with
      | .sl b sz st len _ =>
        (rowsOf h b sz).bind fun rows =>
          if st + len ≤ rows.length then
            (mapO (fun row => mapO (fun x => (toI g false deep x).map AV.iv) row) ((rows.drop st).take len)).bind fun rows' =>
              (harvestCells h g keep (k + 1) (j + 1) vs).map fun (vs', bs) => (.sl j sz 0 len none :: vs', .cells sz rows' :: bs)
          else none
      | .iv (.rsl .n []) => (harvestCells h g keep (k + 1) (j + 1) vs).map fun (vs', bs) => (.sl j 0 0 0 none :: vs', .cells 0 [] :: bs)
      | _ => none
    else
      (toI g false deep v).bind fun x => (harvestCells h g keep (k + 1) j vs).map fun (vs', bs) => (.iv x :: vs', bs)

/-- A result's parts, as one list of cells, and back. -/
def flatR : AV → List AV
  | .tup l => l.flatMap fun v => match v with | .agg c => c | v => [v]
  | .agg l => l
  | v => [v]
def unflat : List AV → List AV → Option (List AV)
  | [], [] => some []
  | [], _ => none
  | .agg c :: vs, l => if c.length ≤ l.length then (unflat vs (l.drop c.length)).map fun r => .agg (l.take c.length) :: r else none
  | _ :: vs, x :: l => (unflat vs l).map fun r => x :: r
  | _ :: _, [] => none
def unflatR (v : AV) (l : List AV) : Option AV :=
  match v with
  | .tup vs => (unflat vs l).map .tup
  | .agg _ => some (.agg l)
  | _ => match l with | [x] => some x | _ => none

def harvest (h : AH) (keep : List Nat) (v : AV) : Option (AV × List Blk) :=
  (keptIds keep 0 (flatR v)).bind fun ids =>
    if nodupN ids then (harvestCells h (h.dels ids) keep 0 0 (flatR v)).bind fun (l, bs) => (unflatR v l).map fun v' => (v', bs)
    else none

/-- A result's blocks get their numbers. -/
def shiftC (n : Nat) : AV → AV
  | .sl b sz st len cap => .sl (b + n) sz st len cap
  | v => v
def shift (n : Nat) : AV → AV
  | .agg l => .agg (l.map (shiftC n))
  | .tup l => .tup (l.map fun v => match v with | .agg l => .agg (l.map (shiftC n)) | v => shiftC n v)
  | v => shiftC n v

def addAll (h : AH) : Nat → List Blk → AH
  | _, [] => h
  | b, x :: xs => addAll (h.add b x) (b + 1) xs

/-! ### operations -/
def fillA : List AV → List (Nat × List AV) → Option (List AV)
  | cs, [] => some cs
  | cs, (off, v) :: rest => if off + v.length ≤ cs.length then fillA (cs.take off ++ v ++ cs.drop (off + v.length)) rest else none

def partsOf (t : List AV) : List (Nat × Nat × X) → Option (List (Nat × List AV))
  | [] => some []
  | (off, n, x) :: rest => (cellsO (x.ev t)).bind fun c => if c.length = n then (partsOf t rest).map fun l => (off, c) :: l else none

def mnmxI (mx : Bool) (k : IntKind) : Int → List AV → Option Int
  | a, [] => some a
  | a, .iv (.i k' b) :: r => if k = k' then mnmxI mx k (if mx then (if b > a then b else a) else (if b < a then b else a)) r else none
  | _, _ => none

/-- Those that look at temporaries alone. -/
def evalP (t : List AV) : AOp → Option AV
  | .mov x => some (x.ev t)
  | .movs x => match x.ev t with | .iv (.s l) => some (.iv (.s l)) | _ => none
  | .pick c a b => match c.ev t with | .iv (.b p) => some (if p then a.ev t else b.ev t) | _ => none
  | .bin op x y => binV op (x.ev t) (y.ev t)
  | .beq neg x y => match x.ev t, y.ev t with | .iv (.b p), .iv (.b q) => some (.iv (.b ((p == q) != neg))) | _, _ => none
  | .eqn k neg x => (isNil k (x.ev t)).map fun p => .iv (.b (p != neg))
  | .eqs neg ks x y => (eqPlain ks (x.ev t) (y.ev t)).map fun p => .iv (.b (p != neg))
  | .not x => match x.ev t with | .iv (.b p) => some (.iv (.b !p)) | _ => none
  | .neg x => match x.ev t with | .iv (.i k n) => some (.iv (.i k (k.wrap (0 - n)))) | _ => none
  | .conv k x => match x.ev t with | .iv (.i _ n) => some (.iv (.i k (k.wrap n))) | _ => none
  | .fld off n ag x => match x.ev t with | .agg cs => partV cs off n ag | _ => none
  | .fad off x => fieldAddr off (x.ev t)
  | .iad sz x i => match i.ev t with | .iv (.i _ n) => indexAddr sz (x.ev t) n | _ => none
  | .iada n sz x i => match i.ev t with | .iv (.i _ j) => indexAddrA n sz (x.ev t) j | _ => none
  | .idx n sz ag x i => match i.ev t, x.ev t with
    | .iv (.i _ j), .agg cs => (inRange j n).bind fun m => partV cs (m * sz) sz ag
    | _, _ => none
  | .idxs x i => match i.ev t, x.ev t with
    | .iv (.i _ j), .iv (.s l) => (inRange j l.length).bind fun m => (l[m]?).map fun u => .iv (.i .u8 u.toNat)
    | _, _ => none
  | .ext x i => match x.ev t with | .tup l => l[i]? | _ => none
  | .bld zero parts => (partsOf t parts).bind fun ps => (fillA zero ps).map .agg
  | .slc sz x lo hi mx => (boundOf t lo).bind fun l => (boundOf t hi).bind fun h => (boundOf t mx).bind fun m => sliceV sz (x.ev t) l h m
  | .slcs x lo hi => (boundOf t lo).bind fun l => (boundOf t hi).bind fun h => match x.ev t with
    | .iv (.s u) => (bounds u.length u.length l h none).map fun (l, h, _) => .iv (.s ((u.drop l).take (h - l)))
    | _ => none
  | .slca n sz x lo hi => (boundOf t lo).bind fun l => (boundOf t hi).bind fun h => match x.ev t with
    | .iv (.rptr row o) => (bounds n n l h none).bind fun (l, h, _) =>
        if o + n * sz ≤ row.length ∧ 0 < sz then some (.iv (.rsl .b ((List.range (h - l)).map fun j => (row.drop (o + (l + j) * sz)).take sz))) else none
    | .ptr b s i o => (bounds n n l h none).map fun (l, h, _) => .asl b s i (o + l * sz) sz (h - l)
    | _ => none
  | .lens x => match x.ev t with
    | .iv (.s u) => some (.iv (.i .i64 u.length))
    | _ => none
  | .len x => match x.ev t with
    | .iv (.rsl _ rows) => some (.iv (.i .i64 rows.length))
    | .sl _ _ _ len _ => some (.iv (.i .i64 len))
    | .asl _ _ _ _ _ len => some (.iv (.i .i64 len))
    | _ => none
  | .lena n => some (.iv (.i .i64 n))
  | .cap x => match x.ev t with
    | .sl _ _ _ _ (some c) => some (.iv (.i .i64 c))
    | .iv (.rsl .n _) => some (.iv (.i .i64 0))
    | _ => none
  | .mnmx mx xs => match xs.map (X.ev t) with
    | .iv (.i k a) :: rest => (mnmxI mx k a rest).map fun r => .iv (.i k r)
    | _ => none
  | .mkif ty ag x => match ag, x.ev t with
    | true, .agg l => some (.ifc ty (.agg l))
    | false, .agg _ => none
    | false, .tup _ => none
    | false, v => some (.ifc ty v)
    | _, _ => none
  | .mkfn f first cap => some (.fn f (first.map (X.ev t)) (cap.map (X.ev t)))
  | .nchk x => match x.ev t with
    | .ptr b s i o => some (.ptr b s i o)
    | .iv (.rptr r o) => some (.iv (.rptr r o))
    | .fn f a c => some (.fn f a c)
    | .iv (.fn f a c) => some (.iv (.fn f a c))
    | .ifc ty v => some (.ifc ty v)
    | .yld l => some (.yld l)
    | _ => none
  | .tas ty ok zero x => match x.ev t with
    | .ifc ty' v => if ty' = ty then some (if ok then .tup [v, .iv (.b true)] else v) else if ok then some (.tup [zero, .iv (.b false)]) else none
    | .iv (.ifc ty' ag cells) =>
      if ty' = ty then
        (match ag, cells with
          | true, l => some (AV.agg (l.map .iv))
          | false, [y] => some (AV.iv y)
          | _, _ => none).map fun v => if ok then .tup [v, .iv (.b true)] else v
      else if ok then some (.tup [zero, .iv (.b false)]) else none
    | .iv (.c .nilIface) => if ok then some (.tup [zero, .iv (.b false)]) else none
    | _ => none
  | _ => none

def byteOf : IV → Option UInt8
  | .i .u8 n => if 0 ≤ n ∧ n < 256 then some (UInt8.ofNat n.toNat) else none
  | _ => none
def bytesOfRows (rows : List (List IV)) : Option (List UInt8) :=
  mapO (fun r => match r with | [x] => byteOf x | _ => none) rows
def bytesOfRowsA (rows : List (List AV)) : Option (List UInt8) :=
  mapO (fun r => match r with | [.iv x] => byteOf x | _ => none) rows
def byteRows (l : List UInt8) : List (List AV) := l.map fun u => [.iv (.i .u8 u.toNat)]

/-- The rows that a slice, or a string, reads. -/
def rowsRead (h : AH) (sz : Nat) : AV → Option (List (List AV))
  | .iv (.rsl _ rows) => if uni sz rows then some (rows.map fun r => r.map .iv) else none
  | .iv (.s l) => if sz = 1 then some (byteRows l) else none
  | .sl b s st len _ => if s = sz ∨ len = 0 then (if len = 0 then some [] else (rowsOf h b sz).bind fun rows => if st + len ≤ rows.length then some ((rows.drop st).take len) else none) else none
  | .iv (.c (.slice _ 0 _)) => some []
  | _ => none

def loadAt (h : AH) (n : Nat) (ag : Bool) : AV → Option AV
  | .iv (.rptr row o) => partV (row.map .iv) o n ag
  | .ptr b sz i o => (rowsOf h b sz).bind fun rows => (rows[i]?).bind fun row => partV row o n ag
  | _ => none

def findEntry (ks : Bool × List SK) (k : AV) : List (AV × AV) → Option (Option AV)
  | [] => some none
  | (k', v) :: es => match eqPlain ks k k' with
    | some true => some (some v)
    | some false => findEntry ks k es
    | none => none

/-- Those that read memory. -/
def evalR (t : List AV) (h : AH) : AOp → Option AV
  | .ld n ag x => loadAt h n ag (x.ev t)
  | .b2s x => match x.ev t with
    | .iv (.rsl _ rows) => (bytesOfRows rows).map fun l => .iv (.s l)
    | .sl b sz st len _ => if len = 0 then some (.iv (.s [])) else (rowsOf h b sz).bind fun rows => if st + len ≤ rows.length ∧ sz = 1 then (bytesOfRowsA ((rows.drop st).take len)).map fun l => .iv (.s l) else none
    | _ => none
  | .lkp ks ok zero x k => match x.ev t with
    | .mp b => match h.get b with
      | some (.mp es) => if (eqPlain ks (k.ev t) (k.ev t)).isSome then (findEntry ks (k.ev t) es).map fun r => match r with
        | some v => if ok then .tup [v, .iv (.b true)] else v
        | none => if ok then .tup [zero, .iv (.b false)] else zero
        else none
      | _ => none
    | _ => none
  | _ => none

/-- Those that lay new blocks, from number b on. -/
def evalN (t : List AV) (b : Nat) : AOp → Option (AV × List Blk)
  | .alc cells => if 0 < cells.length then some (.ptr b cells.length 0 0, [.cells cells.length [cells]]) else none
  | .box n x => (cellsO (x.ev t)).bind fun c => if c.length = n ∧ 0 < n then some (.ptr b n 0 0, [.cells n [c]]) else none
  | .bsl sz len zero parts =>
    if zero.length = sz ∧ 0 < sz ∧ len * sz ≤ 16777216 then
      (partsOf t (parts.map fun (i, x) => (i * sz, sz, x))).bind fun ps => (fillA ((List.range len).flatMap fun _ => zero) ps).map fun cs =>
        (.sl b sz 0 len none, [.cells sz ((List.range len).map fun j => (cs.drop (j * sz)).take sz)])
    else none
  | .mks sz bytes zero l c => match l.ev t, c.ev t with
    | .iv (.i _ n), .iv (.i _ m) =>
      if 0 ≤ n ∧ n ≤ m ∧ m < 1099511627776 ∧ bytes * m ≤ 35184372088832 ∧ zero.length = sz ∧ 0 < sz then
        some (.sl b sz 0 n.toNat none, [.cells sz (List.replicate m.toNat zero)])
      else none
    | _, _ => none
  | .mkm => some (.mp b, [.mp []])
  | .s2b x => match x.ev t with
    | .iv (.s l) => some (.sl b 1 0 l.length none, [.cells 1 (byteRows l)])
    | _ => none
  | _ => none

def storeAt (h : AH) (n : Nat) (p v : AV) : Option AH :=
  match p with
  | .ptr b sz i o =>
    (rowsOf h b sz).bind fun rows => (rows[i]?).bind fun row => (cellsO v).bind fun c =>
      if c.length = n ∧ o + n ≤ row.length then
        some (h.set b (.cells sz (rows.set i (row.take o ++ c ++ row.drop (o + n)))))
      else none
  | _ => none

/-- How many bytes a slice may grow to. -/
def roomy (need bytes : Nat) : Bool := need < 1099511627776 && need * bytes ≤ 35184372088832

def splice (rows : List (List AV)) (at_ : Nat) (new : List (List AV)) : List (List AV) := rows.take at_ ++ new ++ rows.drop (at_ + new.length)

/-- Append: what was there is taken over into block b. -/
def appendRows (h : AH) (sz bytes b : Nat) (x : AV) (new : List (List AV)) : Option (AV × AH) :=
  match x with
  | .iv (.rsl .n _) => if roomy new.length bytes then some (.sl b sz 0 new.length none, h.add b (.cells sz new)) else none
  | .sl b0 s st len none =>
    match h.get b0 with
    | some (.cells s' rows) =>
      if s' = s ∧ (s = sz ∨ s = 0 ∧ len = 0) ∧ st + len ≤ rows.length ∧ roomy (len + new.length) bytes then
        some (.sl b sz 0 (len + new.length) none, (h.del b0).add b (.cells sz ((rows.drop st).take len ++ new)))
      else none
    | _ => none
  | .sl b0 s st len (some c) =>
    match h.get b0 with
    | some (.cells s' rows) =>
      if s' = s ∧ s = sz ∧ st + len ≤ rows.length ∧ len + new.length ≤ c ∧ roomy (len + new.length) bytes then
        if new.isEmpty then some (.sl b0 s st len (some c), h) else some (.sl b0 s st (len + new.length) (some c), h.set b0 (.cells s (splice rows (st + len) new)))
      else none
    | _ => none
  | _ => none

/-- A map's entries, with a key's value. -/
def updEntry (ks : Bool × List SK) (k : AV) (c : AV) : List (AV × AV) → Option (List (AV × AV))
  | [] => some [(k, c)]
  | (k', v) :: es => match eqPlain ks k k' with
    | some true => some ((k, c) :: es)
    | some false => (updEntry ks k c es).map fun es' => (k', v) :: es'
    | none => none

/-- Those that write. b: the number of a block that an append lays. -/
def evalW (t : List AV) (h : AH) (b : Nat) : AOp → Option (AV × AH)
  | .st n x v => (storeAt h n (x.ev t) (v.ev t)).map fun h' => (.undef, h')
  | .frz x => match x.ev t with
    | .sl b0 s st (len + 1) cap => match h.get b0 with
      | some (.cells _ _) => some (.sl b0 s st (len + 1) cap, h)
      | _ => none
    | _ => none
  | .app sz bytes x y => (rowsRead h sz (y.ev t)).bind fun new => appendRows h sz bytes b (x.ev t) new
  | .appz sz bytes zero x n => match n.ev t with
    | .iv (.i _ m) => if 0 ≤ m ∧ m < 1099511627776 ∧ zero.length = sz ∧ 0 < sz then appendRows h sz bytes b (x.ev t) (List.replicate m.toNat zero) else none
    | _ => none
  | .cpy sz x y => (rowsRead h sz (y.ev t)).bind fun src => match x.ev t with
    | .sl b0 s st len _ =>
      if len = 0 then some (.iv (.i .i64 0), h) else
      (rowsOf h b0 sz).bind fun rows =>
        if s = sz ∧ st + len ≤ rows.length then
          some (.iv (.i .i64 (min src.length len)), h.set b0 (.cells sz (splice rows st (src.take len))))
        else none
    | _ => none
  | .clr sz zero x => match x.ev t with
    | .sl b0 s st len _ =>
      if len = 0 then some (.undef, h) else
      (rowsOf h b0 sz).bind fun rows =>
        if s = sz ∧ st + len ≤ rows.length ∧ zero.length = sz then some (.undef, h.set b0 (.cells sz (splice rows st (List.replicate len zero)))) else none
    | _ => none
  | .mup ks x k v => match x.ev t with
    | .mp b0 => match h.get b0 with
      | some (.mp es) => if (eqPlain ks (k.ev t) (k.ev t)).isSome then (updEntry ks (k.ev t) (v.ev t) es).map fun es' => (.undef, h.set b0 (.mp es')) else none
      | _ => none
    | _ => none
  | _ => none

/-- What a function value is: whom it calls, and what goes ahead of, and behind, the arguments. -/
def calleeOf : AV → Option (Callee × List AV × List AV)
  | .fn f first cap => some (.fn f, first, cap)
  | .iv (.fn f first cap) => some (.fn f, first.map iv2a, cap.map iv2a)
  | .yld l => some (.yld l, [], [])
  | _ => none

/-- A call by itself: on no memory. -/
def isoCall (rec : Rec) (keep : List Nat) (h : AH) (f : Callee) (args : List AV) : Option (AV × List Blk) :=
  (mapO (toIA h true) args).bind fun args' => (rec f args' .empty).bind fun (v, h') => (harvest h' keep v).bind fun r => if r.2.length ≤ keep.length then some r else none

def shCall (rec : Rec) (all : Bool) (h : AH) (f : Callee) (args : List AV) : Option (AV × AH) :=
  (rec f args h).map fun (v, h') => (v, if all then h' else h'.cut h.next)

def methodIn : List (Nat × Nat × Option (Nat × Bool)) → Nat → Option (Nat × Option (Nat × Bool))
  | [], _ => none
  | (ty, r) :: l, t => if ty = t then some r else methodIn l t

/-- A method's receiver. -/
def recvA (h : AH) (dr : Option (Nat × Bool)) (v0 : AV) : Option AV :=
  match dr with
  | none => some v0
  | some (n, ag) => loadAt h n ag v0

/-- One operation: what it gives, the memory behind it, and the deferred calls. base: where the region's numbers begin. -/
def opV (rec : Rec) (base : Nat) (o : AOper) (s : St) : Option (AV × AH × List (AV × List AV)) :=
  match o.op with
  | .call m f args =>
    (calleeOf (f.ev s.t)).bind fun (c, first, cap) =>
      let as := first ++ args.map (X.ev s.t) ++ cap
      match m with
      | .iso keep => (isoCall rec keep s.h c as).map fun (v, bs) => (shift (base + o.k) v, addAll s.h (base + o.k) bs, s.d)
      | .sh all => (shCall rec all s.h c as).map fun (v, h') => (v, h', s.d)
  | .inv m _ tab x args =>
    (match x.ev s.t with
      | .ifc ty v => some (ty, v)
      | .iv (.ifc ty false [y]) => some (ty, .iv y)
      | .iv (.ifc ty true l) => some (ty, .agg (l.map .iv))
      | _ => none).bind fun (ty, v0) => (methodIn tab ty).bind fun (f, dr) => (recvA s.h dr v0).bind fun v =>
      let as := v :: args.map (X.ev s.t)
      match m with
      | .iso keep => (isoCall rec keep s.h (.fn f) as).map fun (v, bs) => (shift (base + o.k) v, addAll s.h (base + o.k) bs, s.d)
      | .sh all => (shCall rec all s.h (.fn f) as).map fun (v, h') => (v, h', s.d)
  | .dfr f args => if s.rd || (calleeOf (f.ev s.t)).isNone then none else some (.undef, s.h, (f.ev s.t, args.map (X.ev s.t)) :: s.d)
  | op => match op.cls with
    | .P => (evalP s.t op).map fun v => (v, s.h, s.d)
    | .R => (evalR s.t s.h op).map fun v => (v, s.h, s.d)
    | .N => (evalN s.t (base + o.k) op).map fun (v, bs) => (v, addAll s.h (base + o.k) bs, s.d)
    | .W => (evalW s.t s.h (base + o.k) op).map fun (v, h') => (v, h', s.d)

/-! ### are two values one? -/
mutual
def eqIVs : IV → IV → Bool
  | .any, .any => true
  | .b x, .b y => x == y
  | .i k x, .i l y => k == l && x == y
  | .s x, .s y => x == y
  | .rsl t x, .rsl u y => t == u && eqIVrows x y
  | .rptr x i, .rptr y j => i == j && eqIVl x y
  | .fn f a c, .fn g b d => f == g && eqIVl a b && eqIVl c d
  | .ifc t a x, .ifc u b y => t == u && a == b && eqIVl x y
  | .agg x, .agg y => eqIVl x y
  | _, _ => false
def eqIVl : List IV → List IV → Bool
  | [], [] => true
  | x :: xs, y :: ys => eqIVs x y && eqIVl xs ys
  | _, _ => false
def eqIVrows : List (List IV) → List (List IV) → Bool
  | [], [] => true
  | x :: xs, y :: ys => eqIVl x y && eqIVrows xs ys
  | _, _ => false
end
mutual
def eqAV : AV → AV → Bool
  | .iv x, .iv y => eqIVs x y
  | .agg x, .agg y => eqAVl x y
  | .tup x, .tup y => eqAVl x y
  | .ptr a b c d, .ptr a' b' c' d' => a == a' && b == b' && c == c' && d == d'
  | .sl a b c d e, .sl a' b' c' d' e' => a == a' && b == b' && c == c' && d == d' && e == e'
  | .fn f a c, .fn g b d => f == g && eqAVl a b && eqAVl c d
  | .yld a, .yld b => a == b
  | .ifc t x, .ifc u y => t == u && eqAV x y
  | .mp a, .mp b => a == b
  | _, _ => false
def eqAVl : List AV → List AV → Bool
  | [], [] => true
  | x :: xs, y :: ys => eqAV x y && eqAVl xs ys
  | _, _ => false
end

def guardOf (t : List AV) : Option (Nat × Bool) → Option Bool
  | none => some true
  | some (g, b) => match t.getD g (.iv .any) with
    | .iv (.b x) => some (x == b)
    | .tup [] => some false
    | _ => none

/-- Does it still read the same? -/
def recheck (t : List AV) (h : AH) (r : Option Nat × Option (Nat × Bool) × AOp) : Bool :=
  match guardOf t r.2.1 with
  | some true => match evalR t h r.2.2 with
    | some v => match r.1 with
      | some n => eqAV v (t.getD n (.iv .any))
      | none => true
    | none => false
  | some false => true
  | none => false

def exec1 (rec : Rec) (base : Nat) (o : AOper) (s : St) : Option St :=
  match guardOf s.t o.g with
  | some true => (opV rec base o s).bind fun (v, h, d) => if o.re.all (recheck (setD s.t o.d v) h) then some { s with t := setD s.t o.d v, h := h, d := d } else none
  | some false => some { s with t := setD s.t o.d .undef }
  | none => none

def execs (rec : Rec) (base : Nat) : List AOper → St → Option St
  | [], s => some s
  | o :: os, s => (exec1 rec base o s).bind (execs rec base os)

/-! ### code -/
def forgetT : List Nat → List AV → List AV
  | [], t => t
  | n :: ns, t => forgetT ns (t.set n (.iv .any))

def loopN (f : St → Option (Ex × St)) : Nat → St → Option (Ex × St)
  | 0, _ => none
  | n + 1, s => (f s).bind fun (e, s') => match e with
    | .nrm => loopN f n s'
    | e => some (e, s')

/-- Code behind a label, as often as it is jumped to. -/
def jumpN (l : Nat) (f : St → Option (Ex × St)) : Nat → Ex × St → Option (Ex × St)
  | 0, _ => none
  | n + 1, (e, s) => match e with
    | .goto l' => if l' = l then (f s).bind (jumpN l f n) else some (e, s)
    | e => some (e, s)

def setPs : List Nat → List AV → List AV → List AV
  | p :: ps, v :: vs, t => setPs ps vs (t.set p v)
  | _, _, t => t

def run (rec : Rec) (n : Nat) : ACode → St → Option (Ex × St)
  | .skip, s => some (.nrm, s)
  | .label, s => some (.nrm, s)
  | .reg k ops, s => (execs rec s.h.next ops { s with h := s.h.bump k }).map fun s' => (.nrm, s')
  | .seq a b, s => (run rec n a s).bind fun (e, s') => match e with
    | .nrm => run rec n b s'
    | e => some (e, s')
  | .cond x a b, s => match x.ev s.t with
    | .iv (.b p) => if p then run rec n a s else run rec n b s
    | _ => none
  | .blk id c, s => (run rec n c s).map fun (e, s') => (if e = .exit id then .nrm else e, s')
  | .loop c, s => loopN (run rec n c) n s
  | .exit id, s => some (.exit id, s)
  | .goto l, s => some (.goto l, s)
  | .ret, s => some (.ret, s)
  | .scope c l rest, s => (run rec n c s).bind (jumpN l (run rec n rest) n)
  | .forget ts, s => some (.nrm, { s with t := forgetT ts s.t })
  | .rng x ps assign body, s =>
    if s.rd then none else
    (calleeOf (x.ev s.t)).bind fun (c, first, cap) =>
      match c with
      | .yld _ => none
      | .fn f =>
        let l := s.h.next
        let h1 := (s.h.bump 1).add l (.lp { t := s.t, ps, assign, body, st := .ready, pend := none })
        (rec (.fn f) (first ++ [.yld l] ++ cap) h1).bind fun (_, h2) => match h2.get l with
          | some (.lp r) => if r.st = .busy then none else some (r.pend.getD .nrm, { s with h := h2.del l })
          | _ => none

/-- A function, as the evaluator has it. -/
inductive RV where
  | t (n : Nat)
  | c (a n : Nat) (ag : Bool)
  deriving Inhabited

structure AFn where
  ntmps : Nat
  res : List RV
  body : ACode
  deriving Inhabited

def resVal (s : St) : RV → Option AV
  | .t n => some (s.t.getD n (.iv .any))
  | .c a n ag => loadAt s.h n ag (s.t.getD a (.iv .any))

def results (s : St) : List RV → Option AV
  | [r] => resVal s r
  | rs => (mapO (resVal s) rs).map .tup

structure Tab where
  fn : Nat → Option AFn
  prim : Nat → Option (List AV → AH → Option (AV × AH))
  dprim : Nat → Option (List AV → AH → Option AH)

/-- Code without a range over a function. -/
def noRng : ACode → Bool
  | .seq a b => noRng a && noRng b
  | .cond _ a b => noRng a && noRng b
  | .blk _ c => noRng c
  | .loop c => noRng c
  | .scope a _ b => noRng a && noRng b
  | .rng .. => false
  | _ => true

def start (fn : AFn) (args : List AV) (h : AH) : St := { t := args ++ List.replicate (fn.ntmps - args.length) .undef, h := h, d := [], rd := false }

/-- A deferred call. -/
def callD (T : Tab) (rec : Rec) (n : Nat) : Callee → List AV → AH → Option AH
  | .fn f, args, h =>
    match T.dprim f with
    | some p => p args h
    | none => (T.fn f).bind fun fn =>
      if noRng fn.body then
        (run rec n fn.body (start fn args h)).bind fun (e, s) =>
          match e, s.d with
          | .nrm, [] | .ret, [] => (results s fn.res).map fun _ => s.h
          | _, _ => none
      else none
  | .yld _, _, _ => none

/-- The deferred calls, the last one first. -/
def defers (cd : Callee → List AV → AH → Option AH) : List (AV × List AV) → AH → Option AH
  | [], h => some h
  | (f, args) :: ds, h => (calleeOf f).bind fun (c, first, cap) => (cd c (first ++ args ++ cap) h).bind fun h' => defers cd ds h'

def call (T : Tab) : Nat → Rec
  | 0, _, _, _ => none
  | n + 1, .fn f, args, h =>
    match T.prim f with
    | some p => p args h
    | none => (T.fn f).bind fun fn =>
      (run (call T n) n fn.body (start fn args h)).bind fun (e, s) =>
        match e with
        | .nrm | .ret => (defers (callD T (call T n) n) s.d s.h).bind fun h' => (results { s with h := h' } fn.res).map fun v => (v, h')
        | _ => none
  | n + 1, .yld l, args, h =>
    match h.get l with
    | some (.lp r) =>
      if r.st = .ready ∧ args.length = r.ps.length then
        (run (call T n) n r.assign { t := setPs r.ps args r.t, h := h, d := [], rd := true }).bind fun (e, s) =>
          match e with
          | .nrm =>
            match s.h.get l with
            | some (.lp r1) =>
              if r1.st = .ready then
                (run (call T n) n r.body { s with h := s.h.set l (.lp { r1 with st := .busy }) }).bind fun (e', s') =>
                  match s'.h.get l with
                  | some (.lp r') => some (.iv (.b (e' = .nrm)), s'.h.set l (.lp { r' with st := if e' = .nrm then .ready else .done, pend := if e' = .nrm then none else some e' }))
                  | _ => none
              else none
            | _ => none
          | _ => none
      else none
    | _ => none

end Go.Eng

/- The engine, part 2: abstract code out of the loaded code. -/
namespace Go.Eng

mutual
def ofVal : Value → AV
  | .bool b => .iv (.b b)
  | .int k n => .iv (.i k n)
  | .string s => .iv (.s s.data.toList)
  | .slice none 0 0 => .iv (.rsl .n [])
  | .agg ⟨l⟩ => .agg (ofVals l)
  | .tuple ⟨l⟩ => .tup (ofVals l)
  | .func (.func f) ⟨a⟩ ⟨c⟩ => .fn f (ofVals a) (ofVals c)
  | v => .iv (.c v)
def ofVals : List Value → List AV
  | [] => []
  | v :: vs => ofVal v :: ofVals vs
end

mutual
/-- May a constant stand in abstract code? -/
def okVal : Value → Bool
  | .agg ⟨l⟩ => okLeaves l
  | .tuple ⟨l⟩ => okVals l
  | .func (.func _) ⟨a⟩ ⟨c⟩ => okVals a && okVals c
  | _ => true
def okVals : List Value → Bool
  | [] => true
  | v :: vs => okVal v && okVals vs
def okLeaves : List Value → Bool
  | [] => true
  | .agg _ :: _ => false
  | .tuple _ :: _ => false
  | v :: vs => okVal v && okLeaves vs
end

def cX : Operand → Option X
  | .tmp t => some (.t t)
  | .const v => if okVal v then some (.c (ofVal v)) else none
  | .func f => some (.c (.fn f [] []))
  | .global _ => none

structure Cfg where
  mode : Nat → CMode
  dyn : Nat → CMode

/-- A value's cells. -/
def cellsA : AV → List AV
  | .agg l => l
  | v => [v]

def sizeT (P : Program) (t : TypeId) : Option Nat := (P.info? t).map (·.size)
def bytesT (P : Program) (t : TypeId) : Option Nat := (P.info? t).map (·.bytes)
def isTup : Value → Bool
  | .tuple _ => true
  | _ => false
def zeroT (P : Program) (t : TypeId) : Option AV := ((P.info? t).bind (·.zero)).bind fun v => if okVal v && !isTup v then some (ofVal v) else none
def aggT (P : Program) (t : TypeId) : Option Bool := (P.underlying t).map fun d => match d with | .struct _ | .array _ _ => true | _ => false
def fieldT (P : Program) (t : TypeId) (f : Nat) : Option Field := match P.underlying t with | some (.struct fs) => fs[f]? | _ => none

/-- A comparison with nil: of which kind of value. -/
def nilK (P : Program) (t : TypeId) : Operand → Option NilK
  | .const (.slice none 0 0) => match P.underlying t with | some (.slice _) => some .sl | _ => none
  | .const (.pointer none) => match P.underlying t with | some (.pointer _) => some .pt | _ => none
  | .const .nilFunc => match P.underlying t with | some (.func ..) => some .fn | _ => none
  | .const .nilIface => match P.underlying t with | some (.interface _) => some .ifc | _ => none
  | .const (.map none) => match P.underlying t with | some (.map ..) => some .mp | _ => none
  | _ => none

def scalT (P : Program) (t : TypeId) : Option SK :=
  match P.underlying t with
  | some .bool => some .b
  | some (.int _) => some .i
  | some .string => some .s
  | _ => none
def plainFs (P : Program) : Nat → List Field → Option (List SK)
  | _, [] => some []
  | i, f :: fs => if f.name != "_" && f.offset == i then (scalT P f.type).bind fun k => (plainFs P (i + 1) fs).map fun ks => k :: ks else none
/-- A struct whose cells are numbers, bools or strings, none of them blank, in order; or such a cell alone: their kinds. -/
def plainT (P : Program) (t : TypeId) : Option (Bool × List SK) :=
  match P.underlying t with
  | some (.struct fs) => if P.stoodInHeld t then none else (plainFs P 0 fs.toList).map fun ks => (true, ks)
  | _ => (scalT P t).map fun k => (false, [k])

def cParts (P : Program) (t : TypeId) (parts : Array (Nat × Operand)) : Option (List (Nat × Nat × X)) :=
  match P.underlying t with
  | some (.struct fs) => (mapO (fun f => sizeT P f.type) fs.toList).bind fun _ => mapO (fun (i, x) => (fs[i]?).bind fun f => (sizeT P f.type).bind fun n => (cX x).map fun y => (f.offset, n, y)) parts.toList
  | some (.array _ e) => (sizeT P e).bind fun n => mapO (fun (i, x) => (cX x).map fun y => (i * n, n, y)) parts.toList
  | _ => none

def cBuiltin (P : Program) (b : Builtin) (tys : Array TypeId) (args : List X) : Option AOp :=
  match b, args with
  | .len, [x] => match (tys[0]?).bind P.underlying with
    | some .string => some (.lens x)
    | some (.slice _) => some (.len x)
    | some (.array n _) => some (.lena n)
    | some (.pointer a) => match P.underlying a with | some (.array n _) => some (.lena n) | _ => none
    | _ => none
  | .cap, [x] => match (tys[0]?).bind P.underlying with
    | some (.slice _) => some (.cap x)
    | _ => none
  | .append, [x, y] => match (tys[0]?).bind P.underlying with
    | some (.slice e) => (sizeT P e).bind fun sz => (bytesT P e).bind fun bs => (zeroT P e).bind fun z => if (cellsA z).length ≠ sz then none else match (tys[1]?).bind P.underlying with
      | some (.int _) => some (.appz sz bs (cellsA z) x y)
      | some (.slice _) | some .string => some (.app sz bs x y)
      | _ => none
    | _ => none
  | .copy, [x, y] => match (tys[0]?).bind P.underlying with
    | some (.slice e) => (sizeT P e).map fun sz => .cpy sz x y
    | _ => none
  | .clear, [x] => match (tys[0]?).bind P.underlying with
    | some (.slice e) => (sizeT P e).bind fun sz => (zeroT P e).map fun z => .clr sz (cellsA z) x
    | _ => none
  | .max, xs => some (.mnmx true xs)
  | .min, xs => some (.mnmx false xs)
  | _, _ => none

/-- Whom a call of an interface's method leads to, of each type that has it itself. -/
def methodsOf (P : Program) (name : String) : List (Nat × Nat × Option (Nat × Bool)) :=
  (List.range P.types.size).filterMap fun t =>
    ((P.info? t).bind fun i => i.methods.find? (·.name == name)).bind fun m =>
      if m.path.isEmpty then m.func.bind fun (f, pr) =>
        match P.underlying t, pr with
        | some (.pointer _), true => some (t, f, none)
        | some (.pointer e), false => (sizeT P e).bind fun n => (aggT P e).map fun ag => (t, f, some (n, ag))
        | some _, false => some (t, f, none)
        | _, _ => none
      else none

def optX : Option Operand → Option (Option X)
  | none => some none
  | some x => (cX x).map some

def cOp (P : Program) (cfg : Cfg) (g : Nat) (o : Oper) : Option AOp :=
  match o.op with
  | .move x | .assign x => (cX x).map .mov
  | .pick c a b => (cX c).bind fun c => (cX a).bind fun a => (cX b).map fun b => .pick c a b
  | .alloc t => (zeroT P t).map fun z => .alc (cellsA z)
  | .box t x => (sizeT P t).bind fun n => (cX x).map fun x => .box n x
  | .build t parts => match zeroT P t with
    | some (.agg l) => (cParts P t parts).map fun ps => .bld l ps
    | _ => none
  | .buildSlice t len parts => match P.underlying t with
    | some (.slice e) => (sizeT P e).bind fun sz => (zeroT P e).bind fun z => (mapO (fun (i, x) => (cX x).map fun y => (i, y)) parts.toList).map fun ps => .bsl sz len (cellsA z) ps
    | _ => none
  | .load t x => (sizeT P t).bind fun n => (aggT P t).bind fun ag => (cX x).map fun x => .ld n ag x
  | .store t x v => (sizeT P t).bind fun n => (cX x).bind fun x => (cX v).map fun v => .st n x v
  | .nilCheck x => (cX x).map .nchk
  | .binOp op t x y _ =>
    if op == .eql || op == .neq then
      match nilK P t y with
      | some k => (cX x).map fun z => .eqn k (op == .neq) z
      | none => match P.underlying t with
        | some (.int _) | some .string => (cX x).bind fun x => (cX y).map fun y => .bin op x y
        | some .bool => (cX x).bind fun x => (cX y).map fun y => .beq (op == .neq) x y
        | some (.struct _) => (plainT P t).bind fun ks => if P.eqGuardType P.depth t then none else (cX x).bind fun x => (cX y).map fun y => .eqs (op == .neq) ks x y
        | _ => none
    else (cX x).bind fun x => (cX y).map fun y => .bin op x y
  | .unOp op _ x => match op with
    | .not => (cX x).map .not
    | .neg => (cX x).map .neg
    | _ => none
  | .convert s d x => match P.underlying s, P.underlying d with
    | some (.int _), some (.int k) => (cX x).map fun x => .conv k x
    | some .string, some .string => (cX x).map .movs
    | some .string, some (.slice e) => match P.underlying e with | some (.int .u8) => (cX x).map .s2b | _ => none
    | some (.slice e), some .string => match P.underlying e with | some (.int .u8) => (cX x).map .b2s | _ => none
    | some (.slice e), some (.slice e') => if s = d ∧ e = e' then match P.underlying e with | some (.int .u8) => (cX x).map .frz | _ => none else none
    | _, _ => none
  | .makeInterface t x => match P.underlying t with
    | some (.interface _) => none
    | _ => (aggT P t).bind fun ag => (cX x).map fun x => .mkif t ag x
  | .makeFunc (.func f) first cap => (mapO cX first.toList).bind fun a => (mapO cX cap.toList).map fun c => .mkfn f a c
  | .makeMap _ none => some .mkm
  | .makeSlice t l c => match P.underlying t with
    | some (.slice e) => (sizeT P e).bind fun sz => (bytesT P e).bind fun bs => (zeroT P e).bind fun z => (cX l).bind fun l => (cX c).map fun c => .mks sz bs (cellsA z) l c
    | _ => none
  | .slice t x lo hi mx => (cX x).bind fun x => (optX lo).bind fun lo => (optX hi).bind fun hi => (optX mx).bind fun mx => match P.underlying t with
    | some .string => if mx.isSome then none else some (.slcs x lo hi)
    | some (.slice e) => (sizeT P e).map fun sz => .slc sz x lo hi mx
    | some (.array n e) => if mx.isSome then none else (sizeT P e).map fun sz => .slca n sz x lo hi
    | _ => none
  | .fieldAddr t x f => (fieldT P t f).bind fun fd => (sizeT P fd.type).bind fun n => if n = 0 then none else (cX x).map fun x => .fad fd.offset x
  | .field t x f => (fieldT P t f).bind fun fd => (sizeT P fd.type).bind fun n => (aggT P fd.type).bind fun ag => (cX x).map fun x => .fld fd.offset n ag x
  | .indexAddr t x i => (cX x).bind fun x => (cX i).bind fun i => match P.underlying t with
    | some (.slice e) => (sizeT P e).map fun sz => .iad sz x i
    | some (.array n e) => (sizeT P e).map fun sz => .iada n sz x i
    | _ => none
  | .index t x i => (cX x).bind fun x => (cX i).bind fun i => match P.underlying t with
    | some .string => some (.idxs x i)
    | some (.array n e) => (sizeT P e).bind fun sz => (aggT P e).map fun ag => .idx n sz ag x i
    | _ => none
  | .lookup t x k ok => match P.underlying t with
    | some (.map kt e) => (plainT P kt).bind fun ks => (zeroT P e).bind fun z => (cX x).bind fun x => (cX k).map fun k => .lkp ks ok z x k
    | _ => none
  | .mapUpdate t x k v | .insert t x k v => match P.underlying t with
    | some (.map kt _) => (plainT P kt).bind fun ks => (cX x).bind fun x => (cX k).bind fun k => (cX v).map fun v => .mup ks x k v
    | _ => none
  | .typeAssert x _ t ok => match P.underlying t with
    | some (.interface _) => none
    | some _ => (zeroT P t).bind fun z => (cX x).map fun x => .tas t ok z x
    | none => none
  | .extract x i => (cX x).map fun x => .ext x i
  | .call c => (mapO cX c.args.toList).bind fun args => match c.callee with
    | .value f => (cX f).map fun x => .call (match f with | .func k => cfg.mode k | _ => cfg.dyn g) x args
    | .builtin b => cBuiltin P b c.argTypes args
    | .invoke r name => (cX r).map fun x => .inv (cfg.dyn g) name (methodsOf P name) x args
  | .defer c => (mapO cX c.args.toList).bind fun args => match c.callee with
    | .value f => (cX f).map fun x => .dfr x args
    | _ => none
  | _ => none

/-- How many numbers an operation takes. -/
def AOp.takes : AOp → Nat
  | .alc .. | .box .. | .bsl .. | .mks .. | .mkm | .s2b .. | .app .. | .appz .. => 1
  | .call (.iso keep) .. => keep.length
  | .inv (.iso keep) .. => keep.length
  | _ => 0

def dstOf (ops : Array Oper) (j : Nat) : Option Nat := (ops[j]?).bind (·.dst)

/-- The operations of a region, in the order of the numbers. -/
def cOpers (P : Program) (cfg : Cfg) (g : Nat) (ops : Array Oper) (re : Nat → List (Option Nat × Option (Nat × Bool) × AOp)) : Nat → List Nat → Option (Nat × List AOper)
  | k, [] => some (k, [])
  | k, i :: is => (ops[i]?).bind fun o => (some ((cOp P cfg g o).getD .bad)).bind fun op =>
    (match o.guard with
      | none => some none
      | some (j, b) => (dstOf ops j).map fun d => some (d, b)).bind fun gd =>
    (cOpers P cfg g ops re (k + op.takes) is).map fun (n, l) => (n, { d := o.dst, g := gd, k := k, op := op, re := re i } :: l)

/-! ### where the order is not fixed -/
def aftersOf (ops : Array Oper) (i : Nat) : List Nat := match ops[i]? with
  | some o => (o.after.toList.filter (Region.binds .any)).map (·.on)
  | none => []
def aopOf (P : Program) (cfg : Cfg) (g : Nat) (ops : Array Oper) (i : Nat) : AOp := ((ops[i]?).bind (cOp P cfg g)).getD .bad
def useOf (P : Program) (cfg : Cfg) (g : Nat) (ops : Array Oper) (i : Nat) : List Nat := (aopOf P cfg g ops i).use ++ (match (ops[i]?).bind (·.guard) with | some (j, _) => (match dstOf ops j with | some d => [d] | none => []) | none => [])

def greedyN (aft : Nat → List Nat) (w : Nat → Bool) : Nat → List Nat → List Nat → List Nat
  | 0, _, acc => acc.reverse
  | n + 1, rest, acc =>
    let rdy := rest.filter fun i => (aft i).all acc.contains
    match (rdy.find? fun i => !w i).orElse fun _ => rdy.head? with
    | some i => greedyN aft w n (rest.erase i) (i :: acc)
    | none => acc.reverse

def lookN (l : List (Nat × List Nat)) (i : Nat) : List Nat := (l.lookup i).getD []
def reachN (aft : Nat → List Nat) : List Nat → List (Nat × List Nat) → List (Nat × List Nat)
  | [], acc => acc
  | i :: is, acc => reachN aft is ((i, ((aft i) ++ (aft i).flatMap (lookN acc)).eraseDups) :: acc)

/-- j is ahead of i in our order: is that as good as any? -/
def pairOk (dst : Nat → Option Nat) (use : Nat → List Nat) (kind : Nat → Cls) (R : Nat → List Nat) (j i : Nat) : Bool :=
  ((match dst i with | some d => !(use j).contains d && dst j != some d | none => true) || (kind i == .W && (R i).contains j)) &&
  ((R i).contains j || (kind j != .W && (match dst j with | some d => !(use i).contains d | none => true)))

def chkOrd (aft : Nat → List Nat) (ok : Nat → Nat → Bool) : List Nat → List Nat → Bool
  | _, [] => true
  | p, i :: q => (aft i).all p.contains && p.all (fun j => ok j i) && !p.contains i && chkOrd aft ok (i :: p) q

def chkReach (aft : Nat → List Nat) (R : Nat → List Nat) (ord : List Nat) : Bool :=
  ord.all fun i => (R i).all fun j => (aft i).contains j || (aft i).any fun e => (R e).contains j

/-- A table of a function's values at the first numbers. -/
def memo {α : Type} (d : α) (n : Nat) (f : Nat → α) : Nat → α := let l := (List.range n).map f; fun i => l.getD i d

/-- What an operation is; those that give a temporary a new value, which others look at ahead of it, count as those that write. -/
def kindOf (P : Program) (cfg : Cfg) (g : Nat) (ops : Array Oper) (i : Nat) : Cls :=
  match dstOf ops i with
  | some d => if (useOf P cfg g ops i).contains d || (List.range i).any (fun j => (useOf P cfg g ops j).contains d || dstOf ops j == some d) then .W else (aopOf P cfg g ops i).kind
  | none => (aopOf P cfg g ops i).kind

/-- A region whose order is not fixed: in one order; none, if that may not stand for all. -/
def cDraw (P : Program) (cfg : Cfg) (g : Nat) (ops : Array Oper) : Option (Nat × List AOper) :=
  let n := ops.size
  let aft := aftersOf ops
  let dst := dstOf ops
  let use := useOf P cfg g ops
  let kind := kindOf P cfg g ops
  let ord := greedyN aft (fun i => kind i == .W) n (List.range n) []
  let R := lookN (reachN aft ord [])
  if (List.range n).all ord.contains && ord.all (fun i => decide (i < n)) && chkReach aft R ord && chkOrd aft (pairOk dst use kind R) [] ord then
    cOpers P cfg g ops (fun i => match aopOf P cfg g ops i with
      | .call (.iso _) .. => []
      | op => if op.kind == .W then (((ord.takeWhile (· != i)).filter fun j => kind j == .R && !(R i).contains j).filterMap fun j => (ops[j]?).bind fun o =>
          (match o.guard with
            | none => some none
            | some (j, b) => (dstOf ops j).map fun d => some (d, b)).map fun gd => (o.dst, gd, aopOf P cfg g ops j)) else []) 0 ord
  else none

def cReg (P : Program) (cfg : Cfg) (g : Nat) (ops : Array Oper) (draw : Bool) : Option (Nat × List AOper) :=
  if draw then cDraw P cfg g ops else cOpers P cfg g ops (fun _ => []) 0 (List.range ops.size)

def labels : Code → List Nat
  | .seq a b => labels a ++ labels b
  | .cond _ a b => labels a ++ labels b
  | .block _ c => labels c
  | .loop c => labels c
  | .label l => [l]
  | _ => []

def cCodeG (sc : Code → Option ACode) (P : Program) (cfg : Cfg) (g : Nat) : Code → Option ACode
  | .skip => some .skip
  | .region _ ops draw => (cReg P cfg g ops draw).map fun (n, l) => .reg n l
  | .seq a b => (cCodeG sc P cfg g a).bind fun a => (cCodeG sc P cfg g b).map fun b => .seq a b
  | .cond x a b => (cX x).bind fun x => (cCodeG sc P cfg g a).bind fun a => (cCodeG sc P cfg g b).map fun b => .cond x a b
  | .block id c => (cCodeG sc P cfg g c).map (.blk id)
  | .loop c => (cCodeG sc P cfg g c).map .loop
  | .exit id => some (.exit id)
  | .goto l => some (.goto l)
  | .label _ => some .label
  | .ret => some .ret
  | .rangeFunc x ps assign body => (cX x).bind fun x => (cCodeG sc P cfg g assign).bind fun a => (cCodeG sc P cfg g body).map fun b => .rng x ps.toList a b
  | .scope c => sc c
  | _ => none

def cCode0 (P : Program) (cfg : Cfg) (g : Nat) : Code → Option ACode := cCodeG (fun _ => none) P cfg g
/-- A scope of one label. -/
def cScope (P : Program) (cfg : Cfg) (g : Nat) (c : Code) : Option ACode :=
  match labels c with
  | [] => cCode0 P cfg g c
  | [l] => (findLabel c l).bind fun r => (cCode0 P cfg g c).bind fun a => (cCode0 P cfg g r).map fun b => .scope a l b
  | _ => none
def cCode (P : Program) (cfg : Cfg) (g : Nat) : Code → Option ACode := cCodeG (cScope P cfg g) P cfg g

def cRes (P : Program) : ResultVar → Option RV
  | .tmp t => some (.t t)
  | .cell a t => (sizeT P t).bind fun n => (aggT P t).map fun ag => .c a n ag

def cFn (P : Program) (cfg : Cfg) (g : Nat) (f : Func) : Option AFn :=
  (f.body).bind fun c => (cCode P cfg g c).bind fun body => (mapO (cRes P) f.results.toList).map fun res => { ntmps := f.ntmps, res, body }

/-! ### functions of the library that are taken whole -/
/-- bytes.Clone, slices.Clone, at elements of so many cells. -/
def primClone (sz bytes : Nat) : List AV → AH → Option (AV × AH)
  | [x], h =>
    match x with
    | .iv (.s _) => none
    | x => (rowsRead h sz x).bind fun rows => if roomy rows.length bytes then some (.sl (h.next + 1) sz 0 rows.length none, (((h.bump 2).add h.next (.cells sz [])).del h.next).add (h.next + 1) (.cells sz rows)) else none
  | _, _ => none

def cmpBytes : List UInt8 → List UInt8 → Int
  | [], [] => 0
  | [], _ :: _ => -1
  | _ :: _, [] => 1
  | a :: x, b :: y => if a < b then -1 else if b < a then 1 else cmpBytes x y

def primCompare : List AV → AH → Option (AV × AH)
  | [.iv (.rsl _ a), .iv (.rsl _ b)], h => (bytesOfRows a).bind fun l => (bytesOfRows b).map fun m => (.iv (.i .i64 (cmpBytes l m)), h)
  | _, _ => none

/-- slices.Delete. -/
def primDelete (sz bytes : Nat) : List AV → AH → Option (AV × AH)
  | [.sl b s st len _, .iv (.i .i64 i), .iv (.i .i64 j)], h =>
    (rowsOf h b s).bind fun rows =>
      if s = sz ∧ 0 < sz ∧ st + len ≤ rows.length ∧ 0 ≤ i ∧ i ≤ j ∧ j ≤ len ∧ roomy len bytes then
        let l := (rows.drop st).take len
        some (.sl b s st (len - (j - i).toNat) none, (h.bump 1).set b (.cells s (rows.take st ++ l.take i.toNat ++ l.drop j.toNat)))
      else none
  | _, _ => none

end Go.Eng

/- The engine, part 3: what an abstract value, and an abstract memory, say of a value, and a world, of the model. -/
namespace Go.Eng

/-- A value of one cell. -/
def leafV : Value → Prop
  | .agg _ => False
  | .tuple _ => False
  | _ => True

/-- What lies in a slice that is not lent is not lent, either. -/
def sub (A : Bool → Nat → Prop) (t : Tag) : Bool → Nat → Prop := fun l k => A (l && (t == .b)) k

theorem sub_b (A : Bool → Nat → Prop) : sub A .b = A := by funext l k; simp [sub]

mutual
/-- What a read-only value says. A: which blocks a read-only slice may lie in (lent ones: A true). -/
def CI (w : World) (A : Bool → Nat → Prop) : IV → Value → Prop
  | .any, _ => True
  | .b x, v => v = .bool x
  | .i k n, v => v = .int k n
  | .s l, v => v = .string ⟨l.toArray⟩
  | .c u, v => v = u
  | .rsl t rows, v => ∃ a cap, v = .slice a rows.length cap ∧ rows.length ≤ cap ∧ (t = .n → a = none ∧ cap = 0) ∧
      (rows ≠ [] → ∃ k off sz, a = some ⟨k, off, none⟩ ∧ A (t == .b) k ∧ 0 < sz ∧ (∀ r ∈ rows, r.length = sz) ∧ CRows w (sub A t) k off rows)
  | .rptr row o, v => ∃ k off, v = .pointer (some ⟨k, off + o, none⟩) ∧ (row ≠ [] → A true k) ∧ CRow w A k off row
  | .fn f first cap, v => ∃ a c, v = .func (.func f) a c ∧ CIs w A first a.toList ∧ CIs w A cap c.toList
  | .ifc t ag cells, v => ∃ u, v = .iface t u ∧ (if ag then ∃ cs, u = .agg cs ∧ CIs w A cells cs.toList ∧ ∀ x ∈ cs.toList, leafV x else CIs w A cells [u])
  | .agg l, v => ∃ cs, v = .agg cs ∧ CIs w A l cs.toList ∧ ∀ x ∈ cs.toList, leafV x
def CIs (w : World) (A : Bool → Nat → Prop) : List IV → List Value → Prop
  | [], [] => True
  | x :: xs, v :: vs => CI w A x v ∧ CIs w A xs vs
  | _, _ => False
/-- A row's cells, from a place on. -/
def CRow (w : World) (A : Bool → Nat → Prop) (k : Nat) : Nat → List IV → Prop
  | _, [] => True
  | off, x :: xs => (∃ v, w.cell? ⟨k, off, none⟩ = some v ∧ leafV v ∧ CI w A x v) ∧ CRow w A k (off + 1) xs
def CRows (w : World) (A : Bool → Nat → Prop) (k : Nat) : Nat → List (List IV) → Prop
  | _, [] => True
  | off, r :: rs => CRow w A k off r ∧ CRows w A k (off + r.length) rs
end

abbrev Loc := Nat → Option (Nat × Nat)

/-- The blocks of the model's memory that an abstract memory owns. -/
def Own (β : Loc) (h : AH) (k : Nat) : Prop := ∃ b off, (h.get b).isSome = true ∧ β b = some (k, off)
/-- Where read-only slices may lie: in nothing that is owned; those that are not lent, in nothing that a caller owns, either. -/
def Ok (β : Loc) (h : AH) (Fr : Nat → Prop) (lent : Bool) (k : Nat) : Prop := ¬ Own β h k ∧ (lent = false → ¬ Fr k)

def HasRoom (w : World) (k n : Nat) : Prop := ∃ c T fr, w.heap[k]? = some (Obj.cells c T fr) ∧ n ≤ c.size

/-- Where a world is looked at: its blocks' places, the abstract memory, what the callers own. -/
structure Cx where
  w : World
  β : Loc
  h : AH
  Fr : Nat → Prop
  /-- The numbers whose blocks are there: a region may have numbers whose blocks are still to be laid. -/
  R : Nat → Prop

abbrev Cx.ok (x : Cx) : Bool → Nat → Prop := Ok x.β x.h x.Fr

mutual
def CA (x : Cx) : AV → Value → Prop
  | .iv y, v => CI x.w x.ok y v
  | .agg l, v => ∃ cs, v = .agg cs ∧ CAs x l cs.toList ∧ ∀ u ∈ cs.toList, leafV u
  | .tup l, v => ∃ cs, v = .tuple cs ∧ CAs x l cs.toList
  | .ptr b sz i o, v => x.R b ∧ ∃ k off, x.β b = some (k, off) ∧ v = .pointer (some ⟨k, off + i * sz + o, none⟩)
  | .sl b sz st len cap, v => x.R b ∧ (∃ a c, v = .slice a len c ∧ len ≤ c ∧ (∀ m, cap = some m → c = m) ∧
      (match a with
        | none => len = 0 ∧ c = 0
        | some ad => c = 0 ∨ ∃ k off, x.β b = some (k, off) ∧ ad = ⟨k, off + st * sz, none⟩ ∧ HasRoom x.w k (off + (st + c) * sz) ∧ 0 < sz))
  | .fn f first cap, v => ∃ a c, v = .func (.func f) a c ∧ CAs x first a.toList ∧ CAs x cap c.toList
  | .yld l, v => x.R l ∧ ∃ k off, x.β l = some (k, off) ∧ v = .func (.yield k) #[] #[]
  | .ifc t y, v => ∃ u, v = .iface t u ∧ CA x y u
  | .mp b, v => x.R b ∧ ∃ k off, x.β b = some (k, off) ∧ v = .map (some k)
  | .asl b sz i o _ len, v => x.R b ∧ ∃ a c, v = .slice (some a) len c ∧ len ≤ c ∧ (len ≠ 0 → ∃ k off, x.β b = some (k, off) ∧ a = ⟨k, off + i * sz + o, none⟩)
def CAs (x : Cx) : List AV → List Value → Prop
  | [], [] => True
  | y :: ys, v :: vs => CA x y v ∧ CAs x ys vs
  | _, _ => False
end

/-- Cells of a row, owned. -/
def ARow (x : Cx) (k : Nat) : Nat → List AV → Prop
  | _, [] => True
  | off, y :: ys => (∃ v, x.w.cell? ⟨k, off, none⟩ = some v ∧ leafV v ∧ CA x y v) ∧ ARow x k (off + 1) ys
def ARows (x : Cx) (k : Nat) : Nat → List (List AV) → Prop
  | _, [] => True
  | off, r :: rs => ARow x k off r ∧ ARows x k (off + r.length) rs

/-- A block of cells that is owned, and may be written. -/
def Free (w : World) (k : Nat) : Prop := ∃ c T fr, w.heap[k]? = some (Obj.cells c T fr) ∧ (fr.1 = fr.2 ∨ c.size ≤ fr.1)

/-- The entries of a map. -/
def Ents (x : Cx) : List (AV × AV) → List MapEntry → Prop
  | [], [] => True
  | (k, c) :: es, m :: ms => CA x k m.key ∧ CA x c m.val ∧ Ents x es ms
  | _, _ => False

/-- The code of a jump that waits. -/
def exCode : Ex → Option Code
  | .nrm => none
  | .exit id => some (.exit id)
  | .goto l => some (.goto l)
  | .ret => some .ret
def lState : LSt → LoopState
  | .ready => .ready
  | .busy => .busy
  | .done => .done

theorem lt_of_cell {w : World} {a : Addr} {v : Value} (h : w.cell? a = some v) : a.block < w.heap.size := by
  unfold World.cell? at h
  cases hb : w.heap[a.block]? with
  | none => simp [hb] at h
  | some o => exact (Array.getElem?_eq_some_iff.1 hb).1

theorem cells_of_cell {w : World} {a : Addr} {v : Value} (h : w.cell? a = some v) : ∃ c T fr, w.heap[a.block]? = some (Obj.cells c T fr) := by
  unfold World.cell? at h
  split at h
  · rename_i c T fr hb; exact ⟨c, T, fr, hb⟩
  · cases h

theorem cell_congr {w w' : World} {a : Addr} (h : w'.heap[a.block]? = w.heap[a.block]?) : w'.cell? a = w.cell? a := by
  unfold World.cell?; rw [h]

/-- Read-only values go over from a world to another one where what they lie in stays. -/
structure Goes (w w' : World) (A A' : Bool → Nat → Prop) : Prop where
  go : ∀ l k, A l k → k < w.heap.size → A' l k ∧ ∀ (c : Array Value) (T : TypeId) (fr : Nat × Nat), w.heap[k]? = some (Obj.cells c T fr) → w'.heap[k]? = w.heap[k]?

theorem Goes.sub {w w' : World} {A A' : Bool → Nat → Prop} (g : Goes w w' A A') (t : Tag) : Goes w w' (sub A t) (sub A' t) := ⟨fun l k h hk => g.go _ k h hk⟩

mutual
theorem CI_go {w w' : World} {A A' : Bool → Nat → Prop} (g : Goes w w' A A') : ∀ (y : IV) (v : Value), CI w A y v → CI w' A' y v
  | .any, _, _ => by simp [CI]
  | .b x, v, h => by simpa [CI] using h
  | .i k n, v, h => by simpa [CI] using h
  | .s l, v, h => by simpa [CI] using h
  | .c u, v, h => by simpa [CI] using h
  | .rsl t rows, v, h => by
    simp only [CI] at h ⊢
    obtain ⟨a, cap, e, hc, hn, hr⟩ := h
    refine ⟨a, cap, e, hc, hn, fun hne => ?_⟩
    obtain ⟨k, off, sz, ha, hA, hsz, hrow, hrows⟩ := hr hne
    have hk : k < w.heap.size := by
      cases rows with
      | nil => exact absurd rfl hne
      | cons r rs =>
        have hl := hrow r (by simp)
        cases r with
        | nil => simp at hl; omega
        | cons z zs =>
          simp only [CRows, CRow] at hrows
          obtain ⟨⟨⟨u, hu, _⟩, _⟩, _⟩ := hrows
          exact lt_of_cell hu
    exact ⟨k, off, sz, ha, (g.go _ _ hA hk).1, hsz, hrow, CRows_go (g.sub t) _ k (b := true) (by simpa [Eng.sub] using hA) off hrows⟩
  | .rptr row o, v, h => by
    simp only [CI] at h ⊢
    obtain ⟨k, off, e, hA, hrow⟩ := h
    refine ⟨k, off, e, fun hne => ?_, ?_⟩
    · cases row with
      | nil => exact absurd rfl hne
      | cons z zs =>
        simp only [CRow] at hrow
        obtain ⟨⟨u, hu, _⟩, _⟩ := hrow
        exact (g.go _ _ (hA hne) (lt_of_cell hu)).1
    · by_cases hne : row = []
      · subst hne; simp [CRow]
      · exact CRow_go g _ k (hA hne) off hrow
  | .fn f first cap, v, h => by
    simp only [CI] at h ⊢
    obtain ⟨a, c, e, h1, h2⟩ := h
    exact ⟨a, c, e, CIs_go g _ _ h1, CIs_go g _ _ h2⟩
  | .ifc t ag cells, v, h => by
    simp only [CI] at h ⊢
    obtain ⟨u, e, h1⟩ := h
    refine ⟨u, e, ?_⟩
    cases ag with
    | false => simp only [Bool.false_eq_true, if_false] at h1 ⊢; exact CIs_go g _ _ h1
    | true =>
      simp only [if_true] at h1 ⊢
      obtain ⟨cs, e', h2, h3⟩ := h1
      exact ⟨cs, e', CIs_go g _ _ h2, h3⟩
  | .agg l, v, h => by
    simp only [CI] at h ⊢
    obtain ⟨cs, e, h1, h2⟩ := h
    exact ⟨cs, e, CIs_go g _ _ h1, h2⟩
theorem CIs_go {w w' : World} {A A' : Bool → Nat → Prop} (g : Goes w w' A A') : ∀ (l : List IV) (vs : List Value), CIs w A l vs → CIs w' A' l vs
  | [], [], _ => by simp [CIs]
  | [], _ :: _, h => by simp [CIs] at h
  | _ :: _, [], h => by simp [CIs] at h
  | x :: xs, v :: vs, h => by
    simp only [CIs] at h ⊢
    exact ⟨CI_go g _ _ h.1, CIs_go g _ _ h.2⟩
theorem CRow_go {w w' : World} {A A' : Bool → Nat → Prop} (g : Goes w w' A A') : ∀ (l : List IV) (k : Nat) {b : Bool} (_ : A b k) (off : Nat), CRow w A k off l → CRow w' A' k off l
  | [], _, _, _, _, _ => by simp [CRow]
  | x :: xs, k, b, hA, off, h => by
    simp only [CRow] at h ⊢
    obtain ⟨⟨v, hv, hl, hc⟩, hr⟩ := h
    refine ⟨⟨v, ?_, hl, CI_go g _ _ hc⟩, CRow_go g xs k hA (off + 1) hr⟩
    obtain ⟨c, T, fr, hcell⟩ := cells_of_cell hv
    rw [cell_congr (w := w) (w' := w') (a := ⟨k, off, none⟩) ((g.go _ _ hA (lt_of_cell hv)).2 c T fr hcell)]; exact hv
theorem CRows_go {w w' : World} {A A' : Bool → Nat → Prop} (g : Goes w w' A A') : ∀ (l : List (List IV)) (k : Nat) {b : Bool} (_ : A b k) (off : Nat), CRows w A k off l → CRows w' A' k off l
  | [], _, _, _, _, _ => by simp [CRows]
  | r :: rs, k, b, hA, off, h => by
    simp only [CRows] at h ⊢
    exact ⟨CRow_go g r k hA off h.1, CRows_go g rs k hA _ h.2⟩
end

/-- What lies in a read-only slice, as it may be read. -/
theorem CRows_sub {x : Cx} {t : Tag} {k off : Nat} {rows : List (List IV)} (hA : x.ok (t == .b) k) (h : CRows x.w (sub x.ok t) k off rows) : CRows x.w x.ok k off rows := by
  refine CRows_go ⟨fun l k h _ => ⟨?_, fun _ _ _ _ => rfl⟩⟩ rows k (b := true) (by simpa [Eng.sub] using hA) off h
  simp only [Eng.sub] at h
  refine ⟨h.1, fun e => h.2 (by simp [e])⟩

structure LoopOk (P : Program) (cfg : Cfg) (x : Cx) (r : LoopRec) (L : Loop) : Prop where
  tm : CAs x r.t L.tmps.toList
  ps : r.ps = L.params.toList
  ac : ∃ g, cCode P cfg g L.assign = some r.assign ∧ cCode P cfg g L.body = some r.body
  st : L.state = lState r.st
  pend : L.pending = r.pend.bind exCode
  pn : r.pend ≠ some .nrm

def BlkOk (P : Program) (cfg : Cfg) (x : Cx) (b : Nat) : Blk → Prop
  | .cells sz rows => (∀ k off, x.β b = some (k, off) → Free x.w k) ∧
      (rows ≠ [] → ∃ k off, x.β b = some (k, off) ∧ 0 < sz ∧ (∀ r ∈ rows, r.length = sz) ∧ ARows x k off rows)
  | .mp es => ∃ k off ents clock, x.β b = some (k, off) ∧ x.w.heap[k]? = some (Obj.map ents clock) ∧ Ents x es ents.toList
  | .lp r => ∃ k off L, x.β b = some (k, off) ∧ x.w.heap[k]? = some (Obj.loop L) ∧ LoopOk P cfg x r L

/-- The abstract memory is what the world has. -/
structure Sim (P : Program) (cfg : Cfg) (x : Cx) : Prop where
  lt : ∀ b, (x.h.get b).isSome = true → b < x.h.next
  rlt : ∀ b, x.R b → b < x.h.next
  nr : ∀ b, ¬ x.R b → x.β b = none
  ok : ∀ b blk, x.h.get b = some blk → x.R b → BlkOk P cfg x b blk
  inj : ∀ b b' k off off', (x.h.get b).isSome = true → (x.h.get b').isSome = true → x.β b = some (k, off) → x.β b' = some (k, off') → b = b'
  own : ∀ k, Own x.β x.h k → k < x.w.heap.size ∧ ¬ x.Fr k
  fr : ∀ k, x.Fr k → k < x.w.heap.size

/-- From one place to a later one. -/
structure Step (x y : Cx) : Prop where
  fr : y.Fr = x.Fr
  size : x.w.heap.size ≤ y.w.heap.size
  same : ∀ k, k < x.w.heap.size → ¬ Own x.β x.h k → y.w.heap[k]? = x.w.heap[k]?
  cells : ∀ (k : Nat) (c : Array Value) (T : TypeId) (fr : Nat × Nat), x.w.heap[k]? = some (Obj.cells c T fr) → ∃ c' fr', y.w.heap[k]? = some (Obj.cells c' T fr') ∧ c'.size = c.size
  os : y.w.os = x.w.os
  tape : y.w.tape = x.w.tape
  out : y.w.output = x.w.output
  next : x.h.next ≤ y.h.next
  loc : ∀ b, x.R b → y.R b ∧ y.β b = x.β b
  own : ∀ k, Own y.β y.h k → Own x.β x.h k ∨ x.w.heap.size ≤ k

theorem Step.refl (x : Cx) : Step x x := ⟨rfl, Nat.le_refl _, fun _ _ _ => rfl, fun _ c _ fr h => ⟨c, fr, h, rfl⟩, rfl, rfl, rfl, Nat.le_refl _, fun _ h => ⟨h, rfl⟩, fun _ h => .inl h⟩

theorem Step.trans {x y z : Cx} (a : Step x y) (b : Step y z) : Step x z where
  fr := b.fr.trans a.fr
  size := Nat.le_trans a.size b.size
  same k hk hn := by
    rw [b.same k (Nat.lt_of_lt_of_le hk a.size) ?_, a.same k hk hn]
    intro ho
    rcases a.own k ho with h | h
    · exact hn h
    · omega
  cells k c T fr h := by
    obtain ⟨c', fr', h', e⟩ := a.cells k c T fr h
    obtain ⟨c'', fr'', h'', e'⟩ := b.cells k c' T fr' h'
    exact ⟨c'', fr'', h'', e'.trans e⟩
  os := b.os.trans a.os
  tape := b.tape.trans a.tape
  out := b.out.trans a.out
  next := Nat.le_trans a.next b.next
  loc i hi := ⟨(b.loc i (a.loc i hi).1).1, (b.loc i (a.loc i hi).1).2.trans (a.loc i hi).2⟩
  own k h := by
    rcases b.own k h with h | h
    · exact a.own k h
    · exact .inr (Nat.le_trans a.size h)

/-- What is not there yet stays so, but at D. -/
def Keeps (D : Nat → Prop) (x y : Cx) : Prop := ∀ b, b < x.h.next → ¬ x.R b → ¬ D b → y.h.get b = x.h.get b ∧ ¬ y.R b

theorem Keeps.refl (D : Nat → Prop) (x : Cx) : Keeps D x x := fun _ _ h _ => ⟨rfl, h⟩
theorem Keeps.trans {D : Nat → Prop} {x y z : Cx} (hn : x.h.next ≤ y.h.next) (a : Keeps D x y) (b : Keeps D y z) : Keeps D x z := fun i hi hr hd =>
  have h := a i hi hr hd
  have h' := b i (Nat.lt_of_lt_of_le hi hn) h.2 hd
  ⟨h'.1.trans h.1, h'.2⟩
theorem Keeps.mono {D D' : Nat → Prop} {x y : Cx} (h : ∀ b, b < x.h.next → D b → D' b) (a : Keeps D x y) : Keeps D' x y := fun i hi hr hd => a i hi hr fun e => hd (h i hi e)

theorem Step.goes {x y : Cx} (s : Step x y) : Goes x.w y.w x.ok y.ok where
  go l k hA hk := by
    refine ⟨⟨fun ho => ?_, fun hl hf => hA.2 hl (s.fr ▸ hf)⟩, fun _ _ _ _ => s.same k hk hA.1⟩
    rcases s.own k ho with h | h
    · exact hA.1 h
    · omega

/-- Values go over. -/
structure Mv (x y : Cx) : Prop where
  goes : Goes x.w y.w x.ok y.ok
  loc : ∀ b, x.R b → y.R b ∧ y.β b = x.β b
  cells : ∀ (k : Nat) (c : Array Value) (T : TypeId) (fr : Nat × Nat), x.w.heap[k]? = some (Obj.cells c T fr) → ∃ c' fr', y.w.heap[k]? = some (Obj.cells c' T fr') ∧ c'.size = c.size

theorem Step.mv {x y : Cx} (s : Step x y) : Mv x y := ⟨s.goes, s.loc, s.cells⟩

theorem HasRoom.mv {x y : Cx} (s : Mv x y) {k n : Nat} (h : HasRoom x.w k n) : HasRoom y.w k n := by
  obtain ⟨c, T, fr, h1, h2⟩ := h
  obtain ⟨c', fr', h3, h4⟩ := s.cells k c T fr h1
  exact ⟨c', T, fr', h3, by omega⟩

mutual
theorem CA_mv {x y : Cx} (s : Mv x y) : ∀ (a : AV) (v : Value), CA x a v → CA y a v
  | .iv z, v, h => by
    simp only [CA] at h ⊢
    exact CI_go s.goes _ _ h
  | .agg l, v, h => by
    simp only [CA] at h ⊢
    obtain ⟨cs, e, h1, h2⟩ := h
    exact ⟨cs, e, CAs_mv s _ _ h1, h2⟩
  | .tup l, v, h => by
    simp only [CA] at h ⊢
    obtain ⟨cs, e, h1⟩ := h
    exact ⟨cs, e, CAs_mv s _ _ h1⟩
  | .ptr b sz i o, v, h => by
    simp only [CA] at h ⊢
    refine ⟨(s.loc _ h.1).1, ?_⟩
    rw [(s.loc b h.1).2]; exact h.2
  | .sl b sz st len cap, v, h => by
    simp only [CA] at h ⊢
    refine ⟨(s.loc _ h.1).1, ?_⟩
    have e := (s.loc b h.1).2
    obtain ⟨a, c, e1, h2, h3, h4⟩ := h.2
    refine ⟨a, c, e1, h2, h3, ?_⟩
    cases a with
    | none => exact h4
    | some ad =>
      rcases h4 with h4 | ⟨k, off, h5, h6, h7⟩
      · exact .inl h4
      · exact .inr ⟨k, off, e.trans h5, h6, h7.1.mv s, h7.2⟩
  | .fn f first cap, v, h => by
    simp only [CA] at h ⊢
    obtain ⟨a, c, e, h1, h2⟩ := h
    exact ⟨a, c, e, CAs_mv s _ _ h1, CAs_mv s _ _ h2⟩
  | .yld l, v, h => by
    simp only [CA] at h ⊢
    refine ⟨(s.loc _ h.1).1, ?_⟩
    rw [(s.loc l h.1).2]; exact h.2
  | .ifc t a, v, h => by
    simp only [CA] at h ⊢
    obtain ⟨u, e, h1⟩ := h
    exact ⟨u, e, CA_mv s _ _ h1⟩
  | .mp b, v, h => by
    simp only [CA] at h ⊢
    refine ⟨(s.loc _ h.1).1, ?_⟩
    rw [(s.loc b h.1).2]; exact h.2
  | .asl b sz i o esz len, v, h => by
    simp only [CA] at h ⊢
    refine ⟨(s.loc _ h.1).1, ?_⟩
    rw [(s.loc b h.1).2]; exact h.2
theorem CAs_mv {x y : Cx} (s : Mv x y) : ∀ (l : List AV) (vs : List Value), CAs x l vs → CAs y l vs
  | [], [], _ => by simp [CAs]
  | [], _ :: _, h => by simp [CAs] at h
  | _ :: _, [], h => by simp [CAs] at h
  | a :: as, v :: vs, h => by
    simp only [CAs] at h ⊢
    exact ⟨CA_mv s _ _ h.1, CAs_mv s _ _ h.2⟩
end

theorem HasRoom.step {x y : Cx} (s : Step x y) {k n : Nat} (h : HasRoom x.w k n) : HasRoom y.w k n := h.mv s.mv
theorem CA_step {x y : Cx} (s : Step x y) (a : AV) (v : Value) (h : CA x a v) : CA y a v := CA_mv s.mv a v h
theorem CAs_step {x y : Cx} (s : Step x y) (l : List AV) (vs : List Value) (h : CAs x l vs) : CAs y l vs := CAs_mv s.mv l vs h

theorem Ents_step {x y : Cx} (s : Step x y) : ∀ (l : List (AV × AV)) (ms : List MapEntry), Ents x l ms → Ents y l ms
  | [], [], _ => by simp [Ents]
  | [], _ :: _, h => by simp [Ents] at h
  | _ :: _, [], h => by simp [Ents] at h
  | (k, c) :: es, m :: ms, h => by
    simp only [Ents] at h ⊢
    exact ⟨CA_step s _ _ h.1, CA_step s _ _ h.2.1, Ents_step s _ _ h.2.2⟩

theorem LoopOk.step {P : Program} {cfg : Cfg} {x y : Cx} (s : Step x y) {r : LoopRec} {L : Loop} (h : LoopOk P cfg x r L) : LoopOk P cfg y r L :=
  ⟨CAs_step s _ _ h.tm, h.ps, h.ac, h.st, h.pend, h.pn⟩

/-- Owned rows go over where the block stays. -/
theorem ARow_step {x y : Cx} (s : Step x y) {k : Nat} (hk : y.w.heap[k]? = x.w.heap[k]?) : ∀ (l : List AV) (off : Nat), ARow x k off l → ARow y k off l
  | [], _, _ => by simp [ARow]
  | a :: as, off, h => by
    simp only [ARow] at h ⊢
    obtain ⟨⟨v, h1, h2, h3⟩, h4⟩ := h
    refine ⟨⟨v, ?_, h2, CA_step s _ _ h3⟩, ARow_step s hk as _ h4⟩
    rw [cell_congr (w := x.w) (a := ⟨k, off, none⟩) hk]; exact h1
theorem ARows_step {x y : Cx} (s : Step x y) {k : Nat} (hk : y.w.heap[k]? = x.w.heap[k]?) : ∀ (l : List (List AV)) (off : Nat), ARows x k off l → ARows y k off l
  | [], _, _ => by simp [ARows]
  | r :: rs, off, h => by
    simp only [ARows] at h ⊢
    exact ⟨ARow_step s hk r _ h.1, ARows_step s hk rs _ h.2⟩

/-- A block stays what it is, where its cells do. -/
theorem BlkOk.step {P : Program} {cfg : Cfg} {x y : Cx} (s : Step x y) {b : Nat} {blk : Blk} (h : BlkOk P cfg x b blk) (hβ : y.β b = x.β b)
    (hk : ∀ k off, x.β b = some (k, off) → y.w.heap[k]? = x.w.heap[k]?) : BlkOk P cfg y b blk := by
  cases blk with
  | cells sz rows =>
    simp only [BlkOk] at h ⊢
    rw [hβ]
    refine ⟨fun k off e => ?_, fun hne => ?_⟩
    · obtain ⟨c, T, fr, h1, h2⟩ := h.1 k off e
      exact ⟨c, T, fr, (hk k off e).trans h1, h2⟩
    · obtain ⟨k, off, e, h1, h2, h3⟩ := h.2 hne
      exact ⟨k, off, e, h1, h2, ARows_step s (hk k off e) _ _ h3⟩
  | mp es =>
    simp only [BlkOk] at h ⊢
    rw [hβ]
    obtain ⟨k, off, en, cl, e, h1, h2⟩ := h
    exact ⟨k, off, en, cl, e, (hk k off e).trans h1, Ents_step s _ _ h2⟩
  | lp r =>
    simp only [BlkOk] at h ⊢
    rw [hβ]
    obtain ⟨k, off, L, e, h1, h2⟩ := h
    exact ⟨k, off, L, e, (hk k off e).trans h1, h2.step s⟩

/-! ### lists of values -/
theorem CAs_length {x : Cx} : ∀ {l : List AV} {vs : List Value}, CAs x l vs → vs.length = l.length
  | [], [], _ => rfl
  | [], _ :: _, h => by simp [CAs] at h
  | _ :: _, [], h => by simp [CAs] at h
  | a :: as, v :: vs, h => by simp only [CAs] at h; simp [CAs_length h.2]

theorem CAs_get {x : Cx} : ∀ {l : List AV} {vs : List Value} (_ : CAs x l vs) (i : Nat) {a : AV} (_ : l[i]? = some a), ∃ v, vs[i]? = some v ∧ CA x a v
  | [], [], _, i, a, ha => by simp at ha
  | [], _ :: _, h, _, _, _ => by simp [CAs] at h
  | _ :: _, [], h, _, _, _ => by simp [CAs] at h
  | b :: as, v :: vs, h, 0, a, ha => by
    simp only [CAs] at h
    simp at ha; subst ha
    exact ⟨v, by simp, h.1⟩
  | b :: as, v :: vs, h, i + 1, a, ha => by
    simp only [CAs] at h
    simp at ha
    obtain ⟨u, h1, h2⟩ := CAs_get h.2 i ha
    exact ⟨u, by simpa using h1, h2⟩

theorem CAs_set {x : Cx} : ∀ {l : List AV} {vs : List Value} (_ : CAs x l vs) (i : Nat) {a : AV} {v : Value} (_ : CA x a v), CAs x (l.set i a) (vs.set i v)
  | [], [], _, i, a, v, _ => by simp [CAs]
  | [], _ :: _, h, _, _, _, _ => by simp [CAs] at h
  | _ :: _, [], h, _, _, _, _ => by simp [CAs] at h
  | b :: as, u :: vs, h, 0, a, v, ha => by
    simp only [CAs] at h
    simp only [List.set_cons_zero, CAs]
    exact ⟨ha, h.2⟩
  | b :: as, u :: vs, h, i + 1, a, v, ha => by
    simp only [CAs] at h
    simp only [List.set_cons_succ, CAs]
    exact ⟨h.1, CAs_set h.2 i ha⟩

theorem CAs_append {x : Cx} : ∀ {l : List AV} {vs : List Value} {l' : List AV} {vs' : List Value}, CAs x l vs → CAs x l' vs' → CAs x (l ++ l') (vs ++ vs')
  | [], [], _, _, _, h => by simpa using h
  | [], _ :: _, _, _, h, _ => by simp [CAs] at h
  | _ :: _, [], _, _, h, _ => by simp [CAs] at h
  | a :: as, v :: vs, _, _, h, h' => by
    simp only [CAs] at h
    simp only [List.cons_append, CAs]
    exact ⟨h.1, CAs_append h.2 h'⟩

theorem CAs_replicate {x : Cx} {a : AV} {v : Value} (h : CA x a v) : ∀ n, CAs x (List.replicate n a) (List.replicate n v)
  | 0 => by simp [CAs]
  | n + 1 => by simp only [List.replicate_succ, CAs]; exact ⟨h, CAs_replicate h n⟩

theorem CAs_map {α : Type} {x : Cx} {f : α → AV} {g : α → Value} : ∀ (l : List α) (_ : ∀ a ∈ l, CA x (f a) (g a)), CAs x (l.map f) (l.map g)
  | [], _ => by simp [CAs]
  | a :: as, h => by
    simp only [List.map_cons, CAs]
    exact ⟨h a (by simp), CAs_map as fun b hb => h b (by simp [hb])⟩

end Go.Eng
