/-
  THE ABSTRACT MACHINE: a deterministic evaluator of the model's code, on a heap whose grown arrays have versions.
  No program in sight. What it answers is tied to the model's own machine in the texts behind this one.
-/
import Derived.Calls
namespace Go.Am
noncomputable section

/-! ### Trees by numbers -/
inductive Tr (α : Type) where
  | nil
  | node (v : Option α) (l r : Tr α)

--TR-BEGIN (by the recursor itself: the kernel reckons these; a copy for trials has plain matches in their place)
noncomputable def Tr.get {α : Type} (t : Tr α) : Nat → Option α :=
  Tr.rec (fun _ => none)
    (fun v _ _ gl gr n => Nat.rec v (fun k _ => Nat.rec (gl (Nat.div k (nat_lit 2))) (fun _ _ => gr (Nat.div k (nat_lit 2))) (Nat.mod k (nat_lit 2))) n) t

/-- A tree of one entry. -/
noncomputable def Tr.sing {α : Type} (x : α) (f : Nat) : Nat → Tr α :=
  Nat.rec (fun _ => .node (some x) .nil .nil)
    (fun _ g n => Nat.rec (.node (some x) .nil .nil)
      (fun k _ => Nat.rec (.node none (g (Nat.div k (nat_lit 2))) .nil) (fun _ _ => .node none .nil (g (Nat.div k (nat_lit 2)))) (Nat.mod k (nat_lit 2))) n) f

noncomputable def Tr.set {α : Type} (t : Tr α) (n : Nat) (x : α) : Tr α :=
  Tr.rec (fun n => Tr.sing x n n)
    (fun v l r gl gr n => Nat.rec (.node (some x) l r)
      (fun k _ => Nat.rec (.node v (gl (Nat.div k (nat_lit 2))) r) (fun _ _ => .node v l (gr (Nat.div k (nat_lit 2)))) (Nat.mod k (nat_lit 2))) n) t n
--TR-END

/-! ### Values -/
structure Ad where
  f : Nat
  v : Nat
  o : Nat
  deriving DecidableEq

inductive V where
  | b (x : Bool)
  | i (k : IntKind) (n : Int)
  | s (x : List UInt8)
  | p (a : Option Ad)
  | sl (a : Option Ad) (len cap z : Nat) (exact : Bool)
  | m (r : Option Nat)
  | fn (f : Fn) (first captured : List V)
  | nf
  | ifc (t : TypeId) (v : V)
  | nifc
  | agg (l : List V)
  | tup (l : List V)

def V.undef : V := .tup []

def Ad.shift (a : Ad) (n : Nat) : Ad :=
  match a with
  | ⟨f, v, o⟩ => ⟨f, v, o + n⟩

def adEq (a b : Ad) : Bool := Nat.beq a.f b.f && (Nat.beq a.v b.v && Nat.beq a.o b.o)

def bytesEq : List UInt8 → List UInt8 → Bool
  | [], [] => true
  | a :: x, b :: y => Nat.beq a.toNat b.toNat && bytesEq x y
  | _, _ => false

def intEq : Int → Int → Bool
  | .ofNat a, .ofNat b => Nat.beq a b
  | .negSucc a, .negSucc b => Nat.beq a b
  | _, _ => false

def kindEq : IntKind → IntKind → Bool
  | .i8, .i8 | .i16, .i16 | .i32, .i32 | .i64, .i64 | .u8, .u8 | .u16, .u16 | .u32, .u32 | .u64, .u64 => true
  | _, _ => false

def optAdEq : Option Ad → Option Ad → Bool
  | none, none => true
  | some a, some b => adEq a b
  | _, _ => false

def boolEq : Bool → Bool → Bool
  | true, true | false, false => true
  | _, _ => false

def optNatEq : Option Nat → Option Nat → Bool
  | none, none => true
  | some a, some b => Nat.beq a b
  | _, _ => false

def fnEq : Fn → Fn → Bool
  | .func a, .func b => Nat.beq a b
  | .yield a, .yield b => Nat.beq a b
  | _, _ => false

mutual
/-- Are two values surely one? -/
def V.same : V → V → Bool
  | .b x, .b y => boolEq x y
  | .i k x, .i j y => kindEq k j && intEq x y
  | .s x, .s y => bytesEq x y
  | .p x, .p y => optAdEq x y
  | .sl x l c z e, .sl y l' c' z' e' => optAdEq x y && (Nat.beq l l' && (Nat.beq c c' && (Nat.beq z z' && boolEq e e')))
  | .m x, .m y => optNatEq x y
  | .fn f x y, .fn g u v => fnEq f g && (V.sames x u && V.sames y v)
  | .nf, .nf => true
  | .ifc t x, .ifc u y => Nat.beq t u && V.same x y
  | .nifc, .nifc => true
  | .agg x, .agg y => V.sames x y
  | .tup x, .tup y => V.sames x y
  | _, _ => false
def V.sames : List V → List V → Bool
  | [], [] => true
  | x :: xs, y :: ys => V.same x y && V.sames xs ys
  | _, _ => false
end

/-- Does a value lie in one cell? -/
def V.one : V → Bool
  | .agg _ | .tup _ => false
  | _ => true

def V.cells : V → List V
  | .agg l => l
  | v => [v]

/-- A constant. -/
def ofAtom : Value → Option V
  | .bool x => some (.b x)
  | .int k n => some (.i k n)
  | .string s => some (.s s.data.toList)
  | .pointer none => some (.p none)
  | .slice none 0 0 => some (.sl none 0 0 0 true)
  | .map none => some (.m none)
  | .nilFunc => some .nf
  | .nilIface => some .nifc
  | _ => none

def ofAtoms : List Value → Option (List V)
  | [] => some []
  | x :: xs => match ofAtom x with
    | none => none
    | some y => match ofAtoms xs with
      | none => none
      | some ys => some (y :: ys)

def ofVal : Value → Option V
  | .agg cs => match ofAtoms cs.toList with
    | none => none
    | some l => some (.agg l)
  | v => ofAtom v

/-! ### The heap -/
structure Fam where
  elem : TypeId
  ver : Nat
  ext : Nat
  str : Bool                  -- made of a string's bytes
  cells : Tr (V × Nat)

structure Lp where
  state : LoopState
  pending : Option Code
  fn : FuncId
  n : Nat
  tmps : Tr V
  params : Array Tmp
  assign : Code
  body : Code
  dfr : Nat

inductive Blk where
  | fam (f : Fam)
  | map (es : List (V × V × Nat)) (clock : Nat)
  | siter (s : List UInt8) (pos : Nat)
  | miter (m : Option Nat) (since : Nat) (seen : List Nat) (stepped : Nat)
  | loop (l : Lp)
  | dfr
  | dead

structure Heap where
  next : Nat
  blks : Tr Blk

def Heap.load (h : Heap) (a : Ad) : Option V :=
  match a with
  | ⟨f, v, o⟩ => match h.blks.get f with
    | some (.fam ⟨_, _, _, _, cells⟩) => match cells.get o with
      | some (x, st) => match Nat.ble st v with
        | true => some x
        | false => none
      | none => none
    | _ => none

def loadsT (cells : Tr (V × Nat)) (v : Nat) : Nat → Nat → Option (List V)
  | _, 0 => some []
  | o, n + 1 => match cells.get o with
    | none => none
    | some (x, st) => match Nat.ble st v with
      | false => none
      | true => match loadsT cells v (Nat.succ o) n with
        | none => none
        | some xs => some (x :: xs)

def Heap.loads (h : Heap) (f v o n : Nat) : Option (List V) :=
  match n with
  | 0 => some []
  | _ => match h.blks.get f with
    | some (.fam ⟨_, _, _, _, cells⟩) => loadsT cells v o n
    | _ => none

def storesT (st : Nat) : List V → Nat → Tr (V × Nat) → Option (Tr (V × Nat))
  | [], _, c => some c
  | x :: xs, o, c => match c.get o with
    | none => none
    | some _ => match x.one with
      | false => none
      | true => storesT st xs (Nat.succ o) (c.set o (x, st))

def Heap.stores (h : Heap) (f v o : Nat) (l : List V) : Option Heap :=
  match l with
  | [] => some h
  | _ => match h with
    | ⟨next, blks⟩ => match blks.get f with
      | some (.fam ⟨elem, ver, ext, str, cells⟩) => match Nat.beq v ver with
        | false => none
        | true => match storesT ver l o cells with
          | none => none
          | some c => some ⟨next, blks.set f (.fam ⟨elem, ver, ext, str, c⟩)⟩
      | _ => none

def lay (st : Nat) : List V → Nat → Tr (V × Nat) → Tr (V × Nat)
  | [], _, t => t
  | x :: xs, o, t => lay st xs (Nat.succ o) (t.set o (x, st))

def allOne : List V → Bool
  | [] => true
  | x :: xs => match x.one with
    | true => allOne xs
    | false => false

def Heap.alloc (h : Heap) (elem : TypeId) (l : List V) (str : Bool := false) : Heap :=
  match h with
  | ⟨next, blks⟩ => ⟨Nat.succ next, blks.set next (.fam ⟨elem, 0, l.length, str, lay 0 l 0 .nil⟩)⟩

def Heap.newBlk (h : Heap) (b : Blk) : Heap :=
  match h with
  | ⟨next, blks⟩ => ⟨Nat.succ next, blks.set next b⟩

def Heap.setBlk (h : Heap) (r : Nat) (b : Blk) : Heap :=
  match h with
  | ⟨next, blks⟩ => ⟨next, blks.set r b⟩

/-- A new version of a grown array: cells are laid behind. -/
def Heap.grow (h : Heap) (f : Nat) (fam : Fam) (o : Nat) (l : List V) : Heap :=
  match h, fam with
  | ⟨next, blks⟩, ⟨elem, ver, _, str, cells⟩ => ⟨next, blks.set f (.fam ⟨elem, Nat.succ ver, o + l.length, str, lay (Nat.succ ver) l o cells⟩)⟩

/-! ### What is known of the types and the functions -/
inductive TK where
  | bool | int (k : IntKind) | string
  | pointer (e : TypeId) | slice (e : TypeId) | array (n : Nat) (e : TypeId)
  | map (k e : TypeId) | struct (fs : List (TypeId × Nat × Nat))     -- type, offset, size
  | func | iface | other

structure TI where
  kind : TK
  size : Nat
  bytes : Nat
  zero : Option (List V)      -- its cells
  agg : Bool
  plainEq : Option (List TK)  -- a struct that is compared field by field: their kinds

structure FI where
  name : String
  ntmps : Nat
  results : List ResultVar
  body : Code

structure Env where
  ty : Nat → Option TI
  fn : Nat → Option FI
  mth : Nat → String → Option FuncId      -- a method without a path, of a value that it takes as it is

/-! ### A frame's slots -/
structure T where
  n : Nat
  m : Tr V

def T.get (t : T) (k : Nat) : Option V := t.m.get k

def T.put (t : T) (d : Option Tmp) (x : V) : Option T :=
  match d with
  | none => some t
  | some k => match t with
    | ⟨n, m⟩ => match Nat.blt k n with
      | true => some ⟨n, m.set k x⟩
      | false => none

def T.ev (t : T) : Operand → Option V
  | .tmp k => t.get k
  | .const v => ofVal v
  | .global _ => none
  | .func f => some (.fn (.func f) [] [])

def T.evs (t : T) : List Operand → Option (List V)
  | [] => some []
  | x :: xs => match t.ev x with
    | none => none
    | some y => match t.evs xs with
      | none => none
      | some ys => some (y :: ys)

end
end Go.Am

/-
  THE ABSTRACT MACHINE's OPERATIONS.
-/
namespace Go.Am
noncomputable section

/-! ### Numbers -/
def intLe : Int → Int → Bool
  | .ofNat a, .ofNat b => Nat.ble a b
  | .negSucc a, .negSucc b => Nat.ble b a
  | .negSucc _, .ofNat _ => true
  | .ofNat _, .negSucc _ => false

def inside (lo hi : Nat) : Int → Bool
  | .ofNat a => Nat.ble a hi
  | .negSucc a => Nat.blt a lo

def wrapF (k : IntKind) (n : Int) : Int :=
  match (match k with
    | .i64 => inside 9223372036854775808 9223372036854775807 n
    | .i32 => inside 2147483648 2147483647 n
    | .u64 => inside 0 18446744073709551615 n
    | .u32 => inside 0 4294967295 n
    | .u8 => inside 0 255 n
    | _ => false) with
  | true => n
  | false => k.wrap n

def binInt (op : BinOp) (k : IntKind) (x y : Int) : Option V :=
  match op with
  | .add => some (.i k (wrapF k (x + y)))
  | .sub => some (.i k (wrapF k (x - y)))
  | .mul => some (.i k (wrapF k (x * y)))
  | .quo => match intEq y 0 with
    | true => none
    | false => some (.i k (wrapF k (x.tdiv y)))
  | .rem => match intEq y 0 with
    | true => none
    | false => some (.i k (x.tmod y))
  | .and => some (.i k (k.wrap (BitVec.ofInt k.bits x &&& BitVec.ofInt k.bits y).toNat))
  | .or => some (.i k (k.wrap (BitVec.ofInt k.bits x ||| BitVec.ofInt k.bits y).toNat))
  | .xor => some (.i k (k.wrap (BitVec.ofInt k.bits x ^^^ BitVec.ofInt k.bits y).toNat))
  | .andNot => some (.i k (k.wrap (BitVec.ofInt k.bits x &&& ~~~ BitVec.ofInt k.bits y).toNat))
  | .eql => some (.b (intEq x y))
  | .neq => some (.b (!intEq x y))
  | .lss => some (.b (!intLe y x))
  | .leq => some (.b (intLe x y))
  | .gtr => some (.b (!intLe x y))
  | .geq => some (.b (intLe y x))
  | _ => none

def shiftInt (op : BinOp) (k : IntKind) (x y : Int) : Option V :=
  match y with
  | .negSucc _ => none
  | .ofNat n =>
    let e : Int := Int.ofNat (2 ^ (Nat.min n k.bits))
    match op with
    | .shl => some (.i k (wrapF k (x * e)))
    | .shr => some (.i k (x.fdiv e))
    | _ => none

def bytesLess' : List UInt8 → List UInt8 → Bool
  | _, [] => false
  | [], _ :: _ => true
  | a :: x, b :: y => Nat.blt a.toNat b.toNat || (Nat.beq a.toNat b.toNat && bytesLess' x y)

def binStr (op : BinOp) (x y : List UInt8) : Option V :=
  match op with
  | .add => match Nat.ble (x.length + y.length) 1000000 with
    | true => some (.s (x ++ y))
    | false => none
  | .eql => some (.b (bytesEq x y))
  | .neq => some (.b (!bytesEq x y))
  | .lss => some (.b (bytesLess' x y))
  | .leq => some (.b (bytesLess' x y || bytesEq x y))
  | .gtr => some (.b (!(bytesLess' x y || bytesEq x y)))
  | .geq => some (.b (!bytesLess' x y))
  | _ => none

/-- '==' of two cells of a kind; none: it is not told here. -/
def eqCell : TK → V → V → Option Bool
  | .bool, .b x, .b y => some (boolEq x y)
  | .int _, .i k x, .i j y => match kindEq k j with
    | true => some (intEq x y)
    | false => none
  | .string, .s x, .s y => some (bytesEq x y)
  | .pointer _, .p none, .p none => some true
  | .pointer _, .p none, .p (some _) => some false
  | .pointer _, .p (some _), .p none => some false
  | .iface, .nifc, .ifc _ _ => some false
  | .iface, .ifc _ _, .nifc => some false
  | .slice _, .sl none _ _ _ _, .sl none _ _ _ _ => some true
  | .slice _, .sl none _ _ _ _, .sl (some _) _ _ _ _ => some false
  | .slice _, .sl (some _) _ _ _ _, .sl none _ _ _ _ => some false
  | .map _ _, .m none, .m none => some true
  | .map _ _, .m none, .m (some _) => some false
  | .map _ _, .m (some _), .m none => some false
  | .func, .nf, .nf => some true
  | .func, .nf, .fn _ _ _ => some false
  | .func, .fn _ _ _, .nf => some false
  | _, _, _ => none

end
end Go.Am
namespace Go.Am
noncomputable section

/-! ### Shapes -/
def TI.elemOf : TI → Option TypeId
  | { kind := .slice e, .. } => some e
  | _ => none

def List.at? {α : Type} : List α → Nat → Option α
  | [], _ => none
  | x :: xs, n => match n with
    | 0 => some x
    | k + 1 => List.at? xs k

def List.over {α : Type} : List α → List α → Option (List α)       -- laid over the head
  | l, [] => some l
  | [], _ :: _ => none
  | _ :: l, y :: ys => match List.over l ys with
    | some r => some (y :: r)
    | none => none

def List.overAt {α : Type} : List α → Nat → List α → Option (List α)
  | l, 0, ys => List.over l ys
  | [], _ + 1, _ => none
  | x :: l, k + 1, ys => match List.overAt l k ys with
    | some r => some (x :: r)
    | none => none

def List.cut {α : Type} : List α → Nat → Nat → Option (List α)       -- n of them from o on
  | l, 0, n => match n with
    | 0 => some []
    | k + 1 => match l with
      | [] => none
      | x :: xs => match List.cut xs 0 k with
        | some r => some (x :: r)
        | none => none
  | [], _ + 1, _ => none
  | _ :: l, o + 1, n => List.cut l o n

def List.len {α : Type} : List α → Nat
  | [] => 0
  | _ :: xs => Nat.succ (List.len xs)

def rep {α : Type} (l : List α) : Nat → List α
  | 0 => []
  | n + 1 => l ++ rep l n

def fillV (place : Nat → Option (Nat × Nat)) : List V → List (Nat × V) → Option (List V)
  | cells, [] => some cells
  | cells, (i, v) :: rest => match place i with
    | none => none
    | some (off, size) => match Nat.beq v.cells.length size with
      | false => none
      | true => match List.overAt cells off v.cells with
        | none => none
        | some c => fillV place c rest

def T.evParts (t : T) : List (Nat × Operand) → Option (List (Nat × V))
  | [] => some []
  | (i, x) :: xs => match t.ev x with
    | none => none
    | some y => match t.evParts xs with
      | none => none
      | some ys => some ((i, y) :: ys)

/-- A part of an aggregate. -/
def partV (ti : TI) (cs : List V) (off : Nat) : Option V :=
  match ti.agg with
  | true => match List.cut cs off ti.size with
    | some l => some (.agg l)
    | none => none
  | false => List.at? cs off

def natOf : V → Option Nat
  | .i _ (.ofNat n) => some n
  | _ => none

def optNat (d : Nat) : Option V → Option Nat
  | none => some d
  | some v => natOf v

/-- s[lo:hi:mx] of a length and a capacity; exact: the capacity is that, else it is at least that. -/
def boundsV (len cap : Nat) (lo hi mx : Option V) : Option (Nat × Nat × Nat) :=
  match optNat cap mx with
  | none => none
  | some m => match Nat.ble m cap with
    | false => none
    | true => match (match hi, mx with | none, some _ => none | _, _ => optNat len hi) with
      | none => none
      | some h => match Nat.ble h m with
        | false => none
        | true => match optNat 0 lo with
          | none => none
          | some l => match Nat.ble l h with
            | false => none
            | true => some (l, h, m)

def T.evOpt (t : T) : Option Operand → Option (Option V)
  | none => some none
  | some x => match t.ev x with
    | none => none
    | some v => some (some v)

def sliceV (E : Env) (ty : TypeId) (x : V) (lo hi mx : Option V) : Option V :=
  match E.ty ty, x with
  | some { kind := .string, .. }, .s l => match mx with
    | some _ => none
    | none => match boundsV (List.len l) (List.len l) lo hi none with
      | none => none
      | some (a, b, _) => match List.cut l a (b - a) with
        | some r => some (.s r)
        | none => none
  | some { kind := .slice e, .. }, .sl base len cap z ex =>
    match boundsV len cap lo hi mx, E.ty e with
    | some (l, h, m), some te => match base with
      | none => some (.sl none 0 0 z true)
      | some a => match Nat.beq te.size z with
        | false => none
        | true => match (ex || mx.isSome) && Nat.beq m l with
          | true => some (.sl (some a) 0 0 z true)
          | false => some (.sl (some (a.shift (l * z))) (h - l) (m - l) z (ex || mx.isSome))
    | _, _ => none
  | _, _ => none

/-! ### Runes -/
def validN (c : Nat) : Bool := Nat.blt c 55296 || (Nat.ble 57344 c && Nat.ble c 1114111)

def decodeL : List UInt8 → Nat × Nat
  | [] => (65533, 1)
  | b :: r =>
    let b0 := b.toNat
    match Nat.blt b0 128 with
    | true => (b0, 1)
    | false =>
    match Nat.beq (b0 / 32) 6, r with
    | true, c1 :: _ =>
      match Nat.beq (c1.toNat / 64) 2 with
      | false => (65533, 1)
      | true => let c := (b0 % 32) * 64 + c1.toNat % 64
        match Nat.ble 128 c with
        | true => (c, 2)
        | false => (65533, 1)
    | _, _ =>
    match Nat.beq (b0 / 16) 14, r with
    | true, c1 :: c2 :: _ =>
      match Nat.beq (c1.toNat / 64) 2 && Nat.beq (c2.toNat / 64) 2 with
      | false => (65533, 1)
      | true => let c := (b0 % 16) * 4096 + (c1.toNat % 64) * 64 + c2.toNat % 64
        match Nat.ble 2048 c && validN c with
        | true => (c, 3)
        | false => (65533, 1)
    | _, _ =>
    match Nat.beq (b0 / 8) 30, r with
    | true, c1 :: c2 :: c3 :: _ =>
      match Nat.beq (c1.toNat / 64) 2 && (Nat.beq (c2.toNat / 64) 2 && Nat.beq (c3.toNat / 64) 2) with
      | false => (65533, 1)
      | true => let c := (b0 % 8) * 262144 + (c1.toNat % 64) * 4096 + (c2.toNat % 64) * 64 + c3.toNat % 64
        match Nat.ble 65536 c && validN c with
        | true => (c, 4)
        | false => (65533, 1)
    | _, _ => (65533, 1)

/-! ### '==' -/
def eqPtr (h : Heap) (a c : Ad) : Option Bool :=
  match Nat.beq a.f c.f with
  | true => match Nat.beq a.v c.v with
    | true => some (Nat.beq a.o c.o)
    | false => none
  | false => match h.blks.get a.f, h.blks.get c.f with
    | some (.fam x), some (.fam y) => match x.str || y.str with
      | false => some false
      | true => none
    | _, _ => none

end
end Go.Am

/-
  THE ABSTRACT MACHINE: one operation, a region, a body, a call.
-/
namespace Go.Am
noncomputable section

/-! ### Cells in and out -/
def firstCells (h : Heap) (z n : Nat) : V → Option (List V)
  | .sl (some a) len _ z' _ => match Nat.beq z z' && Nat.ble n len with
    | true => h.loads a.f a.v a.o (n * z)
    | false => none
  | .sl none _ _ _ _ => match n with
    | 0 => some []
    | _ => none
  | .s l => match List.cut l 0 n, Nat.beq z 1 with
    | some r, true => some (r.map fun b => .i .u8 b.toNat)
    | _, _ => none
  | _ => none

def lenOfV : V → Option Nat
  | .sl _ n _ _ _ => some n
  | .s l => some (List.len l)
  | _ => none

def roomy (n : Nat) : Bool := Nat.ble n 1099511627776

/-- append: what is laid behind is known, n items of it. -/
def appendV (h : Heap) (e : TypeId) (z bytes : Nat) (s : V) (n : Nat) (nw : List V) : Option (V × Heap) :=
  match s with
  | .sl base len cap z' ex =>
    match roomy ((len + n) * bytes) && (roomy (len + n) && (!(Nat.beq z 0) && allOne nw)) with
    | false => none
    | true =>
    match base with
    | none => match Nat.beq len 0 && (Nat.beq cap 0 && ex) with
      | false => none
      | true => match n with
        | 0 => some (s, h)
        | _ => some (.sl (some ⟨h.next, 0, 0⟩) (len + n) (len + n) z false, h.alloc e nw)
    | some a => match Nat.beq z z' with
      | false => none
      | true => match Nat.ble (len + n) cap with
        | true => match h.stores a.f a.v (a.o + len * z) nw with
          | none => none
          | some h' => some (.sl (some a) (len + n) cap z ex, h')
        | false => match ex with
          | true => match h.loads a.f a.v a.o (len * z) with
            | none => none
            | some old => some (.sl (some ⟨h.next, 0, 0⟩) (len + n) (len + n) z false, h.alloc e (old ++ nw))
          | false => match h.blks.get a.f with
            | some (.fam f) => match Nat.beq a.v f.ver && (Nat.ble f.ext (a.o + (len + n) * z) && Nat.beq f.elem e) with
              | false => none
              | true => some (.sl (some ⟨a.f, Nat.succ f.ver, a.o⟩) (len + n) (len + n) z false, h.grow a.f f (a.o + len * z) nw)
            | _ => none
  | _ => none

def goI (n : Nat) : V := .i .i64 n

def zeroCellsV (E : Env) (e : TypeId) : Option (List V) :=
  match E.ty e with
  | some { zero := some l, .. } => some l
  | _ => none

def sameK : TK → V → V → Option Bool
  | .int _, .i j a, .i j' b => match kindEq j j' with | true => some (intEq a b) | false => none
  | .string, .s a, .s b => some (bytesEq a b)
  | .bool, .b a, .b b => some (boolEq a b)
  | _, _, _ => none

def findK (kd : TK) (k : V) : List (V × V × Nat) → Nat → Option (Option (Nat × V))
  | [], _ => some none
  | (x, y, _) :: es, i => match sameK kd k x with
    | some true => some (some (i, y))
    | some false => findK kd k es (i + 1)
    | none => none

def keyKind (E : Env) (t : TypeId) : Option TK :=
  match E.ty t with
  | some ti => match ti.kind with
    | .int k => some (.int k)
    | .string => some .string
    | .bool => some .bool
    | _ => none
  | none => none

def zeroV (E : Env) (t : TypeId) : Option V :=
  match E.ty t with
  | some ti => match ti.zero with
    | some z => match ti.agg with
      | true => some (V.agg z)
      | false => match z with
        | [x] => some x
        | _ => none
    | none => none
  | none => none

def eraseAt {α : Type} : List α → Nat → List α
  | [], _ => []
  | x :: xs, n => match n with
    | 0 => xs
    | k + 1 => x :: eraseAt xs k

def setAt {α : Type} (f : α → α) : List α → Nat → List α
  | [], _ => []
  | x :: xs, n => match n with
    | 0 => f x :: xs
    | k + 1 => x :: setAt f xs k

def mapOf (h : Heap) (r : Nat) : Option (List (V × V × Nat) × Nat) :=
  match h.blks.get r with
  | some (.map es c) => some (es, c)
  | _ => none

def entsOf (h : Heap) : V → Option (List (V × V × Nat))
  | .m none => some []
  | .m (some r) => match mapOf h r with
    | some (es, _) => some es
    | none => none
  | _ => none

def lookupV (E : Env) (ty : TypeId) (m k : V) (ok : Bool) (h : Heap) : Option V :=
  match E.ty ty with
  | some { kind := .map kt et, .. } => match keyKind E kt, entsOf h m with
    | some kd, some es => match findK kd k es 0 with
      | none => none
      | some (some (_, v)) => some (match ok with | true => .tup [v, .b true] | false => v)
      | some none => match zeroV E et with
        | none => none
        | some v => some (match ok with | true => .tup [v, .b false] | false => v)
    | _, _ => none
  | _ => none

def mapPut (E : Env) (ty : TypeId) (m k x : V) (h : Heap) : Option Heap :=
  match E.ty ty, m with
  | some { kind := .map kt _, .. }, .m (some r) => match keyKind E kt, mapOf h r with
    | some kd, some (es, c) => match findK kd k es 0 with
      | none => none
      | some (some (i, _)) => some (h.setBlk r (.map (setAt (fun e => (k, x, e.2.2)) es i) c))
      | some none => some (h.setBlk r (.map (es ++ [(k, x, c)]) (c + 1)))
    | _, _ => none
  | _, _ => none

def mapEnt (E : Env) (ty : TypeId) (m k : V) (h : Heap) : Option (V × Heap) :=
  match E.ty ty, m with
  | some { kind := .map kt et, .. }, .m (some r) => match keyKind E kt, mapOf h r with
    | some kd, some (es, c) => match findK kd k es 0 with
      | none => none
      | some (some (i, v)) => match List.at? es i with
        | some (_, _, b) => some (.tup [v, goI b], h.setBlk r (.map (setAt (fun e => (k, e.2.1, e.2.2)) es i) c))
        | none => none
      | some none => match zeroV E et with
        | some z => some (.tup [z, goI c], h.setBlk r (.map (es ++ [(k, z, c)]) (c + 1)))
        | none => none
    | _, _ => none
  | _, _ => none

def bornAt (n : Nat) : List (V × V × Nat) → Nat → Option Nat
  | [], _ => none
  | (_, _, b) :: es, i => match Nat.beq b n with
    | true => some i
    | false => bornAt n es (i + 1)

def entSet (m s x : V) (h : Heap) : Option Heap :=
  match m, s with
  | .m (some r), .i _ (.ofNat n) => match mapOf h r with
    | some (es, c) => match bornAt n es 0 with
      | some i => some (h.setBlk r (.map (setAt (fun e => (e.1, x, e.2.2)) es i) c))
      | none => none
    | none => none
  | _, _ => none

def biLen (E : Env) (argTypes : List TypeId) (args : List V) (h : Heap) : Option (V × Heap) :=
  match args with
  | [x] => match argTypes with
    | t :: _ => match E.ty t, x with
      | some { kind := .string, .. }, .s l => some (goI (List.len l), h)
      | some { kind := .slice _, .. }, .sl _ n _ _ _ => some (goI n, h)
      | some { kind := .array n _, .. }, _ => some (goI n, h)
      | some { kind := .map _ _, .. }, .m none => some (goI 0, h)
      | some { kind := .map _ _, .. }, .m (some r) => match mapOf h r with
        | some (es, _) => some (goI (List.len es), h)
        | none => none
      | _, _ => none
    | _ => none
  | _ => none

def biMin (args : List V) (h : Heap) : Option (V × Heap) :=
  match args with
  | [.i k x, .i j y] => match kindEq k j with
    | true => some (.i k (match intLe x y with | true => x | false => y), h)
    | false => none
  | _ => none

def biMax (args : List V) (h : Heap) : Option (V × Heap) :=
  match args with
  | [.i k x, .i j y] => match kindEq k j with
    | true => some (.i k (match intLe x y with | true => y | false => x), h)
    | false => none
  | _ => none

def biAppend (E : Env) (argTypes : List TypeId) (args : List V) (h : Heap) : Option (V × Heap) :=
  match args with
  | [s, x] => match argTypes with
    | [ts, tx] => match E.ty ts, E.ty tx with
      | some { kind := .slice e, .. }, some ix => match E.ty e with
        | none => none
        | some te => match ix.kind with
          | .int _ => match x, te.zero with
            | .i _ (.ofNat n), some zs => match roomy (n * te.bytes) && (roomy n && Nat.beq zs.length te.size) with
              | true => appendV h e te.size te.bytes s n (rep zs n)
              | false => none
            | _, _ => none
          | _ => match lenOfV x, te.zero with
            | some n, some zs => match firstCells h te.size n x, Nat.beq zs.length te.size with
              | some nw, true => appendV h e te.size te.bytes s n nw
              | _, _ => none
            | _, _ => none
      | _, _ => none
    | _ => none
  | _ => none

def biCopy (E : Env) (argTypes : List TypeId) (args : List V) (h : Heap) : Option (V × Heap) :=
  match args with
  | [d, x] => match argTypes with
    | t :: _ => match E.ty t, d with
      | some { kind := .slice e, .. }, .sl base dl _ z _ => match E.ty e, lenOfV x with
        | some te, some m =>
          match firstCells h te.size (Nat.min m dl) x with
          | none => none
          | some nw => match base with
            | none => match nw with
              | [] => some (goI (Nat.min m dl), h)
              | _ => none
            | some a => match Nat.beq z te.size with
              | false => none
              | true => match h.stores a.f a.v a.o nw with
                | none => none
                | some h' => some (goI (Nat.min m dl), h')
        | _, _ => none
      | _, _ => none
    | _ => none
  | _ => none

def biClear (E : Env) (argTypes : List TypeId) (args : List V) (h : Heap) : Option (V × Heap) :=
  match args with
  | [x] => match argTypes with
    | t :: _ => match E.ty t, x with
      | some { kind := .slice e, .. }, .sl base n _ z _ => match base, n with
        | none, _ => some (.tup [], h)
        | some _, 0 => some (.tup [], h)
        | some a, _ => match E.ty e with
          | some { zero := some zs, size := sz, .. } => match Nat.beq sz z && (Nat.beq zs.length sz && !(Nat.beq sz 0)) with
            | false => none
            | true => match h.stores a.f a.v a.o (rep zs n) with
              | none => none
              | some h' => some (.tup [], h')
          | _ => none
      | some { kind := .map _ _, .. }, .m none => some (.tup [], h)
      | some { kind := .map _ _, .. }, .m (some r) => match mapOf h r with
        | some (_, c) => some (.tup [], h.setBlk r (.map [] c))
        | none => none
      | _, _ => none
    | _ => none
  | _ => none

def builtinV (E : Env) (b : Builtin) (argTypes : List TypeId) (args : List V) (h : Heap) : Option (V × Heap) :=
  match b with
  | .len => biLen E argTypes args h
  | .min => biMin args h
  | .max => biMax args h
  | .append => biAppend E argTypes args h
  | .copy => biCopy E argTypes args h
  | .clear => biClear E argTypes args h
  | _ => none

/-- The place of a field. -/
def fieldOf (E : Env) (s : TypeId) (f : Nat) : Option (TypeId × Nat × Nat) :=
  match E.ty s with
  | some { kind := .struct fs, .. } => List.at? fs f
  | _ => none

def convertV (E : Env) (src dst : TypeId) (x : V) (h : Heap) : Option (V × Heap) :=
  match E.ty src, E.ty dst with
  | some _, some d => match d.kind, x with
    | .int k, .i _ n => some (.i k (wrapF k n), h)
    | .string, .s l => some (.s l, h)
    | _, _ => none
  | _, _ => none

def eqAgg : List TK → List V → List V → Option Bool
  | [], [], [] => some true
  | k :: ks, x :: xs, y :: ys => match eqCell k x y with
    | some true => eqAgg ks xs ys
    | some false => some false
    | none => none
  | _, _, _ => none

def eqV (E : Env) (ty : TypeId) (cst : Bool) (x y : V) (h : Heap) : Option Bool :=
  match E.ty ty with
  | none => none
  | some ti => match x, y with
    | .p (some a), .p (some c) => match ti.kind with
      | .pointer e => match E.ty e with
        | some te => match Nat.beq te.size 0 with
          | true => none
          | false => eqPtr h a c
        | none => none
      | _ => none
    | .nifc, .nifc => match cst, ti.kind with
      | true, .iface => some true
      | _, _ => none
    | .agg l, .agg r => match ti.plainEq with
      | some ks => eqAgg ks l r
      | none => none
    | x, y => eqCell ti.kind x y

def isConst : Operand → Bool
  | .const _ => true
  | _ => false

def binV (E : Env) (op : BinOp) (ty : TypeId) (cst : Bool) (x y : V) (h : Heap) : Option V :=
  match op, x, y with
  | .shl, .i k a, .i _ c | .shr, .i k a, .i _ c => shiftInt op k a c
  | op, .i k a, .i j c => match kindEq k j with
    | true => binInt op k a c
    | false => none
  | op, .s a, .s c => binStr op a c
  | .eql, x, y => match eqV E ty cst x y h with
    | some r => some (.b r)
    | none => none
  | .neq, x, y => match eqV E ty cst x y h with
    | some r => some (.b (!r))
    | none => none
  | _, _, _ => none

def unV (op : UnOp) (x : V) : Option V :=
  match op, x with
  | .neg, .i k n => some (.i k (wrapF k (0 - n)))
  | .xor, .i k n => some (.i k (k.wrap (BitVec.ofInt k.bits (if k.signed then -1 else k.max) ^^^ BitVec.ofInt k.bits n).toNat))
  | .not, .b x => some (.b (!x))
  | _, _ => none

/-- What an operation does to memory. -/
inductive Kd where
  | pure | load | new | eff
  deriving DecidableEq

def isPtr : Option V → Bool
  | some (.p (some _)) => true
  | _ => false

def kindOf (t : T) (o : Oper) : Kd :=
  match o.op with
  | .load .. => .load
  | .alloc _ | .box .. | .buildSlice .. | .makeMap .. | .makeSlice .. => .new
  | .move _ | .assign _ | .pick .. | .build .. | .nilCheck _ | .unOp .. | .makeInterface .. | .makeFunc .. | .slice .. | .fieldAddr .. | .field ..
  | .indexAddr .. | .index .. | .extract .. => .pure
  | .binOp _ _ x y _ => match isPtr (t.ev x) && isPtr (t.ev y) with
    | true => .eff
    | false => .pure
  | .convert _ _ x => match t.ev x with
    | some (.i _ _) => .pure
    | _ => .eff
  | .call { callee := .builtin .len, args, .. } => match t.evs args.toList with
    | some [.s _] | some [.sl _ _ _ _ _] => .pure
    | _ => .eff
  | .call { callee := .builtin .min, .. } | .call { callee := .builtin .max, .. } => .pure
  | _ => .eff

structure Calls' where
  call : FuncId → List V → Heap → Option (V × Heap)
  yld : Nat → List V → Heap → Option (V × Heap)

/-- A call of a function value. -/
def callV (E : Env) (C : Calls') (f : V) (args : List V) (h : Heap) : Option (V × Heap) :=
  match f with
  | .fn (.func g) first captured => C.call g (first ++ (args ++ captured)) h
  | .fn (.yield l) first _ => C.yld l (first ++ args) h
  | .fn (.method name) first _ => match first ++ args with
    | .ifc t v :: r => match E.mth t name with
      | some g => C.call g (v :: r) h
      | none => none
    | _ => none
  | _ => none

def opMove (x : Operand) (t : T) (h : Heap) : Option (V × Heap) :=
  match t.ev x with
  | some v => some (v, h)
  | none => none

def opPick (c : Operand) (a : Operand) (b : Operand) (t : T) (h : Heap) : Option (V × Heap) :=
  match t.ev c with
  | some (.b true) => match t.ev a with
    | some v => some (v, h)
    | none => none
  | some (.b false) => match t.ev b with
    | some v => some (v, h)
    | none => none
  | _ => none

def opAlloc (E : Env) (e : TypeId) (_ : T) (h : Heap) : Option (V × Heap) :=
  match zeroCellsV E e with
  | some l => match allOne l with
    | true => some (.p (some ⟨h.next, 0, 0⟩), h.alloc e l)
    | false => none
  | none => none

def opBox (e : TypeId) (x : Operand) (t : T) (h : Heap) : Option (V × Heap) :=
  match t.ev x with
  | some v => match allOne v.cells with
    | true => some (.p (some ⟨h.next, 0, 0⟩), h.alloc e v.cells)
    | false => none
  | none => none

def placeOf (fs : List (TypeId × Nat × Nat)) (i : Nat) : Option (Nat × Nat) :=
  match List.at? fs i with
  | some (_, o, s) => some (o, s)
  | none => none

def opBuild (E : Env) (ty : TypeId) (parts : Array (Nat × Operand)) (t : T) (h : Heap) : Option (V × Heap) :=
  match E.ty ty with
  | some ti => match ti.zero, t.evParts parts.toList with
    | some zs, some ps => match ti.kind with
      | .struct fs => match fillV (placeOf fs) zs ps with
        | some l => some (.agg l, h)
        | none => none
      | .array _ e => match E.ty e with
        | some te => match fillV (fun i => some (i * te.size, te.size)) zs ps with
          | some l => some (.agg l, h)
          | none => none
        | none => none
      | _ => none
    | _, _ => none
  | none => none

def opBuildSlice (E : Env) (ty : TypeId) (len : Nat) (parts : Array (Nat × Operand)) (t : T) (h : Heap) : Option (V × Heap) :=
  match E.ty ty with
  | some { kind := .slice e, .. } => match E.ty e with
    | some te => match te.zero, t.evParts parts.toList with
      | some zs, some ps => match Nat.ble (len * te.size) 65536 && (Nat.beq zs.length te.size && !(Nat.beq te.size 0)) with
        | false => none
        | true => match fillV (fun i => some (i * te.size, te.size)) (rep zs len) ps with
          | some l => match allOne l with
            | true => some (.sl (some ⟨h.next, 0, 0⟩) len len te.size true, h.alloc e l)
            | false => none
          | none => none
      | _, _ => none
    | none => none
  | _ => none

def opLoad (E : Env) (ty : TypeId) (a : Operand) (t : T) (h : Heap) : Option (V × Heap) :=
  match t.ev a with
  | some (.p (some a)) => match E.ty ty with
    | some ti => match ti.agg with
      | true => match h.loads a.f a.v a.o ti.size with
        | some l => some (.agg l, h)
        | none => none
      | false => match h.load a with
        | some v => some (v, h)
        | none => none
    | none => none
  | _ => none

def opStore (E : Env) (ty : TypeId) (a : Operand) (x : Operand) (t : T) (h : Heap) : Option (V × Heap) :=
  match t.ev a, t.ev x with
  | some (.p (some a)), some v => match E.ty ty with
    | some ti => match Nat.beq v.cells.length ti.size with
      | true => match h.stores a.f a.v a.o v.cells with
        | some h' => some (V.undef, h')
        | none => none
      | false => none
    | none => none
  | _, _ => none

def opNilCheck (x : Operand) (t : T) (h : Heap) : Option (V × Heap) :=
  match t.ev x with
  | some (.p (some a)) => some (.p (some a), h)
  | some (.ifc u v) => some (.ifc u v, h)
  | some (.fn (.func f) x y) => some (.fn (.func f) x y, h)
  | some (.fn (.yield f) x y) => some (.fn (.yield f) x y, h)
  | _ => none

def opBinOp (E : Env) (op : BinOp) (ty : TypeId) (x : Operand) (y : Operand) (t : T) (h : Heap) : Option (V × Heap) :=
  match t.ev x, t.ev y with
  | some a, some c => match binV E op ty (isConst x || isConst y) a c h with
    | some v => some (v, h)
    | none => none
  | _, _ => none

def opUnOp (op : UnOp) (x : Operand) (t : T) (h : Heap) : Option (V × Heap) :=
  match t.ev x with
  | some v => match unV op v with
    | some r => some (r, h)
    | none => none
  | none => none

def opConvert (E : Env) (src : TypeId) (dst : TypeId) (x : Operand) (t : T) (h : Heap) : Option (V × Heap) :=
  match t.ev x with
  | some v => convertV E src dst v h
  | none => none

def opMakeInterface (E : Env) (ty : TypeId) (x : Operand) (t : T) (h : Heap) : Option (V × Heap) :=
  match t.ev x, E.ty ty with
  | some v, some ti => match ti.kind with
    | .iface => none
    | _ => some (.ifc ty v, h)
  | _, _ => none

def notYield : Fn → Bool
  | .yield _ => false
  | _ => true

def opMakeFunc (fn : Fn) (first : Array Operand) (captured : Array Operand) (t : T) (h : Heap) : Option (V × Heap) :=
  match notYield fn with
  | false => none
  | true => match t.evs first.toList, t.evs captured.toList with
    | some x, some y => some (.fn fn x y, h)
    | _, _ => none

def opMakeMap (E : Env) (ty : TypeId) (r : Option Operand) (t : T) (h : Heap) : Option (V × Heap) :=
  match E.ty ty with
  | some { kind := .map _ _, .. } => match (match r with | none => some true | some x => match t.ev x with | some (.i _ _) => some true | _ => none) with
    | some _ => some (.m (some h.next), h.newBlk (.map [] 0))
    | none => none
  | _ => none

def opMakeSlice (E : Env) (ty : TypeId) (l : Operand) (c : Operand) (t : T) (h : Heap) : Option (V × Heap) :=
  match E.ty ty, t.ev l, t.ev c with
  | some { kind := .slice e, .. }, some (.i _ (.ofNat n)), some (.i _ (.ofNat k)) => match E.ty e with
    | some te => match te.zero with
      | some zs => match roomy (k * te.bytes) && (roomy k && (Nat.ble n k && (Nat.beq zs.length te.size && (!(Nat.beq te.size 0) && allOne zs)))) with
        | true => some (.sl (some ⟨h.next, 0, 0⟩) n k te.size true, h.alloc e (rep zs k))
        | false => none
      | none => none
    | none => none
  | _, _, _ => none

def opSlice (E : Env) (ty : TypeId) (x : Operand) (lo : Option Operand) (hi : Option Operand) (mx : Option Operand) (t : T) (h : Heap) : Option (V × Heap) :=
  match t.ev x, t.evOpt lo, t.evOpt hi, t.evOpt mx with
  | some v, some a, some b, some c => match sliceV E ty v a b c with
    | some r => some (r, h)
    | none => none
  | _, _, _, _ => none

def opFieldAddr (E : Env) (s : TypeId) (x : Operand) (f : Nat) (t : T) (h : Heap) : Option (V × Heap) :=
  match t.ev x, fieldOf E s f with
  | some (.p (some a)), some (_, o, sz) => match Nat.beq sz 0 with
    | true => none
    | false => some (.p (some (a.shift o)), h)
  | _, _ => none

def opField (E : Env) (s : TypeId) (x : Operand) (f : Nat) (t : T) (h : Heap) : Option (V × Heap) :=
  match t.ev x, fieldOf E s f with
  | some (.agg l), some (ft, o, _) => match E.ty ft with
    | some ti => match partV ti l o with
      | some v => some (v, h)
      | none => none
    | none => none
  | _, _ => none

def opIndexAddr (E : Env) (ty : TypeId) (x : Operand) (ix : Operand) (t : T) (h : Heap) : Option (V × Heap) :=
  match E.ty ty, t.ev x, t.ev ix with
  | some { kind := .array n e, .. }, some (.p (some a)), some (.i _ (.ofNat i)) => match E.ty e with
    | some te => match Nat.blt i n with
      | true => some (.p (some (a.shift (i * te.size))), h)
      | false => none
    | none => none
  | some { kind := .slice e, .. }, some (.sl (some a) len _ z _), some (.i _ (.ofNat i)) => match E.ty e with
    | some te => match Nat.blt i len && Nat.beq te.size z with
      | true => some (.p (some (a.shift (i * z))), h)
      | false => none
    | none => none
  | _, _, _ => none

def opIndex (E : Env) (ty : TypeId) (x : Operand) (ix : Operand) (t : T) (h : Heap) : Option (V × Heap) :=
  match E.ty ty, t.ev x, t.ev ix with
  | some { kind := .array n e, .. }, some (.agg l), some (.i _ (.ofNat i)) => match E.ty e with
    | some te => match Nat.blt i n with
      | true => match partV te l (i * te.size) with
        | some v => some (v, h)
        | none => none
      | false => none
    | none => none
  | some { kind := .string, .. }, some (.s l), some (.i _ (.ofNat i)) => match List.at? l i with
    | some c => some (.i .u8 c.toNat, h)
    | none => none
  | _, _, _ => none

def opLookup (E : Env) (ty : TypeId) (x : Operand) (ix : Operand) (ok : Bool) (t : T) (h : Heap) : Option (V × Heap) :=
  match t.ev x, t.ev ix with
  | some m, some k => match lookupV E ty m k ok h with
    | some v => some (v, h)
    | none => none
  | _, _ => none

def opMapUpdate (E : Env) (ty : TypeId) (m : Operand) (k : Operand) (x : Operand) (t : T) (h : Heap) : Option (V × Heap) :=
  match t.ev m, t.ev k, t.ev x with
  | some m, some k, some x => match mapPut E ty m k x h with
    | some h' => some (V.undef, h')
    | none => none
  | _, _, _ => none

def opMapEntry (E : Env) (ty : TypeId) (m : Operand) (k : Operand) (t : T) (h : Heap) : Option (V × Heap) :=
  match t.ev m, t.ev k with
  | some m, some k => mapEnt E ty m k h
  | _, _ => none

def opEntryStore (m : Operand) (s : Operand) (x : Operand) (t : T) (h : Heap) : Option (V × Heap) :=
  match t.ev m, t.ev s, t.ev x with
  | some m, some s, some x => match entSet m s x h with
    | some h' => some (V.undef, h')
    | none => none
  | _, _, _ => none

def opRange (E : Env) (ty : TypeId) (x : Operand) (t : T) (h : Heap) : Option (V × Heap) :=
  match E.ty ty, t.ev x with
  | some { kind := .string, .. }, some (.s l) => some (.p (some ⟨h.next, 0, 0⟩), h.newBlk (.siter l 0))
  | some { kind := .map _ _, .. }, some (.m none) => some (.p (some ⟨h.next, 0, 0⟩), h.newBlk (.miter none 0 [] 0))
  | some { kind := .map _ _, .. }, some (.m (some r)) => match mapOf h r with
    | some (_, c) => some (.p (some ⟨h.next, 0, 0⟩), h.newBlk (.miter (some r) c [] c))
    | none => none
  | _, _ => none

def opNext (it : Operand) (str : Bool) (t : T) (h : Heap) : Option (V × Heap) :=
  match t.ev it with
  | some (.p (some ⟨r, 0, 0⟩)) => match h.blks.get r, str with
    | some (.siter l pos), true => match l with
      | [] => some (.tup [.b false], h)
      | _ :: _ => match decodeL l with
        | (c, n) => some (.tup [.b true, .i .i64 pos, .i .i32 c], h.setBlk r (.siter (l.drop n) (pos + n)))
    | some (.miter none _ _ _), false => some (.tup [.b false], h)
    | some (.miter (some m) since seen last), false => match mapOf h m with
      | some (es, clock) => match es, seen with
        | [], _ => some (.tup [.b false], h)
        | [(k, x, born)], [] => match Nat.blt born since with
          | true => some (.tup [.b true, k, x], h.setBlk r (.miter (some m) since [born] clock))
          | false => none
        | [(_, _, born)], [b'] => match Nat.beq born b' && Nat.blt born last with
          | true => some (.tup [.b false], h)
          | false => none
        | _, _ => none
      | none => none
    | _, _ => none
  | _ => none

def opExtract (x : Operand) (k : Nat) (t : T) (h : Heap) : Option (V × Heap) :=
  match t.ev x with
  | some (.tup l) => match List.at? l k with
    | some v => some (v, h)
    | none => none
  | _ => none

def opCall (E : Env) (C : Calls') (c : Call) (t : T) (h : Heap) : Option (V × Heap) :=
  match t.evs c.args.toList with
  | none => none
  | some args => match c.callee with
    | .builtin b => builtinV E b c.argTypes.toList args h
    | .invoke r name => match t.ev r with
      | some (.ifc u v) => match E.mth u name with
        | some g => C.call g (v :: args) h
        | none => none
      | _ => none
    | .value f => match t.ev f with
      | some fv => callV E C fv args h
      | none => none

def opV (E : Env) (C : Calls') (o : Oper) (t : T) (h : Heap) : Option (V × Heap) :=
  match o.op with
  | .move x | .assign x => opMove x t h
  | .pick c a b => opPick c a b t h
  | .alloc e => opAlloc E e t h
  | .box e x => opBox e x t h
  | .build ty parts => opBuild E ty parts t h
  | .buildSlice ty len parts => opBuildSlice E ty len parts t h
  | .load ty a => opLoad E ty a t h
  | .store ty a x => opStore E ty a x t h
  | .nilCheck x => opNilCheck x t h
  | .binOp op ty x y _ => opBinOp E op ty x y t h
  | .unOp op _ x => opUnOp op x t h
  | .convert src dst x => opConvert E src dst x t h
  | .makeInterface ty x => opMakeInterface E ty x t h
  | .makeFunc fn first captured => opMakeFunc fn first captured t h
  | .makeMap ty r => opMakeMap E ty r t h
  | .makeSlice ty l c => opMakeSlice E ty l c t h
  | .slice ty x lo hi mx => opSlice E ty x lo hi mx t h
  | .fieldAddr s x f => opFieldAddr E s x f t h
  | .field s x f => opField E s x f t h
  | .indexAddr ty x ix => opIndexAddr E ty x ix t h
  | .index ty x ix => opIndex E ty x ix t h
  | .lookup ty x ix ok => opLookup E ty x ix ok t h
  | .mapUpdate ty m k x => opMapUpdate E ty m k x t h
  | .mapEntry ty m k => opMapEntry E ty m k t h
  | .entryStore _ m s x => opEntryStore m s x t h
  | .range ty x => opRange E ty x t h
  | .next it str => opNext it str t h
  | .extract x k => opExtract x k t h
  | .call c => opCall E C c t h
  | _ => none

/-! ### A region -/
def yieldedV (ops : Array Oper) (t : T) (j : Nat) : Option (Option Bool) :=
  match (ops[j]?).bind (·.dst) with
  | none => some none
  | some d => match t.get d with
    | some (.b x) => some (some x)
    | some _ => some none
    | none => none

def wantedV (ops : Array Oper) (t : T) (o : Oper) : Option Bool :=
  match o.guard with
  | none => some true
  | some (j, want) => match yieldedV ops t j with
    | none => none
    | some (some x) => some (boolEq x want)
    | some none => some false

/-- One operation, with its slot. -/
def stepV (E : Env) (C : Calls') (ops : Array Oper) (o : Oper) (t : T) (h : Heap) : Option (T × Heap) :=
  match wantedV ops t o with
  | none => none
  | some false => match t.put o.dst V.undef with
    | some t' => some (t', h)
    | none => none
  | some true => match opV E C o t h with
    | none => none
    | some (v, h') => match t.put o.dst v with
      | some t' => some (t', h')
      | none => none

def runV (E : Env) (C : Calls') (ops : Array Oper) : List Oper → T → Heap → Option (T × Heap)
  | [], t, h => some (t, h)
  | o :: rest, t, h => match stepV E C ops o t h with
    | none => none
    | some (t', h') => runV E C ops rest t' h'

/-- Which operations come ahead of each, whatever the order: as numbers' bits. -/
def maskOf (b : Tr Nat) : List Edge → Nat → Nat
  | [], m => m
  | e :: es, m => match Region.binds .any e with
    | true => maskOf b es (Nat.lor (Nat.lor m (Nat.pow 2 e.on)) (match b.get e.on with | some x => x | none => 0))
    | false => maskOf b es m

def befT : List Oper → Nat → Tr Nat → Tr Nat
  | [], _, b => b
  | o :: os, k, b => befT os (Nat.succ k) (b.set k (maskOf b o.after.toList 0))

def bitT (b : Tr Nat) (k j : Nat) : Bool :=
  match b.get k with
  | some m => Nat.testBit m j
  | none => false

/-- How many cells a load of a type takes, and the value of them. -/
def loadN (ti : TI) : Nat :=
  match ti.agg with
  | true => ti.size
  | false => 1

def loadV (agg : Bool) (xs : List V) : V :=
  match agg with
  | true => .agg xs
  | false => match xs with
    | [x] => x
    | _ => V.undef

/-- What a region that draws its order has done. -/
structure Log where
  snaps : List (Option Nat × Nat × Heap)    -- ahead of each effect: the effect ahead of it, its number, the heap
  loads : List (Nat × Ad × Nat × List V)
  news : List (Nat × Nat × Blk)
  last : Option Nat                         -- the last effect's number

def drawV (E : Env) (C : Calls') (ops : Array Oper) (bef : Tr Nat) : Nat → List Oper → T → Heap → Log → Option (T × Heap × Log)
  | _, [], t, h, l => some (t, h, l)
  | k, o :: rest, t, h, l => match stepV E C ops o t h with
    | none => none
    | some (t', h') =>
      match wantedV ops t o with
      | some true => match kindOf t o with
        | .eff => match (match l.last with | none => true | some j => bitT bef k j) with
          | true => drawV E C ops bef (k + 1) rest t' h' ⟨(l.last, k, h) :: l.snaps, l.loads, l.news, some k⟩
          | false => none
        | .load => match o.op with
          | .load ty a => match t.ev a, E.ty ty with
            | some (.p (some a)), some ti =>
              match h.loads a.f a.v a.o (loadN ti) with
              | some xs => drawV E C ops bef (k + 1) rest t' h' ⟨l.snaps, (k, a, loadN ti, xs) :: l.loads, l.news, l.last⟩
              | none => none
            | _, _ => none
          | _ => none
        | .new => match h'.blks.get h.next with
          | some b => drawV E C ops bef (k + 1) rest t' h' ⟨l.snaps, l.loads, (k, h.next, b) :: l.news, l.last⟩
          | none => none
        | .pure => drawV E C ops bef (k + 1) rest t' h' l
      | _ => drawV E C ops bef (k + 1) rest t' h' l

/-- Does a heap, met between two effects, hold what was loaded, as far as the load may come there? -/
def sameAt (bef : Tr Nat) (g : Heap) (pe ne : Option Nat) : List (Nat × Ad × Nat × List V) → Bool
  | [] => true
  | (i, a, n, xs) :: r =>
    (match (match pe with | none => false | some e => bitT bef e i) || (match ne with | none => false | some e => bitT bef i e) with
    | true => true
    | false => match Nat.blt a.f g.next with
      | false => true
      | true => match g.loads a.f a.v a.o n with
        | some ys => V.sames xs ys
        | none => false) && sameAt bef g pe ne r

def cellSame : Option (V × Nat) → Option (V × Nat) → Bool
  | none, none => true
  | some (x, s), some (y, u) => V.same x y && Nat.beq s u
  | _, _ => false

def trSame : Tr (V × Nat) → Tr (V × Nat) → Bool
  | .nil, .nil => true
  | .node v l r, .node v' l' r' => cellSame v v' && (trSame l l' && trSame r r')
  | _, _ => false

def sameBlk : Blk → Blk → Bool
  | .fam ⟨e, v, x, s, c⟩, .fam ⟨e', v', x', s', c'⟩ => Nat.beq e e' && (Nat.beq v v' && (Nat.beq x x' && (boolEq s s' && trSame c c')))
  | .map [] c, .map [] c' => Nat.beq c c'
  | _, _ => false

/-- Are the new blocks, as far as they may come late, as they were laid? -/
def bornSame (bef : Tr Nat) (g : Heap) (pe ne : Option Nat) : List (Nat × Nat × Blk) → Bool
  | [] => true
  | (i, f, b) :: r =>
    (match (match pe with | none => false | some e => bitT bef e i) || (match ne with | none => false | some e => bitT bef i e) with
    | true => true
    | false => match Nat.blt f g.next with
      | false => true
      | true => match g.blks.get f with
        | some b' => sameBlk b b'
        | none => false) && bornSame bef g pe ne r

def sameAll (bef : Tr Nat) (loads : List (Nat × Ad × Nat × List V)) (news : List (Nat × Nat × Blk)) : List (Option Nat × Nat × Heap) → Bool
  | [] => true
  | (pe, e, g) :: gs => sameAt bef g pe (some e) loads && (bornSame bef g pe (some e) news && sameAll bef loads news gs)

def regionV (E : Env) (C : Calls') (ops : Array Oper) (draw : Bool) (t : T) (h : Heap) : Option (T × Heap) :=
  match draw with
  | false => runV E C ops ops.toList t h
  | true => match drawV E C ops (befT ops.toList 0 .nil) 0 ops.toList t h ⟨[], [], [], none⟩ with
    | none => none
    | some (t', h', l) => match sameAt (befT ops.toList 0 .nil) h' l.last none l.loads && (bornSame (befT ops.toList 0 .nil) h' l.last none l.news && sameAll (befT ops.toList 0 .nil) l.loads l.news l.snaps) with
      | true => some (t', h')
      | false => none

/-! ### A body -/
inductive Ex where
  | nrm
  | exit (id : Nat)
  | ret

structure St where
  t : T
  ds : List Nat          -- what range-over-func loops have laid among the deferred calls
  h : Heap

structure Rc extends Calls' where
  code : FuncId → Option Nat → Code → St → Option (Ex × St)

def zipPut : List Tmp → List V → T → Option T
  | [], [], t => some t
  | d :: ds, x :: xs, t => match t.put (some d) x with
    | some t' => zipPut ds xs t'
    | none => none
  | _, _, _ => none

def lpOf (h : Heap) (l : Nat) : Option Lp :=
  match h.blks.get l with
  | some (.loop p) => some p
  | _ => none

/-- A loop over a function. -/
def rangeV (E : Env) (R : Rc) (f : FuncId) (g : Operand) (params : Array Tmp) (assign body : Code) (s : St) : Option (Ex × St) :=
  match s with
  | ⟨⟨n, m⟩, ds, h⟩ => match T.ev ⟨n, m⟩ g, h with
    | some gv, ⟨next, blks⟩ =>
      let l := Nat.succ next
      match callV E R.toCalls' gv [.fn (.yield l) [] []] ((Heap.newBlk ⟨next, blks⟩ .dfr).newBlk (.loop ⟨.ready, none, f, n, m, params, assign, body, next⟩)) with
      | none => none
      | some (_, h3) => match lpOf h3 l with
        | none => none
        | some ⟨state, pending, fn, n', m', ps, asg, bd, d⟩ => match state with
          | .busy => none
          | _ =>
            let s' : St := ⟨⟨n, m⟩, next :: ds, h3.setBlk l (.loop ⟨.exhausted, pending, fn, n', m', ps, asg, bd, d⟩)⟩
            match pending with
            | none => some (.nrm, s')
            | some .ret => some (.ret, s')
            | some (.exit j) => some (.exit j, s')
            | some _ => none
    | none, _ => none

def codeR (E : Env) (C : Calls') (ops : Array Oper) (draw : Bool) (s : St) : Option (Ex × St) :=
  match s with
  | ⟨t, ds, h⟩ => match regionV E C ops draw t h with
    | some (t', h') => some (.nrm, ⟨t', ds, h'⟩)
    | none => none

def codeS (R : Rc) (f : FuncId) (ro : Option Nat) (b : Code) : Option (Ex × St) → Option (Ex × St)
  | some (x, s) => match x with
    | .nrm => R.code f ro b s
    | .exit j => some (.exit j, s)
    | .ret => some (.ret, s)
  | none => none

def codeB (id : Nat) : Option (Ex × St) → Option (Ex × St)
  | some (x, s) => match x with
    | .nrm => some (.nrm, s)
    | .exit j => match Nat.beq j id with
      | true => some (.nrm, s)
      | false => some (.exit j, s)
    | .ret => some (.ret, s)
  | none => none

def codeC (R : Rc) (f : FuncId) (ro : Option Nat) (a b : Code) (s : St) : Option V → Option (Ex × St)
  | some (.b true) => R.code f ro a s
  | some (.b false) => R.code f ro b s
  | _ => none

def codeV (E : Env) (R : Rc) (f : FuncId) (ro : Option Nat) (c : Code) (s : St) : Option (Ex × St) :=
  match c with
  | .skip => some (.nrm, s)
  | .label _ => some (.nrm, s)
  | .region _ ops draw => codeR E R.toCalls' ops draw s
  | .seq a b => codeS R f ro b (R.code f ro a s)
  | .cond c a b => codeC R f ro a b s (s.t.ev c)
  | .block id b => codeB id (R.code f ro b s)
  | .loop b => codeS R f ro (.loop b) (R.code f ro b s)
  | .exit id => some (.exit id, s)
  | .ret => some (.ret, s)
  | .rangeFunc g params assign body => match ro with
    | some _ => none
    | none => rangeV E R f g params assign body s
  | _ => none

/-- The results of a call. -/
def resV (E : Env) (t : T) (h : Heap) : List ResultVar → Option (List V)
  | [] => some []
  | r :: rest => match (match r with
      | .tmp k => t.get k
      | .cell a ty => match t.get a, E.ty ty with
        | some (.p (some a)), some ti => match ti.agg with
          | true => match h.loads a.f a.v a.o ti.size with
            | some l => some (.agg l)
            | none => none
          | false => h.load a
        | _, _ => none) with
    | none => none
    | some v => match resV E t h rest with
      | some vs => some (v :: vs)
      | none => none

def single : List V → V
  | [x] => x
  | l => .tup l

def layT : Nat → List V → Tr V → Tr V
  | _, [], m => m
  | k, x :: xs, m => layT (k + 1) xs (m.set k x)

/-- Marks of range-over-func loops are taken from among the deferred calls. -/
def dropDs (h : Heap) : List Nat → Option Heap
  | [] => some h
  | d :: ds => match h.blks.get d with
    | some .dfr => dropDs (h.setBlk d .dead) ds
    | _ => none

def callF (E : Env) (R : Rc) (f : FuncId) (args : List V) (h : Heap) : Option (V × Heap) :=
  match E.fn f with
  | none => none
  | some fi =>
    let t : T := { n := Nat.max args.length fi.ntmps, m := layT 0 args .nil }
    match R.code f none fi.body { t, ds := [], h } with
    | some (.exit _, _) => none
    | some (_, s) => match dropDs s.h s.ds with
      | none => none
      | some h' => match resV E s.t h' fi.results with
        | some vs => some (single vs, h')
        | none => none
    | none => none

def yldF (R : Rc) (l : Nat) (args : List V) (h : Heap) : Option (V × Heap) :=
  match lpOf h l with
  | none => none
  | some p => match zipPut p.params.toList args { n := p.n, m := p.tmps } with
    | none => none
    | some t => match R.code p.fn (some l) p.assign { t, ds := [], h } with
      | some (.nrm, s) => match lpOf s.h l, s.ds with
        | some q, [] => match q.state with
          | .ready => match R.code p.fn (some l) p.body { s with h := s.h.setBlk l (.loop { q with state := .busy }) } with
            | some (x, s') => match s'.ds, lpOf s'.h l with
              | [], some q' => match x with
                | .nrm => some (.b true, s'.h.setBlk l (.loop { q' with state := .ready, pending := none }))
                | .ret => some (.b false, s'.h.setBlk l (.loop { q' with state := .done, pending := some .ret }))
                | .exit j => some (.b false, s'.h.setBlk l (.loop { q' with state := .done, pending := some (.exit j) }))
              | _, _ => none
            | none => none
          | _ => none
        | _, _ => none
      | _ => none

def evalN (E : Env) : Nat → Rc
  | 0 => { call := fun _ _ _ => none, yld := fun _ _ _ => none, code := fun _ _ _ _ => none }
  | n + 1 =>
    let R := evalN E n
    { call := callF E R, yld := yldF R, code := codeV E R }

end
end Go.Am

/-
  WHAT A REGION THAT DRAWS ITS ORDER MUST KEEP: each slot is written once; who reads it and who writes it come in one order.
-/
namespace Go.Am
noncomputable section

def tmpsOf : List Operand → List Tmp
  | [] => []
  | x :: xs => match x with
    | .tmp k => k :: tmpsOf xs
    | _ => tmpsOf xs

/-- The slots that an operation reads: its operands, and its guard's. -/
def readsOf (ops : Array Oper) (o : Oper) : List Tmp :=
  match o.guard with
  | none => tmpsOf o.op.operands.toList
  | some (g, _) => match (ops[g]?).bind (·.dst) with
    | some d => d :: tmpsOf o.op.operands.toList
    | none => tmpsOf o.op.operands.toList

/-- All that bear the number lie ahead. -/
def aheadOf (b : Tr Nat) (k d : Nat) : List (Nat × Nat) → Bool
  | [] => true
  | (e, i) :: r => match Nat.beq e d with
    | true => bitT b k i && aheadOf b k d r
    | false => aheadOf b k d r

def aheadAll (b : Tr Nat) (k : Nat) (w : List (Nat × Nat)) : List Nat → Bool
  | [] => true
  | d :: ds => aheadOf b k d w && aheadAll b k w ds

def notIn (d : Nat) : List (Nat × Nat) → Bool
  | [] => true
  | (e, _) :: r => !(Nat.beq e d) && notIn d r

def edgesBack (k : Nat) : List Edge → Bool
  | [] => true
  | e :: es => (match Region.binds .any e with
    | true => Nat.blt e.on k
    | false => true) && edgesBack k es

def pairs (k : Nat) : List Nat → List (Nat × Nat) → List (Nat × Nat)
  | [], r => r
  | d :: ds, r => (d, k) :: pairs k ds r

def guardOk (ops : Array Oper) (k : Nat) (o : Oper) : Bool :=
  match o.guard with
  | none => true
  | some (g, _) => Nat.blt g k && ((ops[g]?).bind (·.dst)).isSome

def noDefer (o : Oper) : Bool :=
  match o.op with
  | .defer _ => false
  | .select _ _ => false
  | _ => true

def regChk (ops : Array Oper) (b : Tr Nat) : List Oper → Nat → List (Nat × Nat) → List (Nat × Nat) → Bool
  | [], _, _, _ => true
  | o :: os, k, ws, rs => edgesBack k o.after.toList && (guardOk ops k o && (noDefer o && (aheadAll b k ws (readsOf ops o) && (match o.dst with
    | none => regChk ops b os (Nat.succ k) ws (pairs k (readsOf ops o) rs)
    | some d => notIn d ws && (aheadOf b k d rs && regChk ops b os (Nat.succ k) ((d, k) :: ws) (pairs k (readsOf ops o) rs))))))

def codeChk : Code → Bool
  | .region _ ops draw => match draw with
    | true => regChk ops (befT ops.toList 0 .nil) ops.toList 0 [] []
    | false => true
  | .seq a b => codeChk a && codeChk b
  | .cond _ a b => codeChk a && codeChk b
  | .block _ b => codeChk b
  | .loop b => codeChk b
  | .rangeFunc _ _ a b => codeChk a && codeChk b
  | _ => true

end
end Go.Am

/-
  THE ABSTRACT MACHINE: what it knows of a program's types and functions.
-/
namespace Go.Am

noncomputable section

/-- What is asked of the types: 'inf' is the program's table. -/
def undOf (inf : Nat → Option TypeInfo) (t : TypeId) : Option TypeDesc :=
  match inf t with
  | some i => match i.desc with
    | .named _ u => match inf u with
      | some j => some j.desc
      | none => none
    | d => some d
  | none => none

def sizeIn (inf : Nat → Option TypeInfo) (t : TypeId) : Nat :=
  match inf t with
  | some i => i.size
  | none => 0

def fieldsOf (inf : Nat → Option TypeInfo) : List Field → Option (List (TypeId × Nat × Nat))
  | [] => some []
  | f :: fs => match inf f.type with
    | none => none
    | some i => match fieldsOf inf fs with
      | none => none
      | some l => some ((f.type, f.offset, i.size) :: l)

def tkOf (inf : Nat → Option TypeInfo) : TypeDesc → TK
  | .bool => .bool
  | .int k => .int k
  | .string => .string
  | .pointer e => .pointer e
  | .slice e => .slice e
  | .array n e => .array n e
  | .map k e => .map k e
  | .struct fs => match fieldsOf inf fs.toList with
    | some l => .struct l
    | none => .other
  | .func .. => .func
  | .interface _ => .iface
  | _ => .other

def isAggD : TypeDesc → Bool
  | .struct _ | .array _ _ => true
  | _ => false

/-- Kinds whose values are compared as they are. -/
def flatD : TypeDesc → Option TK
  | .bool => some .bool
  | .int k => some (.int k)
  | .string => some .string
  | _ => none

def flatFields (inf : Nat → Option TypeInfo) : List Field → Nat → Option (List TK)
  | [], _ => some []
  | f :: fs, o => match undOf inf f.type with
    | none => none
    | some d => match flatD d with
      | none => none
      | some k => match Nat.beq f.offset o && !(f.name == "_") with
        | false => none
        | true => match flatFields inf fs (o + 1) with
          | none => none
          | some ks => some (k :: ks)

def tiOf (P : Program) (inf : Nat → Option TypeInfo) (i : TypeInfo) (d : TypeDesc) (t : TypeId) : TI :=
  { kind := tkOf inf d, size := i.size, bytes := i.bytes, agg := isAggD d,
    zero := match i.zero with
      | none => none
      | some z => match ofVal z with
        | none => none
        | some v => match boolEq (isAggD d) v.one with
          | true => none
          | false => some v.cells,
    plainEq := match d with
      | .struct fs => match P.stoodInHeld t || P.eqGuardType P.depth t with
        | true => none
        | false => flatFields inf fs.toList 0
      | _ => none }

def tyOf (P : Program) (inf : Nat → Option TypeInfo) (t : TypeId) : Option TI :=
  match inf t with
  | none => none
  | some i => match undOf inf t with
    | none => none
    | some d => some (tiOf P inf i d t)

def fiOf (f : Func) : Option FI :=
  match f.body with
  | none => none
  | some b => match f.name == "runtime.NumGoroutine" with
    | true => none
    | false => match codeChk b with
      | false => none
      | true => some { name := f.name, ntmps := f.ntmps, results := f.results.toList, body := b }

def findM (name : String) : List Method → Option Method
  | [] => none
  | m :: ms => match m.name == name with
    | true => some m
    | false => findM name ms

def mthOf (inf : Nat → Option TypeInfo) (t : TypeId) (name : String) : Option FuncId :=
  match inf t with
  | none => none
  | some i => match findM name i.methods.toList with
    | none => none
    | some m => match m.path.toList, m.func, undOf inf t with
      | [], some (f, ptr), some d => match d, ptr with
        | .pointer _, true => some f
        | .pointer _, false => none
        | _, true => none
        | _, false => some f
      | _, _, _ => none

/-- A list as a tree. -/
def treeOf {α : Type} : List α → Nat → Tr α → Tr α
  | [], _, t => t
  | x :: xs, n, t => treeOf xs (Nat.succ n) (t.set n x)

/-- The first 2^d - 1 answers of a function, as a tree. -/
def askTr {α : Type} (f : Nat → Option α) : Nat → Nat → Nat → Tr α
  | 0, _, _ => .nil
  | d + 1, a, s => .node (f a) (askTr f d (a + s) (2 * s)) (askTr f d (a + 2 * s) (2 * s))

def infTr (P : Program) : Tr TypeInfo := treeOf P.types.toList 0 .nil
/-- A type of the program, by the tree. -/
def infGet (P : Program) (t : Nat) : Option TypeInfo :=
  match (infTr P).get t with
  | some i => some i
  | none => P.info? t

def funTr (P : Program) : Tr Func := treeOf P.funcs.toList 0 .nil
def tyTr (P : Program) : Tr TI := askTr (tyOf P (infGet P)) 10 0 1
def fnTr (P : Program) : Tr FI := askTr (fun n => match (funTr P).get n with | none => none | some f => fiOf f) 10 0 1

def envOf (P : Program) : Env :=
  { ty := (tyTr P).get, fn := (fnTr P).get, mth := mthOf (infGet P) }

end
end Go.Am

