/- An executor for the model's programs that the kernel evaluates, and the first part of the proof that what it says of a run holds: values, heaps, operations. No condition. -/
import GoSem.Step
import Derived.Orders
import GoSem.Core.Layout
import Derived.AtR
import Derived.Laws.World
import Derived.Laws.Rows
import Derived.Laws.Cells
import Derived.Laws.AppendOwn
import Derived.Laws.IdiomCopy
import Derived.Deep.Draws
import Derived.Laws.Tables
import Derived.Laws.StructEq
import Derived.Laws.Strings
import Derived.Laws.Cover3
import Derived.Laws.Pointers
import Derived.Laws.BytesString
import Derived.Laws.Slices
import Derived.IntWalk
set_option linter.unusedVariables false

/- LX, part 1: a logical executor for the model's programs: values, heaps, operations. It is evaluated by the kernel; parts 2 on prove it sound. -/
namespace Go.LX
noncomputable section

inductive Pos where
  | h | o (p : Pos) | i (p : Pos)
  deriving Inhabited

def Pos.succ : Pos → Pos := fun p => @Pos.rec (fun _ => Pos) (.o .h) (fun p _ => .i p) (fun _ ih => .o ih) p

def Pos.toNat : Pos → Nat
  | .h => 1
  | .o p => 2 * p.toNat
  | .i p => 2 * p.toNat + 1

def Pos.idx (p : Pos) : Nat := p.toNat - 1

def ofBits : Nat → Nat → Pos
  | 0, _ => .h
  | n+1, m => ite (m ≤ 1) .h (ite (m % 2 = 0) (.o (ofBits n (m / 2))) (.i (ofBits n (m / 2))))
/-- the place of number t: t+1 in binary -/
def posOf (t : Nat) : Pos := ofBits (t + 1) (t + 1)

inductive Trie (α : Type) where
  | lf
  | nd (l : Trie α) (v : Option α) (r : Trie α)
  deriving Inhabited

namespace Trie
variable {α : Type}
def left (t : Trie α) : Trie α := @Trie.rec α (fun _ => Trie α) .lf (fun l _ _ _ _ => l) t
def right (t : Trie α) : Trie α := @Trie.rec α (fun _ => Trie α) .lf (fun _ _ r _ _ => r) t
def val (t : Trie α) : Option α := @Trie.rec α (fun _ => Option α) .none (fun _ v _ _ _ => v) t
def get (p : Pos) (t : Trie α) : Option α := @Pos.rec (fun _ => Trie α → Option α) val (fun _ ih t => ih t.left) (fun _ ih t => ih t.right) p t
def put (v : Option α) (p : Pos) (t : Trie α) : Trie α :=
  @Pos.rec (fun _ => Option α → Trie α → Trie α) (fun v t => .nd t.left v t.right)
    (fun _ ih v t => .nd (ih v t.left) t.val t.right) (fun _ ih v t => .nd t.left t.val (ih v t.right)) p v t
/-- by a number: the cells of a block -/
def getN (t : Trie α) (i : Nat) : Option α :=
  @Trie.rec α (fun _ => Nat → Option α) (fun _ => .none)
    (fun _ v _ ihl ihr i => @Nat.rec (fun _ => Option α) v (fun j _ => @Nat.rec (fun _ => Option α) (ihl (Nat.div j 2)) (fun _ _ => ihr (Nat.div j 2)) (Nat.mod j 2)) i) t i
def pathN (n i : Nat) (v : Option α) : Trie α :=
  @Nat.rec (fun _ => Nat → Option α → Trie α) (fun _ _ => .lf)
    (fun _ ih i v => @Nat.rec (fun _ => Trie α) (.nd .lf v .lf) (fun j _ => @Nat.rec (fun _ => Trie α) (.nd (ih (Nat.div j 2) v) .none .lf) (fun _ _ => .nd .lf .none (ih (Nat.div j 2) v)) (Nat.mod j 2)) i) n i v
def putN (t : Trie α) (i : Nat) (v : Option α) : Trie α :=
  @Trie.rec α (fun _ => Nat → Option α → Trie α) (fun i v => pathN (Nat.succ i) i v)
    (fun l u r ihl ihr i v => @Nat.rec (fun _ => Trie α) (.nd l v r) (fun j _ => @Nat.rec (fun _ => Trie α) (.nd (ihl (Nat.div j 2) v) u r) (fun _ _ => .nd l u (ihr (Nat.div j 2) v)) (Nat.mod j 2)) i) t i v
end Trie

/-- numbers that are told by variables -/
inductive SE where
  | c (n : Int)
  | v (p : Pos)
  | op (o : BinOp) (k : IntKind) (a b : SE)
  | nt (a : SE)
  | cv (k : IntKind) (a : SE)
  | un (o : UnOp) (k : IntKind) (a : SE)
  deriving Inhabited
/-- what is known of them: equations; the left side is read as the right -/
abbrev Facts := List (SE × SE)

/-- logical values: addresses are logical blocks. slice's cap: 0: not known, c + 1: c -/
inductive LV where
  | bool (b : Bool)
  | int (k : IntKind) (n : Int)
  | str (len n : Nat)
  | ptr (b : Pos) (off : Nat)
  | nilptr
  | slice (b : Pos) (off len sz cap : Nat)
  | nilslice
  | map (m : Pos)
  | nilmap
  | func (f : Pos) (caps : List LV)
  | mfunc (f : Pos) (first caps : List LV)
  | yld (l : Pos)
  | nilfunc
  | iface (t : Nat) (v : LV)
  | niliface
  | agg (cs : List LV)
  | tup (vs : List LV)
  | itr (p : Pos)
  | opq (p : Pos)
  | sint (k : IntKind) (e : SE)
  | sbool (e : SE)
  | sstr (es : List SE)
  deriving Inhabited

inductive LOpd where
  | t (n : Pos)
  | c (v : LV)
  deriving Inhabited

/-- of what make a map's key is: a whole number, a string, a flat struct of such (true: a string) -/
inductive KT where
  | int | str | flat (fs : List Bool)
  deriving Inhabited

/-- operations that change no memory -/
inductive POp where
  | mv (x : LOpd)
  | pick (c a b : LOpd)
  | build (zero : List LV) (parts : List (Nat × Nat × LOpd))        -- offset, size
  | load1 (a : LOpd)
  | loadN (n : Nat) (a : LOpd)
  | nilCheck (x : LOpd)
  | bin (op : BinOp) (x y : LOpd)
  | eqB (neg : Bool) (x y : LOpd)
  | eqNil (neg : Bool) (kd : Nat) (x y : LOpd)
  | eqFlat (neg : Bool) (fs : List Bool) (x y : LOpd)
  | un (op : UnOp) (x : LOpd)
  | convInt (k : IntKind) (x : LOpd)
  | convStr (x : LOpd)
  | bytesToStr (x : LOpd)
  | mkIface (t : Nat) (x : LOpd)
  | mkFunc (f : Pos) (first caps : List LOpd)
  | sliceStr (x : LOpd) (lo hi : Option LOpd)
  | sliceSl (sz : Nat) (x : LOpd) (lo hi : Option LOpd)
  | sliceArr (n sz : Nat) (x : LOpd) (lo hi : Option LOpd)
  | off (k : Nat) (x : LOpd)
  | field1 (k : Nat) (x : LOpd)
  | fieldN (k n : Nat) (x : LOpd)
  | idxArr (len sz : Nat) (x i : LOpd)
  | idxSl (sz : Nat) (x i : LOpd)
  | ixStr (x i : LOpd)
  | ixAgg1 (len : Nat) (x i : LOpd)
  | ixAggN (len sz : Nat) (x i : LOpd)
  | lookup (kt : KT) (zero : LV) (ok : Bool) (m k : LOpd)
  | entry (x : LOpd)
  | assertC (t : Nat) (zero : LV) (ok : Bool) (x : LOpd)
  | extract (i : Nat) (x : LOpd)
  | lenStr (x : LOpd) | lenArr (n : Nat) | lenSl (x : LOpd) | lenMap (x : LOpd)
  | minmax (mx : Bool) (xs : List LOpd)
  deriving Inhabited

/-- operations that change memory and call nothing -/
inductive MOp where
  | alloc (zero : List LV)
  | box (x : LOpd)
  | buildSlice (sz len : Nat) (zero : List LV) (parts : List (Nat × Nat × LOpd))
  | mkMap
  | store1 (a x : LOpd)
  | storeN (n : Nat) (a x : LOpd)
  | strToBytes (x : LOpd)
  | mkSlice (sz : Nat) (zero : List LV) (len cap : LOpd)
  | mapUpdate (kt : KT) (m k v : LOpd)
  | mapEntry (kt : KT) (zero : LV) (m k : LOpd)
  | entryStore (m s v : LOpd)
  | range (x : LOpd)
  | append (sz : Nat) (s x : LOpd)
  | appendStr (s x : LOpd)
  | copy (sz : Nat) (d s : LOpd)
  | copyStr (d s : LOpd)
  | delete (kt : KT) (m k : LOpd)
  deriving Inhabited

inductive COp where
  | callF (f : Pos) (args : List LOpd)
  | callV (f : LOpd) (args : List LOpd)
  | dfr (f : LOpd) (args : List LOpd)
  | recover
  | panic (x : LOpd)
  | next (x : LOpd)
  deriving Inhabited

/-- an instruction of a region that draws its order; g: the guard -/
inductive DI where
  | r (x : Nat) (o : POp) (d : Pos) (g : Option (Pos × Bool))                 -- a value
  | c (x : Nat) (o : POp) (d : Pos) (g : Option (Pos × Bool))                 -- the same value, asked again
  | av (x i : Nat) (o : MOp) (d : Pos) (g : Option (Pos × Bool))              -- the name of a new block
  | ai (x i : Nat) (o : MOp) (d : Pos) (g : Option (Pos × Bool))                        -- the new block
  | m (x : Nat) (o : MOp) (d : Option Pos) (g : Option (Pos × Bool))
  | e (x : Nat) (o : COp) (d : Option Pos) (g : Option (Pos × Bool))
  deriving Inhabited

inductive LCode where
  | nil
  | pop (o : POp) (dst : Pos) (k : LCode)
  | mop (o : MOp) (dst : Option Pos) (k : LCode)
  | cop (o : COp) (dst : Option Pos) (k : LCode)
  | grd (g : Pos) (w : Bool) (dst : Option Pos) (a k : LCode)
  | drw (n : Nat) (ds : List Pos) (l : List DI) (k : LCode)
  | cond (x : LOpd) (a b k : LCode)
  | blk (id : Nat) (a k : LCode)
  | loop (a : LCode)
  | rng (f : LOpd) (ps : List Pos) (a b k : LCode)
  | exit (id : Nat)
  | ret
  | bad
  deriving Inhabited

structure Ent where
  key : LV
  val : LV
  born : Nat
  deriving Inhabited

inductive Out where
  | nrm | exit (id : Nat) | ret | pan (v : LV)
  deriving Inhabited

/-- what lies in the logical heap -/
inductive LO where
  | cells (t : Trie LV)
  | map (es : List Ent) (clock : Nat)
  | iter (m : Option Pos) (since : Nat) (seen : List Nat) (stepped : Nat)
  | loop (st : Nat) (pending : Out) (T : Trie LV) (ps : List Pos) (a b : LCode)
  | defr
  deriving Inhabited

structure Heap where
  next : Pos
  t : Trie LO
  fs : Facts
  deriving Inhabited

inductive LDef where
  | call (f : Pos) (args : List LV)
  | coll (p : Pos)
  deriving Inhabited

/-- the frame: a plain one; a round of a range over a function; a deferred call, by the mode of the frame below -/
inductive Pan where
  | none
  | rnd
  | ret
  | pan (v : LV) (recovered : Bool)
  deriving Inhabited

def maxCells : Nat := 1048576
def getO (x : LOpd) (T : Trie LV) : Option LV := @LOpd.rec (fun _ => Trie LV → Option LV) (fun p T => T.get p) (fun v _ => some v) x T
/-- bind, in the kernel's own form -/
def ob {α β : Type} (x : Option α) (f : α → Option β) : Option β := @Option.rec α (fun _ => Option β) none f x
def bb {α : Type} (x : Option α) (f : α → Bool) : Bool := @Option.rec α (fun _ => Bool) false f x
def ib {α : Type} (b : Bool) (x y : α) : α := @Bool.rec (fun _ => α) y x b

def getOs (T : Trie LV) : List LOpd → Option (List LV)
  | [] => some []
  | x :: xs => ob (getO x T) fun v => ob (getOs T xs) fun vs => some (v :: vs)

def mkRow (t : Trie LV) (i : Nat) (vs : List LV) : Trie LV :=
  @List.rec LV (fun _ => Trie LV → Nat → Trie LV) (fun t _ => t) (fun v _ ih t i => ih (t.putN i (some v)) (Nat.succ i)) vs t i

def getRow (t : Trie LV) (i : Nat) (n : Nat) : Option (List LV) :=
  @Nat.rec (fun _ => Nat → Option (List LV)) (fun _ => some []) (fun _ ih i => ob (t.getN i) fun v => ob (ih (Nat.succ i)) fun vs => some (v :: vs)) n i

def LO.asCells (o : LO) : Option (Trie LV) := match o with | .cells t => some t | _ => none
def Heap.cells (H : Heap) (b : Pos) : Option (Trie LV) := ob (H.t.get b) LO.asCells
def Heap.setO (H : Heap) (b : Pos) (o : LO) : Heap := ⟨H.next, H.t.put (some o) b, H.fs⟩
def Heap.new (H : Heap) (o : LO) : Heap := ⟨H.next.succ, H.t.put (some o) H.next, H.fs⟩

def listSet (l : List LV) (i : Nat) (v : LV) : List LV :=
  match l with
  | [] => []
  | x :: xs => match i with
    | 0 => v :: xs
    | j+1 => x :: listSet xs j v

def overlay (zero : List LV) (off : Nat) (cs : List LV) : List LV :=
  match cs with
  | [] => zero
  | c :: cs => overlay (listSet zero off c) (off+1) cs

def cellsOf (v : LV)  : List LV :=
  (@LV.rec (fun _ => List LV) (fun _ => Unit) (fun b => [LV.bool b]) (fun k n => [LV.int k n]) (fun len n => [LV.str len n]) (fun b off => [LV.ptr b off]) ([LV.nilptr ]) (fun b off len sz cap => [LV.slice b off len sz cap]) ([LV.nilslice ]) (fun m => [LV.map m]) ([LV.nilmap ]) (fun f caps _ => [LV.func f caps]) (fun f first caps _ _ => [LV.mfunc f first caps]) (fun l => [LV.yld l]) ([LV.nilfunc ]) (fun t v _ => [LV.iface t v]) ([LV.niliface ]) (fun cs _ => cs) (fun vs _ => [LV.tup vs]) (fun p => [LV.itr p]) (fun p => [LV.opq p]) (fun k e => [LV.sint k e]) (fun e => [LV.sbool e]) (fun es => [LV.sstr es]) () (fun _ _ _ _ => ()) v )

def isOne (v : LV)  : Bool :=
  (@LV.rec (fun _ => Bool) (fun _ => Unit) (fun _ => true) (fun _ _ => true) (fun _ _ => true) (fun _ _ => true) (true) (fun _ _ _ _ _ => true) (true) (fun _ => true) (true) (fun _ _ _ => true) (fun _ _ _ _ _ => true) (fun _ => true) (true) (fun _ _ _ => true) (true) (fun _ _ => false) (fun _ _ => false) (fun _ => true) (fun _ => true) (fun _ _ => true) (fun _ => true) (fun _ => true) () (fun _ _ _ _ => ()) v )

def allOne (vs : List LV) : Bool := @List.rec LV (fun _ => Bool) true (fun v _ ih => ib (isOne v) ih false) vs

def fillParts (T : Trie LV) (zero : List LV) : List (Nat × Nat × LOpd) → Option (List LV)
  | [] => some zero
  | (off, sz, x) :: ps => ob (getO x T) fun v => ib (Nat.beq (cellsOf v).length sz) (ib (Nat.ble (off + sz) zero.length) (fillParts T (overlay zero off (cellsOf v)) ps) none) none

def rep (n : Nat) (zero : List LV) : List LV :=
  match n with
  | 0 => []
  | n+1 => zero ++ rep n zero

def strAt (len n i : Nat) : Nat := Nat.mod (Nat.shiftRight n (Nat.mul 8 (Nat.sub (Nat.sub len 1) i))) 256
def strSub (len n l h : Nat) : Nat := Nat.mod (Nat.shiftRight n (Nat.mul 8 (Nat.sub len h))) (Nat.pow 2 (Nat.mul 8 (Nat.sub h l)))

def strLt (l1 n1 l2 n2 : Nat) : Bool :=
  ib (Nat.ble l1 l2)
    (ib (Nat.ble (Nat.succ (Nat.shiftLeft n1 (Nat.mul 8 (Nat.sub l2 l1)))) n2) true (ib (Nat.beq (Nat.shiftLeft n1 (Nat.mul 8 (Nat.sub l2 l1))) n2) (Nat.ble (Nat.succ l1) l2) false))
    (Nat.ble (Nat.succ n1) (Nat.shiftLeft n2 (Nat.mul 8 (Nat.sub l1 l2))))

/-- the greatest of a kind -/
def limK (k : IntKind) : Nat := @IntKind.rec (fun _ => Nat) 127 32767 2147483647 9223372036854775807 255 65535 4294967295 18446744073709551615 k

/-- a number of a kind, wrapped -/
def mkN (k : IntKind) (m : Nat) : LV := ib (Nat.ble m (limK k)) (.int k (.ofNat m)) (.int k (k.wrap (.ofNat m)))
def iAdd (k : IntKind) (a b : Int) : Option LV :=
  @Int.rec (fun _ => Option LV) (fun m => @Int.rec (fun _ => Option LV) (fun n => some (mkN k (Nat.add m n))) (fun _ => some (.int k (k.wrap (a + b)))) b)
    (fun _ => some (.int k (k.wrap (a + b)))) a
def iSub (k : IntKind) (a b : Int) : Option LV :=
  @Int.rec (fun _ => Option LV) (fun m => @Int.rec (fun _ => Option LV) (fun n => ib (Nat.ble n m) (some (mkN k (Nat.sub m n))) (some (.int k (k.wrap (a - b))))) (fun _ => some (.int k (k.wrap (a - b)))) b)
    (fun _ => some (.int k (k.wrap (a - b)))) a
def iMul (k : IntKind) (a b : Int) : Option LV :=
  @Int.rec (fun _ => Option LV) (fun m => @Int.rec (fun _ => Option LV) (fun n => some (mkN k (Nat.mul m n))) (fun _ => some (.int k (k.wrap (a * b)))) b)
    (fun _ => some (.int k (k.wrap (a * b)))) a
def iQuo (k : IntKind) (a b : Int) : Option LV := if b = 0 then none else some (.int k (k.wrap (a.tdiv b)))
def iRem (k : IntKind) (a b : Int) : Option LV := if b = 0 then none else some (.int k (a.tmod b))
def iNat2 (k : IntKind) (f : Nat → Nat → Nat) (a b : Int) : Option LV :=
  @Int.rec (fun _ => Option LV) (fun m => @Int.rec (fun _ => Option LV) (fun n => ib (Nat.ble m (limK k)) (ib (Nat.ble n (limK k)) (some (.int k (.ofNat (f m n)))) none) none) (fun _ => none) b) (fun _ => none) a
def iAnd (k : IntKind) (a b : Int) : Option LV := iNat2 k Nat.land a b
def iOr (k : IntKind) (a b : Int) : Option LV := iNat2 k Nat.lor a b
def iXor (k : IntKind) (a b : Int) : Option LV := iNat2 k Nat.xor a b
def intEq (a b : Int) : Bool :=
  @Int.rec (fun _ => Bool) (fun m => @Int.rec (fun _ => Bool) (fun n => Nat.beq m n) (fun _ => false) b) (fun m => @Int.rec (fun _ => Bool) (fun _ => false) (fun n => Nat.beq m n) b) a
def intLe (a b : Int) : Bool :=
  @Int.rec (fun _ => Bool) (fun m => @Int.rec (fun _ => Bool) (fun n => Nat.ble m n) (fun _ => false) b) (fun m => @Int.rec (fun _ => Bool) (fun _ => true) (fun n => Nat.ble n m) b) a
def bnot (b : Bool) : Bool := @Bool.rec (fun _ => Bool) true false b
def bxor (a b : Bool) : Bool := ib a (bnot b) b
def natMin (a b : Nat) : Nat := ib (Nat.ble a b) a b
def iShl (k : IntKind) (a b : Int) : Option LV :=
  @Int.rec (fun _ => Option LV) (fun n => @Int.rec (fun _ => Option LV) (fun m => some (mkN k (Nat.mul m (Nat.pow 2 (natMin n k.bits))))) (fun _ => none) a) (fun _ => none) b
def iShr (k : IntKind) (a b : Int) : Option LV :=
  @Int.rec (fun _ => Option LV) (fun n => @Int.rec (fun _ => Option LV) (fun m => some (.int k (.ofNat (Nat.div m (Nat.pow 2 (natMin n k.bits)))))) (fun _ => some (.int k (a.fdiv (2 ^ (natMin n k.bits))))) a) (fun _ => none) b
def kindNo (k : IntKind) : Nat := @IntKind.rec (fun _ => Nat) 0 1 2 3 4 5 6 7 k
def kindEq (j k : IntKind) : Bool := Nat.beq (kindNo j) (kindNo k)
def kq (j k : IntKind) (x : Option LV) : Option LV := ib (kindEq j k) x none

/-- the order of BinOp: add sub mul quo rem and or xor shl shr andNot eql neq lss leq gtr geq -/
def binInt (op : BinOp) (j : IntKind) (b : Int) (k : IntKind) (a : Int) : Option LV :=
  @BinOp.rec (fun _ => IntKind → Int → IntKind → Int → Option LV)
    (fun j b k a => kq j k (iAdd k a b)) (fun j b k a => kq j k (iSub k a b)) (fun j b k a => kq j k (iMul k a b)) (fun j b k a => kq j k (iQuo k a b)) (fun j b k a => kq j k (iRem k a b))
    (fun j b k a => kq j k (iAnd k a b)) (fun j b k a => kq j k (iOr k a b)) (fun j b k a => kq j k (iXor k a b)) (fun _ b k a => iShl k a b) (fun _ b k a => iShr k a b) (fun _ _ _ _ => none)
    (fun j b k a => kq j k (some (.bool (intEq a b)))) (fun j b k a => kq j k (some (.bool (bnot (intEq a b))))) (fun j b k a => kq j k (some (.bool (bnot (intLe b a)))))
    (fun j b k a => kq j k (some (.bool (intLe a b)))) (fun j b k a => kq j k (some (.bool (bnot (intLe a b))))) (fun j b k a => kq j k (some (.bool (intLe b a)))) op j b k a
def strEq (l a m b : Nat) : Bool := ib (Nat.beq l m) (Nat.beq a b) false
def strCat (l a m b : Nat) : Option LV := ib (Nat.ble (Nat.add l m) 9223372036854775807) (some (.str (Nat.add l m) (Nat.add (Nat.shiftLeft a (Nat.mul 8 m)) b))) none
def binStr (op : BinOp) (m b l a : Nat) : Option LV :=
  @BinOp.rec (fun _ => Nat → Nat → Nat → Nat → Option LV)
    (fun m b l a => strCat l a m b) (fun _ _ _ _ => none) (fun _ _ _ _ => none) (fun _ _ _ _ => none) (fun _ _ _ _ => none)
    (fun _ _ _ _ => none) (fun _ _ _ _ => none) (fun _ _ _ _ => none) (fun _ _ _ _ => none) (fun _ _ _ _ => none) (fun _ _ _ _ => none)
    (fun m b l a => some (.bool (strEq l a m b))) (fun m b l a => some (.bool (bnot (strEq l a m b)))) (fun m b l a => some (.bool (strLt l a m b)))
    (fun _ _ _ _ => none) (fun _ _ _ _ => none) (fun m b l a => some (.bool (bnot (strLt l a m b)))) op m b l a

/-! numbers that are told by variables -/
def opNo (o : BinOp) : Nat := @BinOp.rec (fun _ => Nat) 0 1 2 3 4 5 6 7 8 9 10 11 12 13 14 15 16 o
def unNo (o : UnOp) : Nat := @UnOp.rec (fun _ => Nat) 0 1 2 3 o
def posEq (p q : Pos) : Bool := Nat.beq p.toNat q.toNat
def seEq (a : SE) : SE → Bool := @SE.rec (fun _ => SE → Bool)
  (fun n b => @SE.rec (fun _ => Bool) (fun m => intEq n m) (fun _ => false) (fun _ _ _ _ _ _ => false) (fun _ _ => false) (fun _ _ _ => false) (fun _ _ _ _ => false) b)
  (fun p b => @SE.rec (fun _ => Bool) (fun _ => false) (fun q => posEq p q) (fun _ _ _ _ _ _ => false) (fun _ _ => false) (fun _ _ _ => false) (fun _ _ _ _ => false) b)
  (fun o k _ _ iha ihb b => @SE.rec (fun _ => Bool) (fun _ => false) (fun _ => false) (fun o' k' a' b' _ _ => ib (Nat.beq (opNo o) (opNo o')) (ib (kindEq k k') (ib (iha a') (ihb b') false) false) false) (fun _ _ => false) (fun _ _ _ => false) (fun _ _ _ _ => false) b)
  (fun _ iha b => @SE.rec (fun _ => Bool) (fun _ => false) (fun _ => false) (fun _ _ _ _ _ _ => false) (fun a' _ => iha a') (fun _ _ _ => false) (fun _ _ _ _ => false) b)
  (fun k _ iha b => @SE.rec (fun _ => Bool) (fun _ => false) (fun _ => false) (fun _ _ _ _ _ _ => false) (fun _ _ => false) (fun k' a' _ => ib (kindEq k k') (iha a') false) (fun _ _ _ _ => false) b)
  (fun o k _ iha b => @SE.rec (fun _ => Bool) (fun _ => false) (fun _ => false) (fun _ _ _ _ _ _ => false) (fun _ _ => false) (fun _ _ _ => false) (fun o' k' a' _ => ib (Nat.beq (unNo o) (unNo o')) (ib (kindEq k k') (iha a') false) false) b) a
def lookF (F : Facts) (e : SE) : Option SE := @List.rec (SE × SE) (fun _ => Option SE) none (fun x _ ih => ib (seEq x.1 e) (some x.2) ih) F
def seC (e : SE) : Option Int := @SE.rec (fun _ => Option Int) (fun n => some n) (fun _ => none) (fun _ _ _ _ _ _ => none) (fun _ _ => none) (fun _ _ _ => none) (fun _ _ _ _ => none) e
def lowI (k : IntKind) : Int := @IntKind.rec (fun _ => Int) (-128) (-32768) (-2147483648) (-9223372036854775808) 0 0 0 0 k
def inK (k : IntKind) (n : Int) : Bool := ib (intLe (lowI k) n) (intLe n (.ofNat (limK k))) false
def isSgn (k : IntKind) : Bool := Nat.ble (kindNo k) 3
/-- every number of the one kind is one of the other -/
def kSub (j k : IntKind) : Bool := ib (isSgn j) (ib (isSgn k) (Nat.ble (limK j) (limK k)) false) (Nat.ble (limK j) (limK k))
/-- a number, by what is known of it -/
def mkI (k : IntKind) (e : SE) : LV := @Option.rec Int (fun _ => LV) (.sint k e) (fun n => .int k n) (seC e)
def mkB (e : SE) : LV := @Option.rec Int (fun _ => LV) (.sbool e) (fun n => .bool (bnot (intEq n 0))) (seC e)
def ntSE (e : SE) : SE := @SE.rec (fun _ => SE) (fun n => .c (ib (intEq n 0) 1 0)) (fun p => .nt (.v p)) (fun o k a b _ _ => .nt (.op o k a b)) (fun a _ => a) (fun k a _ => .nt (.cv k a)) (fun o k a _ => .nt (.un o k a)) e
def eqSE (k : IntKind) (a b : SE) : SE := ib (seEq a b) (.c 1)
  (@Option.rec Int (fun _ => SE) (.op .eql k a b) (fun n => @Option.rec Int (fun _ => SE) (.op .eql k b a) (fun m => .c (ib (intEq n m) 1 0)) (seC b)) (seC a))
def ltSE (k : IntKind) (a b : SE) : SE := ib (seEq a b) (.c 0) (.op .lss k a b)
/-- equality of truths -/
def eqTSE (a b : SE) : SE := @Option.rec Int (fun _ => SE) (@Option.rec Int (fun _ => SE) (ib (seEq a b) (.c 1) (.op .eql .i64 a b)) (fun m => ib (intEq m 0) (ntSE a) a) (seC b)) (fun n => ib (intEq n 0) (ntSE b) b) (seC a)
/-- a divisor that is not 0 -/
def nzF (F : Facts) (k : IntKind) (b : SE) : Bool := @Option.rec Int (fun _ => Bool) (bb (lookF F (.op .eql k b (.c 0))) fun x => bb (seC x) fun n => intEq n 0) (fun n => bnot (intEq n 0)) (seC b)
def nnS (j : IntKind) (b : SE) : Bool := @Option.rec Int (fun _ => Bool) (bnot (isSgn j)) (fun n => intLe 0 n) (seC b)
def symBin (F : Facts) (op : BinOp) (k : IntKind) (a : SE) (j : IntKind) (b : SE) : Option LV :=
  @BinOp.rec (fun _ => Option LV)
    (kq j k (some (.sint k (.op .add k a b)))) (kq j k (some (.sint k (.op .sub k a b)))) (kq j k (some (.sint k (.op .mul k a b))))
    (kq j k (ib (nzF F k b) (some (.sint k (.op .quo k a b))) none)) (kq j k (ib (nzF F k b) (some (.sint k (.op .rem k a b))) none))
    (kq j k (some (.sint k (.op .and k a b)))) (kq j k (some (.sint k (.op .or k a b)))) (kq j k (some (.sint k (.op .xor k a b))))
    (ib (nnS j b) (some (.sint k (.op .shl k a b))) none) (ib (nnS j b) (some (.sint k (.op .shr k a b))) none) none
    (kq j k (some (mkB (eqSE k a b)))) (kq j k (some (mkB (ntSE (eqSE k a b))))) (kq j k (some (mkB (ltSE k a b))))
    (kq j k (some (mkB (ntSE (ltSE k b a))))) (kq j k (some (mkB (ltSE k b a)))) (kq j k (some (mkB (ntSE (ltSE k a b))))) op
def symY (y : LV) (F : Facts) (op : BinOp) (k : IntKind) (a : SE) : Option LV :=
  (@LV.rec (fun _ => Facts → BinOp → IntKind → SE → Option LV) (fun _ => Unit) (fun _ _ _ _ _ => none) (fun j b F op k a => symBin F op k a j (.c b)) (fun _ _ _ _ _ _ => none) (fun _ _ _ _ _ _ => none) (fun _ _ _ _ => none) (fun _ _ _ _ _ _ _ _ _ => none) (fun _ _ _ _ => none) (fun _ _ _ _ _ => none) (fun _ _ _ _ => none) (fun _ _ _ _ _ _ _ => none) (fun _ _ _ _ _ _ _ _ _ => none) (fun _ _ _ _ _ => none) (fun _ _ _ _ => none) (fun _ _ _ _ _ _ _ => none) (fun _ _ _ _ => none) (fun _ _ _ _ _ _ => none) (fun _ _ _ _ _ _ => none) (fun _ _ _ _ _ => none) (fun _ _ _ _ _ => none) (fun j b F op k a => symBin F op k a j b) (fun _ _ _ _ _ => none) (fun _ _ _ _ _ => none) () (fun _ _ _ _ => ()) y F op k a)

/-- what is known of a value -/
def hitI (k : IntKind) (o : LV) (x : Option SE) : LV := @Option.rec SE (fun _ => LV) o (fun e => mkI k e) x
def hitB (o : LV) (x : Option SE) : LV := @Option.rec SE (fun _ => LV) o (fun e => mkB e) x
/-- is it true -/
def lookB (F : Facts) (e : SE) : Option Bool := @SE.rec (fun _ => Option Bool) (fun n => some (bnot (intEq n 0))) (fun p => ob (lookF F (.v p)) fun x => ob (seC x) fun n => some (bnot (intEq n 0)))
  (fun o k a b _ _ => ob (lookF F (.op o k a b)) fun x => ob (seC x) fun n => some (bnot (intEq n 0))) (fun _ ih => ob ih fun x => some (bnot x))
  (fun k a _ => ob (lookF F (.cv k a)) fun x => ob (seC x) fun n => some (bnot (intEq n 0))) (fun o k a _ => ob (lookF F (.un o k a)) fun x => ob (seC x) fun n => some (bnot (intEq n 0))) e
def norm (x : LV) (F : Facts) (o : LV) : LV :=
  (@LV.rec (fun _ => Facts → LV → LV) (fun _ => Unit) (fun _ _ o => o) (fun _ _ _ o => o) (fun _ _ _ o => o) (fun _ _ _ o => o) (fun _ o => o) (fun _ _ _ _ _ _ o => o) (fun _ o => o) (fun _ _ o => o) (fun _ o => o) (fun _ _ _ _ o => o) (fun _ _ _ _ _ _ o => o) (fun _ _ o => o) (fun _ o => o) (fun _ _ _ _ o => o) (fun _ o => o) (fun _ _ _ o => o) (fun _ _ _ o => o) (fun _ _ o => o) (fun _ _ o => o) (fun k e F o => hitI k o (lookF F e)) (fun e F o => @Option.rec Bool (fun _ => LV) o (fun b => .bool b) (lookB F e)) (fun _ _ o => o) () (fun _ _ _ _ => ()) x F o)

/-- a truth that is taken: the equation of it -/
def asmF (e : SE) (b : Bool) : SE × SE := @SE.rec (fun _ => Bool → SE × SE) (fun n b => (.c n, .c (ib b 1 0))) (fun p b => (.v p, .c (ib b 1 0))) (fun o k x y _ _ b => (.op o k x y, .c (ib b 1 0))) (fun _ ih b => ih (bnot b)) (fun k a _ b => (.cv k a, .c (ib b 1 0))) (fun o k a _ b => (.un o k a, .c (ib b 1 0))) e b
def Heap.asm (H : Heap) (e : SE) (b : Bool) : Heap := ⟨H.next, H.t, asmF e b :: H.fs⟩
def boolSE (x : LV)  : Option SE :=
  (@LV.rec (fun _ => Option SE) (fun _ => Unit) (fun b => some (.c (ib b 1 0))) (fun _ _ => none) (fun _ _ => none) (fun _ _ => none) (none) (fun _ _ _ _ _ => none) (none) (fun _ => none) (none) (fun _ _ _ => none) (fun _ _ _ _ _ => none) (fun _ => none) (none) (fun _ _ _ => none) (none) (fun _ _ => none) (fun _ _ => none) (fun _ => none) (fun _ => none) (fun _ _ => none) (fun e => some e) (fun _ => none) () (fun _ _ _ _ => ()) x )

def eqBLV (neg : Bool) (a b : SE) : LV := mkB (ib neg (ntSE (eqTSE a b)) (eqTSE a b))

/-- equality of whole numbers and strings: of keys, and of the parts of flat structs -/
def eqIntY (y : LV) (k : IntKind) (a : Int) : Option Bool :=
  (@LV.rec (fun _ => IntKind → Int → Option Bool) (fun _ => Unit) (fun _ _ _ => none) (fun j b k a => ib (kindEq j k) (some (intEq a b)) none) (fun _ _ _ _ => none) (fun _ _ _ _ => none) (fun _ _ => none) (fun _ _ _ _ _ _ _ => none) (fun _ _ => none) (fun _ _ _ => none) (fun _ _ => none) (fun _ _ _ _ _ => none) (fun _ _ _ _ _ _ _ => none) (fun _ _ _ => none) (fun _ _ => none) (fun _ _ _ _ _ => none) (fun _ _ => none) (fun _ _ _ _ => none) (fun _ _ _ _ => none) (fun _ _ _ => none) (fun _ _ _ => none) (fun _ _ _ _ => none) (fun _ _ _ => none) (fun _ _ _ => none) () (fun _ _ _ _ => ()) y k a)

def eqStrY (y : LV) (l : Nat) (a : Nat) : Option Bool :=
  (@LV.rec (fun _ => Nat → Nat → Option Bool) (fun _ => Unit) (fun _ _ _ => none) (fun _ _ _ _ => none) (fun m b l a => some (strEq l a m b)) (fun _ _ _ _ => none) (fun _ _ => none) (fun _ _ _ _ _ _ _ => none) (fun _ _ => none) (fun _ _ _ => none) (fun _ _ => none) (fun _ _ _ _ _ => none) (fun _ _ _ _ _ _ _ => none) (fun _ _ _ => none) (fun _ _ => none) (fun _ _ _ _ _ => none) (fun _ _ => none) (fun _ _ _ _ => none) (fun _ _ _ _ => none) (fun _ _ _ => none) (fun _ _ _ => none) (fun _ _ _ _ => none) (fun _ _ _ => none) (fun _ _ _ => none) () (fun _ _ _ _ => ()) y l a)

def eqBoolY (y : LV) (a : Bool) : Option Bool :=
  (@LV.rec (fun _ => Bool → Option Bool) (fun _ => Unit) (fun b a => some (bnot (bxor a b))) (fun _ _ _ => none) (fun _ _ _ => none) (fun _ _ _ => none) (fun _ => none) (fun _ _ _ _ _ _ => none) (fun _ => none) (fun _ _ => none) (fun _ => none) (fun _ _ _ _ => none) (fun _ _ _ _ _ _ => none) (fun _ _ => none) (fun _ => none) (fun _ _ _ _ => none) (fun _ => none) (fun _ _ _ => none) (fun _ _ _ => none) (fun _ _ => none) (fun _ _ => none) (fun _ _ _ => none) (fun _ _ => none) (fun _ _ => none) () (fun _ _ _ _ => ()) y a)

def eqSintY (y : LV) (k : IntKind) (a : SE) : Option Bool :=
  (@LV.rec (fun _ => IntKind → SE → Option Bool) (fun _ => Unit) (fun _ _ _ => none) (fun _ _ _ _ => none) (fun _ _ _ _ => none) (fun _ _ _ _ => none) (fun _ _ => none) (fun _ _ _ _ _ _ _ => none) (fun _ _ => none) (fun _ _ _ => none) (fun _ _ => none) (fun _ _ _ _ _ => none) (fun _ _ _ _ _ _ _ => none) (fun _ _ _ => none) (fun _ _ => none) (fun _ _ _ _ _ => none) (fun _ _ => none) (fun _ _ _ _ => none) (fun _ _ _ _ => none) (fun _ _ _ => none) (fun _ _ _ => none) (fun j b k a => ib (kindEq j k) (ib (seEq a b) (some true) none) none) (fun _ _ _ => none) (fun _ _ _ => none) () (fun _ _ _ _ => ()) y k a)

def eqAtom (x : LV) (y : LV) : Option Bool :=
  (@LV.rec (fun _ => LV → Option Bool) (fun _ => Unit) (fun _ _ => none) (fun k a y => eqIntY y k a) (fun l a y => eqStrY y l a) (fun _ _ _ => none) (fun _ => none) (fun _ _ _ _ _ _ => none) (fun _ => none) (fun _ _ => none) (fun _ => none) (fun _ _ _ _ => none) (fun _ _ _ _ _ _ => none) (fun _ _ => none) (fun _ => none) (fun _ _ _ _ => none) (fun _ => none) (fun _ _ _ => none) (fun _ _ _ => none) (fun _ _ => none) (fun _ _ => none) (fun k a y => eqSintY y k a) (fun _ _ => none) (fun _ _ => none) () (fun _ _ _ _ => ()) x y)

def eqAtoms : List LV → List LV → Option Bool
  | [], [] => some true
  | x :: xs, y :: ys => ob (eqAtom x y) fun b => ib b (eqAtoms xs ys) (some false)
  | _, _ => none
def aggOf (x : LV)  : Option (List LV) :=
  (@LV.rec (fun _ => Option (List LV)) (fun _ => Unit) (fun _ => none) (fun _ _ => none) (fun _ _ => none) (fun _ _ => none) (none) (fun _ _ _ _ _ => none) (none) (fun _ => none) (none) (fun _ _ _ => none) (fun _ _ _ _ _ => none) (fun _ => none) (none) (fun _ _ _ => none) (none) (fun cs _ => some cs) (fun _ _ => none) (fun _ => none) (fun _ => none) (fun _ _ => none) (fun _ => none) (fun _ => none) () (fun _ _ _ _ => ()) x )

def tupOf (x : LV)  : Option (List LV) :=
  (@LV.rec (fun _ => Option (List LV)) (fun _ => Unit) (fun _ => none) (fun _ _ => none) (fun _ _ => none) (fun _ _ => none) (none) (fun _ _ _ _ _ => none) (none) (fun _ => none) (none) (fun _ _ _ => none) (fun _ _ _ _ _ => none) (fun _ => none) (none) (fun _ _ _ => none) (none) (fun _ _ => none) (fun vs _ => some vs) (fun _ => none) (fun _ => none) (fun _ _ => none) (fun _ => none) (fun _ => none) () (fun _ _ _ _ => ()) x )

def shapeB (x : LV) (s : Bool) : Bool :=
  (@LV.rec (fun _ => Bool → Bool) (fun _ => Unit) (fun _ _ => false) (fun _ _ s => bnot s) (fun _ _ s => s) (fun _ _ _ => false) (fun _ => false) (fun _ _ _ _ _ _ => false) (fun _ => false) (fun _ _ => false) (fun _ => false) (fun _ _ _ _ => false) (fun _ _ _ _ _ _ => false) (fun _ _ => false) (fun _ => false) (fun _ _ _ _ => false) (fun _ => false) (fun _ _ _ => false) (fun _ _ _ => false) (fun _ _ => false) (fun _ _ => false) (fun _ _ s => bnot s) (fun _ _ => false) (fun _ _ => false) () (fun _ _ _ _ => ()) x s)

def shapesB : List LV → List Bool → Bool
  | [], [] => true
  | x :: xs, s :: ss => ib (shapeB x s) (shapesB xs ss) false
  | _, _ => false
def shapeAgg (x : LV) (fs : List Bool) : Bool :=
  (@LV.rec (fun _ => List Bool → Bool) (fun _ => Unit) (fun _ _ => false) (fun _ _ _ => false) (fun _ _ _ => false) (fun _ _ _ => false) (fun _ => false) (fun _ _ _ _ _ _ => false) (fun _ => false) (fun _ _ => false) (fun _ => false) (fun _ _ _ _ => false) (fun _ _ _ _ _ _ => false) (fun _ _ => false) (fun _ => false) (fun _ _ _ _ => false) (fun _ => false) (fun cs _ fs => shapesB cs fs) (fun _ _ _ => false) (fun _ _ => false) (fun _ _ => false) (fun _ _ _ => false) (fun _ _ => false) (fun _ _ => false) () (fun _ _ _ _ => ()) x fs)

def keyOk (kt : KT) (x : LV) : Bool := @KT.rec (fun _ => LV → Bool) (fun x => shapeB x false) (fun x => shapeB x true) (fun fs x => shapeAgg x fs) kt x
/-- keys of maps: an atom, or a flat struct of atoms -/
def eqKey (x y : LV) : Option Bool := @Option.rec (List LV) (fun _ => Option Bool) (eqAtom x y) (fun xs => ob (aggOf y) fun ys => eqAtoms xs ys) (aggOf x)
/-- of what kind (pointer 0, slice 1, map 2, func 3, interface 4), and is it nil -/
def nilOf (x : LV)  : Option (Nat × Bool) :=
  (@LV.rec (fun _ => Option (Nat × Bool)) (fun _ => Unit) (fun _ => none) (fun _ _ => none) (fun _ _ => none) (fun _ _ => some (0, false)) (some (0, true)) (fun _ _ _ _ _ => some (1, false)) (some (1, true)) (fun _ => some (2, false)) (some (2, true)) (fun _ _ _ => some (3, false)) (fun _ _ _ _ _ => some (3, false)) (fun _ => some (3, false)) (some (3, true)) (fun _ _ _ => some (4, false)) (some (4, true)) (fun _ _ => none) (fun _ _ => none) (fun _ => none) (fun _ => none) (fun _ _ => none) (fun _ => none) (fun _ => none) () (fun _ _ _ _ => ()) x )

/-- one of the two is nil -/
def eqNilLV (kd : Nat) (x y : LV) : Option Bool := ob (nilOf x) fun a => ob (nilOf y) fun b => ib (Nat.beq a.1 kd) (ib (Nat.beq b.1 kd) (ib a.2 (some b.2) (ib b.2 (some false) none)) none) none
def negB (neg : Bool) (b : Bool) : Option LV := some (.bool (bxor neg b))
def boolOf (x : LV)  : Option Bool :=
  (@LV.rec (fun _ => Option Bool) (fun _ => Unit) (fun b => some b) (fun _ _ => none) (fun _ _ => none) (fun _ _ => none) (none) (fun _ _ _ _ _ => none) (none) (fun _ => none) (none) (fun _ _ _ => none) (fun _ _ _ _ _ => none) (fun _ => none) (none) (fun _ _ _ => none) (none) (fun _ _ => none) (fun _ _ => none) (fun _ => none) (fun _ => none) (fun _ _ => none) (fun _ => none) (fun _ => none) () (fun _ _ _ _ => ()) x )


def binIntY (y : LV) (F : Facts) (op : BinOp) (k : IntKind) (a : Int) : Option LV :=
  (@LV.rec (fun _ => Facts → BinOp → IntKind → Int → Option LV) (fun _ => Unit) (fun _ _ _ _ _ => none) (fun j b _ op k a => binInt op j b k a) (fun _ _ _ _ _ _ => none) (fun _ _ _ _ _ _ => none) (fun _ _ _ _ => none) (fun _ _ _ _ _ _ _ _ _ => none) (fun _ _ _ _ => none) (fun _ _ _ _ _ => none) (fun _ _ _ _ => none) (fun _ _ _ _ _ _ _ => none) (fun _ _ _ _ _ _ _ _ _ => none) (fun _ _ _ _ _ => none) (fun _ _ _ _ => none) (fun _ _ _ _ _ _ _ => none) (fun _ _ _ _ => none) (fun _ _ _ _ _ _ => none) (fun _ _ _ _ _ _ => none) (fun _ _ _ _ _ => none) (fun _ _ _ _ _ => none) (fun j b F op k a => ib (inK k a) (symBin F op k (.c a) j b) none) (fun _ _ _ _ _ => none) (fun _ _ _ _ _ => none) () (fun _ _ _ _ => ()) y F op k a)

def binStrY (y : LV) (op : BinOp) (l : Nat) (a : Nat) : Option LV :=
  (@LV.rec (fun _ => BinOp → Nat → Nat → Option LV) (fun _ => Unit) (fun _ _ _ _ => none) (fun _ _ _ _ _ => none) (fun m b op l a => binStr op m b l a) (fun _ _ _ _ _ => none) (fun _ _ _ => none) (fun _ _ _ _ _ _ _ _ => none) (fun _ _ _ => none) (fun _ _ _ _ => none) (fun _ _ _ => none) (fun _ _ _ _ _ _ => none) (fun _ _ _ _ _ _ _ _ => none) (fun _ _ _ _ => none) (fun _ _ _ => none) (fun _ _ _ _ _ _ => none) (fun _ _ _ => none) (fun _ _ _ _ _ => none) (fun _ _ _ _ _ => none) (fun _ _ _ _ => none) (fun _ _ _ _ => none) (fun _ _ _ _ _ => none) (fun _ _ _ _ => none) (fun _ _ _ _ => none) () (fun _ _ _ _ => ()) y op l a)

def binLV (x : LV) (F : Facts) (op : BinOp) (y : LV) : Option LV :=
  (@LV.rec (fun _ => Facts → BinOp → LV → Option LV) (fun _ => Unit) (fun _ _ _ _ => none) (fun k a F op y => binIntY y F op k a) (fun l a _ op y => binStrY y op l a) (fun _ _ _ _ _ => none) (fun _ _ _ => none) (fun _ _ _ _ _ _ _ _ => none) (fun _ _ _ => none) (fun _ _ _ _ => none) (fun _ _ _ => none) (fun _ _ _ _ _ _ => none) (fun _ _ _ _ _ _ _ _ => none) (fun _ _ _ _ => none) (fun _ _ _ => none) (fun _ _ _ _ _ _ => none) (fun _ _ _ => none) (fun _ _ _ _ _ => none) (fun _ _ _ _ _ => none) (fun _ _ _ _ => none) (fun _ _ _ _ => none) (fun k a F op y => symY y F op k a) (fun _ _ _ _ => none) (fun _ _ _ _ => none) () (fun _ _ _ _ => ()) x F op y)


def unLV (op : UnOp) (x : LV) : Option LV :=
  match op, x with
  | .not, .bool b => some (.bool (bnot b))
  | .neg, .int k n => some (.int k (k.wrap (0 - n)))
  | .xor, .int k (.ofNat n) => if k.signed then none else if n ≤ limK k then some (.int k (.ofNat (limK k - n))) else none
  | .not, .sbool e => some (mkB (ntSE e))
  | .neg, .sint k e => some (.sint k (.un .neg k e))
  | .xor, .sint k e => if k.signed then none else some (.sint k (.un .xor k e))
  | _, _ => none

def findEnt (k : LV) : List Ent → Option (Option Ent)
  | [] => some none
  | e :: es => ob (eqKey k e.key) fun b => ib b (some (some e)) (findEnt k es)

def setEnt (k v : LV) : List Ent → List Ent
  | [] => []
  | e :: es => @Option.rec Bool (fun _ => List Ent) (e :: setEnt k v es) (fun b => ib b (⟨e.key, v, e.born⟩ :: es) (e :: setEnt k v es)) (eqKey k e.key)

def delEnt (k : LV) : List Ent → List Ent
  | [] => []
  | e :: es => @Option.rec Bool (fun _ => List Ent) (e :: delEnt k es) (fun b => ib b es (e :: delEnt k es)) (eqKey k e.key)

def LO.asMap (o : LO) : Option (List Ent × Nat) := match o with | .map es c => some (es, c) | _ => none
def mapOf (x : LV)  : Option Pos :=
  (@LV.rec (fun _ => Option Pos) (fun _ => Unit) (fun _ => none) (fun _ _ => none) (fun _ _ => none) (fun _ _ => none) (none) (fun _ _ _ _ _ => none) (none) (fun m => some m) (none) (fun _ _ _ => none) (fun _ _ _ _ _ => none) (fun _ => none) (none) (fun _ _ _ => none) (none) (fun _ _ => none) (fun _ _ => none) (fun _ => none) (fun _ => none) (fun _ _ => none) (fun _ => none) (fun _ => none) () (fun _ _ _ _ => ()) x )


def listGet (l : List LV) (i : Nat) : Option LV :=
  @List.rec LV (fun _ => Nat → Option LV) (fun _ => none) (fun x _ ih i => @Nat.rec (fun _ => Option LV) (some x) (fun j _ => ih j) i) l i
def listSub (l : List LV) (i n : Nat) : Option (List LV) := ib (Nat.ble (Nat.add i n) l.length) (some ((l.drop i).take n)) none

def loadRow (x : LV) (H : Heap) (n : Nat) : Option (List LV) :=
  (@LV.rec (fun _ => Heap → Nat → Option (List LV)) (fun _ => Unit) (fun _ _ _ => none) (fun _ _ _ _ => none) (fun _ _ _ _ => none) (fun b off H n => ob (H.cells b) fun t => getRow t off n) (fun _ _ => none) (fun _ _ _ _ _ _ _ => none) (fun _ _ => none) (fun _ _ _ => none) (fun _ _ => none) (fun _ _ _ _ _ => none) (fun _ _ _ _ _ _ _ => none) (fun _ _ _ => none) (fun _ _ => none) (fun _ _ _ _ _ => none) (fun _ _ => none) (fun _ _ _ _ => none) (fun _ _ _ _ => none) (fun _ _ _ => none) (fun _ _ _ => none) (fun _ _ _ _ => none) (fun _ _ _ => none) (fun _ _ _ => none) () (fun _ _ _ _ => ()) x H n)

def load1 (x : LV) (H : Heap) : Option LV :=
  (@LV.rec (fun _ => Heap → Option LV) (fun _ => Unit) (fun _ _ => none) (fun _ _ _ => none) (fun _ _ _ => none) (fun b off H => ob (H.cells b) fun t => t.getN off) (fun _ => none) (fun _ _ _ _ _ _ => none) (fun _ => none) (fun _ _ => none) (fun _ => none) (fun _ _ _ _ => none) (fun _ _ _ _ _ _ => none) (fun _ _ => none) (fun _ => none) (fun _ _ _ _ => none) (fun _ => none) (fun _ _ _ => none) (fun _ _ _ => none) (fun _ _ => none) (fun _ _ => none) (fun _ _ _ => none) (fun _ _ => none) (fun _ _ => none) () (fun _ _ _ _ => ()) x H)

/-- a row of known cells may be written: as far as they are known -/
def putRow (t : Trie LV) (i : Nat) (vs : List LV) : Option (Trie LV) :=
  @List.rec LV (fun _ => Trie LV → Nat → Option (Trie LV)) (fun t _ => some t) (fun v _ ih t i => ob (t.getN i) fun _ => ih (t.putN i (some v)) (Nat.succ i)) vs t i
def storeRow (x : LV) (H : Heap) (cs : List LV) : Option Heap :=
  (@LV.rec (fun _ => Heap → List LV → Option Heap) (fun _ => Unit) (fun _ _ _ => none) (fun _ _ _ _ => none) (fun _ _ _ _ => none) (fun b off H cs => ob (H.cells b) fun t => ob (putRow t off cs) fun t' => some (H.setO b (.cells t'))) (fun _ _ => none) (fun _ _ _ _ _ _ _ => none) (fun _ _ => none) (fun _ _ _ => none) (fun _ _ => none) (fun _ _ _ _ _ => none) (fun _ _ _ _ _ _ _ => none) (fun _ _ _ => none) (fun _ _ => none) (fun _ _ _ _ _ => none) (fun _ _ => none) (fun _ _ _ _ => none) (fun _ _ _ _ => none) (fun _ _ _ => none) (fun _ _ _ => none) (fun _ _ _ _ => none) (fun _ _ _ => none) (fun _ _ _ => none) () (fun _ _ _ _ => ()) x H cs)

def intNat (n : Int) : Nat := @Int.rec (fun _ => Nat) (fun m => m) (fun _ => 0) n
def asNat (n : Int) : Option Nat := @Int.rec (fun _ => Option Nat) some (fun _ => none) n
def natOf (x : LV)  : Option Nat :=
  (@LV.rec (fun _ => Option Nat) (fun _ => Unit) (fun _ => none) (fun _ n => asNat n) (fun _ _ => none) (fun _ _ => none) (none) (fun _ _ _ _ _ => none) (none) (fun _ => none) (none) (fun _ _ _ => none) (fun _ _ _ _ _ => none) (fun _ => none) (none) (fun _ _ _ => none) (none) (fun _ _ => none) (fun _ _ => none) (fun _ => none) (fun _ => none) (fun _ _ => none) (fun _ => none) (fun _ => none) () (fun _ _ _ _ => ()) x )


def sbound (T : Trie LV) (x : Option LOpd) (dflt : Nat) : Option Nat := @Option.rec LOpd (fun _ => Option Nat) (some dflt) (fun o => ob (getO o T) natOf) x

def mmLV (y : LV) (mx : Bool) (k : IntKind) (a : Int) : Option LV :=
  (@LV.rec (fun _ => Bool → IntKind → Int → Option LV) (fun _ => Unit) (fun _ _ _ _ => none) (fun _ b mx k a => some (.int k (ib mx (ib (intLe b a) a b) (ib (intLe a b) a b)))) (fun _ _ _ _ _ => none) (fun _ _ _ _ _ => none) (fun _ _ _ => none) (fun _ _ _ _ _ _ _ _ => none) (fun _ _ _ => none) (fun _ _ _ _ => none) (fun _ _ _ => none) (fun _ _ _ _ _ _ => none) (fun _ _ _ _ _ _ _ _ => none) (fun _ _ _ _ => none) (fun _ _ _ => none) (fun _ _ _ _ _ _ => none) (fun _ _ _ => none) (fun _ _ _ _ _ => none) (fun _ _ _ _ _ => none) (fun _ _ _ _ => none) (fun _ _ _ _ => none) (fun _ _ _ _ _ => none) (fun _ _ _ _ => none) (fun _ _ _ _ => none) () (fun _ _ _ _ => ()) y mx k a)

def mmX (x : LV) (mx : Bool) (y : LV) : Option LV :=
  (@LV.rec (fun _ => Bool → LV → Option LV) (fun _ => Unit) (fun _ _ _ => none) (fun k a mx y => mmLV y mx k a) (fun _ _ _ _ => none) (fun _ _ _ _ => none) (fun _ _ => none) (fun _ _ _ _ _ _ _ => none) (fun _ _ => none) (fun _ _ _ => none) (fun _ _ => none) (fun _ _ _ _ _ => none) (fun _ _ _ _ _ _ _ => none) (fun _ _ _ => none) (fun _ _ => none) (fun _ _ _ _ _ => none) (fun _ _ => none) (fun _ _ _ _ => none) (fun _ _ _ _ => none) (fun _ _ _ => none) (fun _ _ _ => none) (fun _ _ _ _ => none) (fun _ _ _ => none) (fun _ _ _ => none) () (fun _ _ _ _ => ()) x mx y)

def minmaxL (mx : Bool) : LV → List LV → Option LV
  | v, [] => some v
  | v, y :: ys => ob (mmX v mx y) fun r => minmaxL mx r ys
def pickLV (c : LV) (F : Facts) (a : Option LV) (b : Option LV) : Option LV :=
  (@LV.rec (fun _ => Facts → Option LV → Option LV → Option LV) (fun _ => Unit) (fun x _ a b => ib x a b) (fun _ _ _ _ _ => none) (fun _ _ _ _ _ => none) (fun _ _ _ _ _ => none) (fun _ _ _ => none) (fun _ _ _ _ _ _ _ _ => none) (fun _ _ _ => none) (fun _ _ _ _ => none) (fun _ _ _ => none) (fun _ _ _ _ _ _ => none) (fun _ _ _ _ _ _ _ _ => none) (fun _ _ _ _ => none) (fun _ _ _ => none) (fun _ _ _ _ _ _ => none) (fun _ _ _ => none) (fun _ _ _ _ _ => none) (fun _ _ _ _ _ => none) (fun _ _ _ _ => none) (fun _ _ _ _ => none) (fun _ _ _ _ _ => none) (fun e F a b => ob (lookB F e) fun x => ib x a b) (fun _ _ _ _ => none) () (fun _ _ _ _ => ()) c F a b)

def listGetS (l : List SE) (i : Nat) : Option SE :=
  @List.rec SE (fun _ => Nat → Option SE) (fun _ => none) (fun x _ ih i => @Nat.rec (fun _ => Option SE) (some x) (fun j _ => ih j) i) l i
def nilCheckLV (x : LV)  : Option LV :=
  (@LV.rec (fun _ => Option LV) (fun _ => Unit) (fun _ => none) (fun _ _ => none) (fun _ _ => none) (fun b off => some (LV.ptr b off)) (none) (fun _ _ _ _ _ => none) (none) (fun _ => none) (none) (fun f caps _ => some (LV.func f caps)) (fun _ _ _ _ _ => none) (fun l => some (LV.yld l)) (none) (fun _ _ _ => none) (none) (fun _ _ => none) (fun _ _ => none) (fun _ => none) (fun _ => none) (fun _ _ => none) (fun _ => none) (fun _ => none) () (fun _ _ _ _ => ()) x )

def convIntLV (x : LV) (k : IntKind) : Option LV :=
  (@LV.rec (fun _ => IntKind → Option LV) (fun _ => Unit) (fun _ _ => none) (fun _ n k => some (@Int.rec (fun _ => LV) (fun m => mkN k m) (fun m => .int k (k.wrap (.negSucc m))) n)) (fun _ _ _ => none) (fun _ _ _ => none) (fun _ => none) (fun _ _ _ _ _ _ => none) (fun _ => none) (fun _ _ => none) (fun _ => none) (fun _ _ _ _ => none) (fun _ _ _ _ _ _ => none) (fun _ _ => none) (fun _ => none) (fun _ _ _ _ => none) (fun _ => none) (fun _ _ _ => none) (fun _ _ _ => none) (fun _ _ => none) (fun _ _ => none) (fun j e k => some (.sint k (ib (kSub j k) e (.cv k e)))) (fun _ _ => none) (fun _ _ => none) () (fun _ _ _ _ => ()) x k)

def strLV (x : LV)  : Option LV :=
  (@LV.rec (fun _ => Option LV) (fun _ => Unit) (fun _ => none) (fun _ _ => none) (fun len n => some (.str len n)) (fun _ _ => none) (none) (fun _ _ _ _ _ => none) (none) (fun _ => none) (none) (fun _ _ _ => none) (fun _ _ _ _ _ => none) (fun _ => none) (none) (fun _ _ _ => none) (none) (fun _ _ => none) (fun _ _ => none) (fun _ => none) (fun _ => none) (fun _ _ => none) (fun _ => none) (fun _ => none) () (fun _ _ _ _ => ()) x )

def sliceStrLV (x : LV) (T : Trie LV) (lo : Option LOpd) (hi : Option LOpd) : Option LV :=
  (@LV.rec (fun _ => Trie LV → Option LOpd → Option LOpd → Option LV) (fun _ => Unit) (fun _ _ _ _ => none) (fun _ _ _ _ _ => none) (fun len n T lo hi => ob (sbound T hi len) fun h => ob (sbound T lo 0) fun l => ib (Nat.ble l h) (ib (Nat.ble h len) (some (.str (Nat.sub h l) (strSub len n l h))) none) none) (fun _ _ _ _ _ => none) (fun _ _ _ => none) (fun _ _ _ _ _ _ _ _ => none) (fun _ _ _ => none) (fun _ _ _ _ => none) (fun _ _ _ => none) (fun _ _ _ _ _ _ => none) (fun _ _ _ _ _ _ _ _ => none) (fun _ _ _ _ => none) (fun _ _ _ => none) (fun _ _ _ _ _ _ => none) (fun _ _ _ => none) (fun _ _ _ _ _ => none) (fun _ _ _ _ _ => none) (fun _ _ _ _ => none) (fun _ _ _ _ => none) (fun _ _ _ _ _ => none) (fun _ _ _ _ => none) (fun _ _ _ _ => none) () (fun _ _ _ _ => ()) x T lo hi)

def capSub (cap l : Nat) : Nat := @Nat.rec (fun _ => Nat) 0 (fun c _ => Nat.succ (Nat.sub c l)) cap
def capOk (cap len h : Nat) : Bool := @Nat.rec (fun _ => Bool) (Nat.ble h len) (fun c _ => Nat.ble h c) cap
def sliceSlLV (x : LV) (T : Trie LV) (sz : Nat) (lo : Option LOpd) (hi : Option LOpd) : Option LV :=
  (@LV.rec (fun _ => Trie LV → Nat → Option LOpd → Option LOpd → Option LV) (fun _ => Unit) (fun _ _ _ _ _ => none) (fun _ _ _ _ _ _ => none) (fun _ _ _ _ _ _ => none) (fun _ _ _ _ _ _ => none) (fun _ _ _ _ => none) (fun b off len sz' cap T sz lo hi => ob (sbound T hi len) fun h => ob (sbound T lo 0) fun l => ib (Nat.ble l h) (ib (capOk cap len h) (ib (Nat.beq sz sz') (some (.slice b (Nat.add off (Nat.mul l sz)) (Nat.sub h l) sz (capSub cap l))) none) none) none) (fun T _ lo hi => ob (sbound T hi 0) fun h => ob (sbound T lo 0) fun l => ib (Nat.beq (Nat.add l h) 0) (some .nilslice) none) (fun _ _ _ _ _ => none) (fun _ _ _ _ => none) (fun _ _ _ _ _ _ _ => none) (fun _ _ _ _ _ _ _ _ _ => none) (fun _ _ _ _ _ => none) (fun _ _ _ _ => none) (fun _ _ _ _ _ _ _ => none) (fun _ _ _ _ => none) (fun _ _ _ _ _ _ => none) (fun _ _ _ _ _ _ => none) (fun _ _ _ _ _ => none) (fun _ _ _ _ _ => none) (fun _ _ _ _ _ _ => none) (fun _ _ _ _ _ => none) (fun _ _ _ _ _ => none) () (fun _ _ _ _ => ()) x T sz lo hi)

def sliceArrLV (x : LV) (T : Trie LV) (n : Nat) (sz : Nat) (lo : Option LOpd) (hi : Option LOpd) : Option LV :=
  (@LV.rec (fun _ => Trie LV → Nat → Nat → Option LOpd → Option LOpd → Option LV) (fun _ => Unit) (fun _ _ _ _ _ _ => none) (fun _ _ _ _ _ _ _ => none) (fun _ _ _ _ _ _ _ => none) (fun b off T n sz lo hi => ob (sbound T hi n) fun h => ob (sbound T lo 0) fun l => ib (Nat.ble l h) (ib (Nat.ble h n) (some (.slice b (Nat.add off (Nat.mul l sz)) (Nat.sub h l) sz (Nat.succ (Nat.sub n l)))) none) none) (fun _ _ _ _ _ => none) (fun _ _ _ _ _ _ _ _ _ _ => none) (fun _ _ _ _ _ => none) (fun _ _ _ _ _ _ => none) (fun _ _ _ _ _ => none) (fun _ _ _ _ _ _ _ _ => none) (fun _ _ _ _ _ _ _ _ _ _ => none) (fun _ _ _ _ _ _ => none) (fun _ _ _ _ _ => none) (fun _ _ _ _ _ _ _ _ => none) (fun _ _ _ _ _ => none) (fun _ _ _ _ _ _ _ => none) (fun _ _ _ _ _ _ _ => none) (fun _ _ _ _ _ _ => none) (fun _ _ _ _ _ _ => none) (fun _ _ _ _ _ _ _ => none) (fun _ _ _ _ _ _ => none) (fun _ _ _ _ _ _ => none) () (fun _ _ _ _ => ()) x T n sz lo hi)

def offLV (x : LV) (k : Nat) : Option LV :=
  (@LV.rec (fun _ => Nat → Option LV) (fun _ => Unit) (fun _ _ => none) (fun _ _ _ => none) (fun _ _ _ => none) (fun b off k => some (.ptr b (Nat.add off k))) (fun _ => none) (fun _ _ _ _ _ _ => none) (fun _ => none) (fun _ _ => none) (fun _ => none) (fun _ _ _ _ => none) (fun _ _ _ _ _ _ => none) (fun _ _ => none) (fun _ => none) (fun _ _ _ _ => none) (fun _ => none) (fun _ _ _ => none) (fun _ _ _ => none) (fun _ _ => none) (fun _ _ => none) (fun _ _ _ => none) (fun _ _ => none) (fun _ _ => none) () (fun _ _ _ _ => ()) x k)

def idxArrLV (x : LV) (len : Nat) (sz : Nat) (n : Nat) : Option LV :=
  (@LV.rec (fun _ => Nat → Nat → Nat → Option LV) (fun _ => Unit) (fun _ _ _ _ => none) (fun _ _ _ _ _ => none) (fun _ _ _ _ _ => none) (fun b off len sz n => ib (Nat.ble (Nat.succ n) len) (some (.ptr b (Nat.add off (Nat.mul n sz)))) none) (fun _ _ _ => none) (fun _ _ _ _ _ _ _ _ => none) (fun _ _ _ => none) (fun _ _ _ _ => none) (fun _ _ _ => none) (fun _ _ _ _ _ _ => none) (fun _ _ _ _ _ _ _ _ => none) (fun _ _ _ _ => none) (fun _ _ _ => none) (fun _ _ _ _ _ _ => none) (fun _ _ _ => none) (fun _ _ _ _ _ => none) (fun _ _ _ _ _ => none) (fun _ _ _ _ => none) (fun _ _ _ _ => none) (fun _ _ _ _ _ => none) (fun _ _ _ _ => none) (fun _ _ _ _ => none) () (fun _ _ _ _ => ()) x len sz n)

def idxSlLV (x : LV) (sz : Nat) (n : Nat) : Option LV :=
  (@LV.rec (fun _ => Nat → Nat → Option LV) (fun _ => Unit) (fun _ _ _ => none) (fun _ _ _ _ => none) (fun _ _ _ _ => none) (fun _ _ _ _ => none) (fun _ _ => none) (fun b off len sz' _ sz n => ib (Nat.ble (Nat.succ n) len) (ib (Nat.beq sz sz') (some (.ptr b (Nat.add off (Nat.mul n sz)))) none) none) (fun _ _ => none) (fun _ _ _ => none) (fun _ _ => none) (fun _ _ _ _ _ => none) (fun _ _ _ _ _ _ _ => none) (fun _ _ _ => none) (fun _ _ => none) (fun _ _ _ _ _ => none) (fun _ _ => none) (fun _ _ _ _ => none) (fun _ _ _ _ => none) (fun _ _ _ => none) (fun _ _ _ => none) (fun _ _ _ _ => none) (fun _ _ _ => none) (fun _ _ _ => none) () (fun _ _ _ _ => ()) x sz n)

def ixStrLV (x : LV) (n : Nat) : Option LV :=
  (@LV.rec (fun _ => Nat → Option LV) (fun _ => Unit) (fun _ _ => none) (fun _ _ _ => none) (fun len s n => ib (Nat.ble (Nat.succ n) len) (some (.int .u8 (.ofNat (strAt len s n)))) none) (fun _ _ _ => none) (fun _ => none) (fun _ _ _ _ _ _ => none) (fun _ => none) (fun _ _ => none) (fun _ => none) (fun _ _ _ _ => none) (fun _ _ _ _ _ _ => none) (fun _ _ => none) (fun _ => none) (fun _ _ _ _ => none) (fun _ => none) (fun _ _ _ => none) (fun _ _ _ => none) (fun _ _ => none) (fun _ _ => none) (fun _ _ _ => none) (fun _ _ => none) (fun es n => ob (listGetS es n) fun e => some (mkI .u8 e)) () (fun _ _ _ _ => ()) x n)

def lenStrLV (x : LV)  : Option LV :=
  (@LV.rec (fun _ => Option LV) (fun _ => Unit) (fun _ => none) (fun _ _ => none) (fun len _ => some (.int .i64 (.ofNat len))) (fun _ _ => none) (none) (fun _ _ _ _ _ => none) (none) (fun _ => none) (none) (fun _ _ _ => none) (fun _ _ _ _ _ => none) (fun _ => none) (none) (fun _ _ _ => none) (none) (fun _ _ => none) (fun _ _ => none) (fun _ => none) (fun _ => none) (fun _ _ => none) (fun _ => none) (fun es => some (.int .i64 (.ofNat es.length))) () (fun _ _ _ _ => ()) x )

def lenSlLV (x : LV)  : Option LV :=
  (@LV.rec (fun _ => Option LV) (fun _ => Unit) (fun _ => none) (fun _ _ => none) (fun _ _ => none) (fun _ _ => none) (none) (fun _ _ len _ _ => some (.int .i64 (.ofNat len))) (some (.int .i64 (.ofNat 0))) (fun _ => none) (none) (fun _ _ _ => none) (fun _ _ _ _ _ => none) (fun _ => none) (none) (fun _ _ _ => none) (none) (fun _ _ => none) (fun _ _ => none) (fun _ => none) (fun _ => none) (fun _ _ => none) (fun _ => none) (fun _ => none) () (fun _ _ _ _ => ()) x )

def okPair (ok : Bool) (v : LV) (b : Bool) : LV := ib ok (.tup [v, .bool b]) v
def lookupLV (m : LV) (H : Heap) (zero : LV) (ok : Bool) (kv : LV) : Option LV :=
  (@LV.rec (fun _ => Heap → LV → Bool → LV → Option LV) (fun _ => Unit) (fun _ _ _ _ _ => none) (fun _ _ _ _ _ _ => none) (fun _ _ _ _ _ _ => none) (fun _ _ _ _ _ _ => none) (fun _ _ _ _ => none) (fun _ _ _ _ _ _ _ _ _ => none) (fun _ _ _ _ => none) (fun m H zero ok kv => ob (H.t.get m) fun o => ob o.asMap fun es => ob (findEnt kv es.1) fun r => @Option.rec Ent (fun _ => Option LV) (some (okPair ok zero false)) (fun e => some (okPair ok e.val true)) r) (fun _ zero ok _ => some (okPair ok zero false)) (fun _ _ _ _ _ _ _ => none) (fun _ _ _ _ _ _ _ _ _ => none) (fun _ _ _ _ _ => none) (fun _ _ _ _ => none) (fun _ _ _ _ _ _ _ => none) (fun _ _ _ _ => none) (fun _ _ _ _ _ _ => none) (fun _ _ _ _ _ _ => none) (fun _ _ _ _ _ => none) (fun _ _ _ _ _ => none) (fun _ _ _ _ _ _ => none) (fun _ _ _ _ _ => none) (fun _ _ _ _ _ => none) () (fun _ _ _ _ => ()) m H zero ok kv)

def LO.asIter (o : LO) : Option (Option Pos × Nat × List Nat × Nat) := match o with | .iter m a b c => some (m, a, b, c) | _ => none
def itrOf (x : LV)  : Option Pos :=
  (@LV.rec (fun _ => Option Pos) (fun _ => Unit) (fun _ => none) (fun _ _ => none) (fun _ _ => none) (fun _ _ => none) (none) (fun _ _ _ _ _ => none) (none) (fun _ => none) (none) (fun _ _ _ => none) (fun _ _ _ _ _ => none) (fun _ => none) (none) (fun _ _ _ => none) (none) (fun _ _ => none) (fun _ _ => none) (fun p => some p) (fun _ => none) (fun _ _ => none) (fun _ => none) (fun _ => none) () (fun _ _ _ _ => ()) x )

def entryLV (H : Heap) (x : LV) : Option LV :=
  ob (itrOf x) fun it => ob (H.t.get it) fun o => ob o.asIter fun i => ob i.1 fun m => match i.2.2.1 with
    | [] => none
    | s :: _ => ob (H.t.get m) fun o => ob o.asMap fun es => ib (Nat.beq es.2 i.2.2.2) (ob (es.1.find? fun e => Nat.beq e.born s) fun e => some (.tup [e.key, e.val])) none
def assertLV (x : LV) (t : Nat) (zero : LV) (ok : Bool) : Option LV :=
  (@LV.rec (fun _ => Nat → LV → Bool → Option LV) (fun _ => Unit) (fun _ _ _ _ => none) (fun _ _ _ _ _ => none) (fun _ _ _ _ _ => none) (fun _ _ _ _ _ => none) (fun _ _ _ => none) (fun _ _ _ _ _ _ _ _ => none) (fun _ _ _ => none) (fun _ _ _ _ => none) (fun _ _ _ => none) (fun _ _ _ _ _ _ => none) (fun _ _ _ _ _ _ _ _ => none) (fun _ _ _ _ => none) (fun _ _ _ => none) (fun u v _ t zero ok => ib (Nat.beq u t) (some (okPair ok v true)) (ib ok (some (okPair ok zero false)) none)) (fun _ zero ok => ib ok (some (okPair ok zero false)) none) (fun _ _ _ _ _ => none) (fun _ _ _ _ _ => none) (fun _ _ _ _ => none) (fun _ _ _ _ => none) (fun _ _ _ _ _ => none) (fun _ _ _ _ => none) (fun _ _ _ _ => none) () (fun _ _ _ _ => ()) x t zero ok)

def lenMapLV (x : LV) (H : Heap) : Option LV :=
  (@LV.rec (fun _ => Heap → Option LV) (fun _ => Unit) (fun _ _ => none) (fun _ _ _ => none) (fun _ _ _ => none) (fun _ _ _ => none) (fun _ => none) (fun _ _ _ _ _ _ => none) (fun _ => none) (fun m H => ob (H.t.get m) fun o => ob o.asMap fun es => some (.int .i64 (.ofNat es.1.length))) (fun _ => some (.int .i64 (.ofNat 0))) (fun _ _ _ _ => none) (fun _ _ _ _ _ _ => none) (fun _ _ => none) (fun _ => none) (fun _ _ _ _ => none) (fun _ => none) (fun _ _ _ => none) (fun _ _ _ => none) (fun _ _ => none) (fun _ _ => none) (fun _ _ _ => none) (fun _ _ => none) (fun _ _ => none) () (fun _ _ _ _ => ()) x H)

def mkFuncLV (f : Pos) (fs cs : List LV) : LV := @List.rec LV (fun _ => LV) (.func f cs) (fun _ _ _ => .mfunc f fs cs) fs

def byteOf (x : LV)  : Option Nat :=
  (@LV.rec (fun _ => Option Nat) (fun _ => Unit) (fun _ => none) (fun k n => ib (kindEq k .u8) (asNat n) none) (fun _ _ => none) (fun _ _ => none) (none) (fun _ _ _ _ _ => none) (none) (fun _ => none) (none) (fun _ _ _ => none) (fun _ _ _ _ _ => none) (fun _ => none) (none) (fun _ _ _ => none) (none) (fun _ _ => none) (fun _ _ => none) (fun _ => none) (fun _ => none) (fun _ _ => none) (fun _ => none) (fun _ => none) () (fun _ _ _ _ => ()) x )

def rowBytes : Nat → List LV → Option Nat
  | acc, [] => some acc
  | acc, x :: r => ob (byteOf x) fun b => rowBytes (Nat.add (Nat.mul acc 256) (Nat.mod b 256)) r

/-- the elements of a slice: their number and cells -/
def slCells (x : LV) (H : Heap) (sz : Nat) : Option (Nat × List LV) :=
  (@LV.rec (fun _ => Heap → Nat → Option (Nat × List LV)) (fun _ => Unit) (fun _ _ _ => none) (fun _ _ _ _ => none) (fun _ _ _ _ => none) (fun _ _ _ _ => none) (fun _ _ => none) (fun b off len sz' _ H sz => ib (Nat.beq sz sz') (ob (H.cells b) fun t => ob (getRow t off (Nat.mul len sz)) fun cs => some (len, cs)) none) (fun _ _ => some (0, [])) (fun _ _ _ => none) (fun _ _ => none) (fun _ _ _ _ _ => none) (fun _ _ _ _ _ _ _ => none) (fun _ _ _ => none) (fun _ _ => none) (fun _ _ _ _ _ => none) (fun _ _ => none) (fun _ _ _ _ => none) (fun _ _ _ _ => none) (fun _ _ _ => none) (fun _ _ _ => none) (fun _ _ _ _ => none) (fun _ _ _ => none) (fun _ _ _ => none) () (fun _ _ _ _ => ()) x H sz)

def byteSE (x : LV)  : Option SE :=
  (@LV.rec (fun _ => Option SE) (fun _ => Unit) (fun _ => none) (fun k n => ib (kindEq k .u8) (some (.c (.ofNat (Nat.mod (intNat n) 256)))) none) (fun _ _ => none) (fun _ _ => none) (none) (fun _ _ _ _ _ => none) (none) (fun _ => none) (none) (fun _ _ _ => none) (fun _ _ _ _ _ => none) (fun _ => none) (none) (fun _ _ _ => none) (none) (fun _ _ => none) (fun _ _ => none) (fun _ => none) (fun _ => none) (fun k e => ib (kindEq k .u8) (some e) none) (fun _ => none) (fun _ => none) () (fun _ _ _ _ => ()) x )

def rowSE : List LV → Option (List SE)
  | [] => some []
  | x :: r => ob (byteSE x) fun e => ob (rowSE r) fun es => some (e :: es)
def bytesToStrLV (x : LV) (H : Heap) : Option LV := ob (slCells x H 1) fun c => @Option.rec Nat (fun _ => Option LV) (ob (rowSE c.2) fun es => some (.sstr es)) (fun n => some (.str c.1 n)) (rowBytes 0 c.2)

/-- operations that change no memory: their value -/
def pureOp (F : Facts) (o : POp) (T : Trie LV) (H : Heap) : Option LV :=
  @POp.rec (fun _ => Trie LV → Heap → Option LV)
  (fun x T _ => getO x T)
  (fun c a b T _ => ob (getO c T) fun c => pickLV c F (getO a T) (getO b T))
  (fun zero ps T _ => ob (fillParts T zero ps) fun cs => some (.agg cs))
  (fun a T H => ob (getO a T) fun p => load1 p H)
  (fun n a T H => ob (getO a T) fun p => ob (loadRow p H n) fun cs => some (.agg cs))
  (fun x T _ => ob (getO x T) nilCheckLV)
  (fun op x y T _ => ob (getO x T) fun a => ob (getO y T) fun b => binLV a F op b)
  (fun neg x y T _ => ob (getO x T) fun a => ob (getO y T) fun b => ob (boolSE a) fun a => ob (boolSE b) fun b => some (eqBLV neg a b))
  (fun neg kd x y T _ => ob (getO x T) fun a => ob (getO y T) fun b => ob (eqNilLV kd a b) fun r => negB neg r)
  (fun neg fs x y T _ => ob (getO x T) fun a => ob (getO y T) fun b => ob (aggOf a) fun xs => ob (aggOf b) fun ys => ib (shapesB xs fs) (ob (eqAtoms xs ys) fun r => negB neg r) none)
  (fun op x T _ => ob (getO x T) fun a => unLV op a)
  (fun k x T _ => ob (getO x T) fun a => convIntLV a k)
  (fun x T _ => ob (getO x T) strLV)
  (fun x T H => ob (getO x T) fun a => bytesToStrLV a H)
  (fun t x T _ => ob (getO x T) fun a => some (.iface t a))
  (fun f first caps T _ => ob (getOs T first) fun fs => ob (getOs T caps) fun cs => some (mkFuncLV f fs cs))
  (fun x lo hi T _ => ob (getO x T) fun a => sliceStrLV a T lo hi)
  (fun sz x lo hi T _ => ob (getO x T) fun a => sliceSlLV a T sz lo hi)
  (fun n sz x lo hi T H => ob (getO x T) fun a => ib (Nat.ble n maxCells) (ob (loadRow a H (Nat.succ (Nat.pred (Nat.mul n sz)))) fun _ => sliceArrLV a T n sz lo hi) none)
  (fun k x T _ => ob (getO x T) fun a => offLV a k)
  (fun k x T _ => ob (getO x T) fun a => ob (aggOf a) fun cs => listGet cs k)
  (fun k n x T _ => ob (getO x T) fun a => ob (aggOf a) fun cs => ob (listSub cs k n) fun r => some (.agg r))
  (fun len sz x i T _ => ob (getO x T) fun a => ob (getO i T) fun i => ob (natOf i) fun n => idxArrLV a len sz n)
  (fun sz x i T _ => ob (getO x T) fun a => ob (getO i T) fun i => ob (natOf i) fun n => idxSlLV a sz n)
  (fun x i T _ => ob (getO x T) fun a => ob (getO i T) fun i => ob (natOf i) fun n => ixStrLV a n)
  (fun len x i T _ => ob (getO x T) fun a => ob (getO i T) fun i => ob (natOf i) fun n => ob (aggOf a) fun cs => ib (Nat.ble (Nat.succ n) len) (listGet cs n) none)
  (fun len sz x i T _ => ob (getO x T) fun a => ob (getO i T) fun i => ob (natOf i) fun n => ob (aggOf a) fun cs => ib (Nat.ble (Nat.succ n) len) (ob (listSub cs (Nat.mul n sz) sz) fun r => some (.agg r)) none)
  (fun kt zero ok m k T H => ob (getO k T) fun kv => ib (keyOk kt kv) (ob (getO m T) fun m => lookupLV m H zero ok kv) none)
  (fun x T H => ob (getO x T) fun a => entryLV H a)
  (fun t zero ok x T _ => ob (getO x T) fun a => assertLV a t zero ok)
  (fun i x T _ => ob (getO x T) fun a => ob (tupOf a) fun vs => listGet vs i)
  (fun x T _ => ob (getO x T) lenStrLV)
  (fun n _ _ => some (.int .i64 (.ofNat n)))
  (fun x T _ => ob (getO x T) lenSlLV)
  (fun x T H => ob (getO x T) fun a => lenMapLV a H)
  (fun mx xs T _ => ob (getOs T xs) fun vs => match vs with | v :: vs => minmaxL mx v vs | [] => none)
  o T H

/-- a value, by what is known of it -/
def pureN (o : POp) (T : Trie LV) (H : Heap) : Option LV := ob (pureOp H.fs o T H) fun v => some (norm v H.fs v)

def bytesRow (len n : Nat) : Nat → Nat → List LV
  | _, 0 => []
  | i, m+1 => .int .u8 (.ofNat (strAt len n i)) :: bytesRow len n (i+1) m

abbrev MR := Option (LV × Heap)
def om {α : Type} (x : Option α) (f : α → MR) : MR := @Option.rec α (fun _ => MR) none f x

/-- a fresh row that an append has made: of the old cells and the new; its capacity is not known -/
def appFresh (H : Heap) (sz n : Nat) (t : Trie LO) (row : Trie LV) : MR :=
  ib (Nat.ble (Nat.mul n 64) maxCells) (some (.slice H.next 0 n sz 0, ⟨H.next.succ, t.put (some (.cells row)) H.next, H.fs⟩)) none
def appendSl (H : Heap) (sz : Nat) (b : Pos) (off len cap m : Nat) (news : List LV) : MR :=
  om (H.cells b) fun t =>
    @Nat.rec (fun _ => MR)
      (om (getRow t off (Nat.mul len sz)) fun old => appFresh H sz (Nat.add len m) (H.t.put none b) (mkRow .lf 0 (old ++ news)))
      (fun c _ => ib (Nat.ble (Nat.add len m) c)
        (om (putRow t (Nat.add off (Nat.mul len sz)) news) fun t' => some (.slice b off (Nat.add len m) sz (Nat.succ c), H.setO b (.cells t')))
        (om (getRow t off (Nat.mul len sz)) fun old => appFresh H sz (Nat.add len m) H.t (mkRow .lf 0 (old ++ news)))) cap
def appendTo (s : LV) (H : Heap) (sz : Nat) (m : Nat) (news : List LV) : MR :=
  (@LV.rec (fun _ => Heap → Nat → Nat → List LV → MR) (fun _ => Unit) (fun _ _ _ _ _ => none) (fun _ _ _ _ _ _ => none) (fun _ _ _ _ _ _ => none) (fun _ _ _ _ _ _ => none) (fun _ _ _ _ => none) (fun b off len sz' cap H sz m news => ib (Nat.beq sz sz') (appendSl H sz b off len cap m news) none) (fun H sz m news => ib (Nat.beq m 0) (some (.nilslice, H)) (appFresh H sz m H.t (mkRow .lf 0 news))) (fun _ _ _ _ _ => none) (fun _ _ _ _ => none) (fun _ _ _ _ _ _ _ => none) (fun _ _ _ _ _ _ _ _ _ => none) (fun _ _ _ _ _ => none) (fun _ _ _ _ => none) (fun _ _ _ _ _ _ _ => none) (fun _ _ _ _ => none) (fun _ _ _ _ _ _ => none) (fun _ _ _ _ _ _ => none) (fun _ _ _ _ _ => none) (fun _ _ _ _ _ => none) (fun _ _ _ _ _ _ => none) (fun _ _ _ _ _ => none) (fun _ _ _ _ _ => none) () (fun _ _ _ _ => ()) s H sz m news)


def unitLV : LV := .tup []
def hb (x : Option Heap) : MR := @Option.rec Heap (fun _ => MR) none (fun h => some (unitLV, h)) x
def strCells (x : LV)  : Option (Nat × List LV) :=
  (@LV.rec (fun _ => Option (Nat × List LV)) (fun _ => Unit) (fun _ => none) (fun _ _ => none) (fun len n => some (len, bytesRow len n 0 len)) (fun _ _ => none) (none) (fun _ _ _ _ _ => none) (none) (fun _ => none) (none) (fun _ _ _ => none) (fun _ _ _ _ _ => none) (fun _ => none) (none) (fun _ _ _ => none) (none) (fun _ _ => none) (fun _ _ => none) (fun _ => none) (fun _ => none) (fun _ _ => none) (fun _ => none) (fun _ => none) () (fun _ _ _ _ => ()) x )


def mAppend (sz : Nat) (s x : LOpd) (T : Trie LV) (H : Heap) : MR :=
  om (getO s T) fun sv => om (getO x T) fun xv => om (slCells xv H sz) fun c => appendTo sv H sz c.1 c.2
def mAppendStr (s x : LOpd) (T : Trie LV) (H : Heap) : MR :=
  om (getO s T) fun sv => om (getO x T) fun xv => om (strCells xv) fun c => appendTo sv H 1 c.1 c.2
/-- copy to a slice: of the source's n elements the first -/
def copyTo (d : LV) (H : Heap) (sz : Nat) (n : Nat) (cs : List LV) : MR :=
  (@LV.rec (fun _ => Heap → Nat → Nat → List LV → MR) (fun _ => Unit) (fun _ _ _ _ _ => none) (fun _ _ _ _ _ _ => none) (fun _ _ _ _ _ _ => none) (fun _ _ _ _ _ _ => none) (fun _ _ _ _ => none) (fun b off len sz' _ H sz n cs => ib (Nat.beq sz sz') (om (H.cells b) fun t => om (putRow t off (cs.take (Nat.mul (natMin n len) sz))) fun t' => some (.int .i64 (.ofNat (natMin n len)), H.setO b (.cells t'))) none) (fun H _ _ _ => some (.int .i64 (.ofNat 0), H)) (fun _ _ _ _ _ => none) (fun _ _ _ _ => none) (fun _ _ _ _ _ _ _ => none) (fun _ _ _ _ _ _ _ _ _ => none) (fun _ _ _ _ _ => none) (fun _ _ _ _ => none) (fun _ _ _ _ _ _ _ => none) (fun _ _ _ _ => none) (fun _ _ _ _ _ _ => none) (fun _ _ _ _ _ _ => none) (fun _ _ _ _ _ => none) (fun _ _ _ _ _ => none) (fun _ _ _ _ _ _ => none) (fun _ _ _ _ _ => none) (fun _ _ _ _ _ => none) () (fun _ _ _ _ => ()) d H sz n cs)

def mCopy (sz : Nat) (d s : LOpd) (T : Trie LV) (H : Heap) : MR :=
  om (getO d T) fun dv => om (getO s T) fun sv => om (slCells sv H sz) fun c => copyTo dv H sz c.1 c.2
def mCopyStr (d s : LOpd) (T : Trie LV) (H : Heap) : MR :=
  om (getO d T) fun dv => om (getO s T) fun sv => om (strCells sv) fun c => copyTo dv H 1 c.1 c.2
def mMapUpdate (kt : KT) (m k v : LOpd) (T : Trie LV) (H : Heap) : MR :=
  om (getO m T) fun m => om (mapOf m) fun m => om (getO k T) fun kv => ib (bnot (keyOk kt kv)) none <| om (getO v T) fun vv => om (H.t.get m) fun o => om o.asMap fun es =>
    om (findEnt kv es.1) fun r => @Option.rec Ent (fun _ => MR) (some (unitLV, H.setO m (.map (es.1 ++ [⟨kv, vv, es.2⟩]) (Nat.succ es.2)))) (fun _ => some (unitLV, H.setO m (.map (setEnt kv vv es.1) es.2))) r
def mMapEntry (kt : KT) (zero : LV) (m k : LOpd) (T : Trie LV) (H : Heap) : MR :=
  om (getO m T) fun m => om (mapOf m) fun m => om (getO k T) fun kv => ib (bnot (keyOk kt kv)) none <| om (H.t.get m) fun o => om o.asMap fun es =>
    om (findEnt kv es.1) fun r => @Option.rec Ent (fun _ => MR) (some (.tup [zero, .int .i64 (.ofNat es.2)], H.setO m (.map (es.1 ++ [⟨kv, zero, es.2⟩]) (Nat.succ es.2)))) (fun e => some (.tup [e.val, .int .i64 (.ofNat e.born)], H)) r
def stampEnt (s : Nat) (v : LV) : List Ent → Option (List Ent)
  | [] => none
  | e :: es => ib (Nat.beq e.born s) (some (⟨e.key, v, e.born⟩ :: es)) (ob (stampEnt s v es) fun r => some (e :: r))
def mEntryStore (m s v : LOpd) (T : Trie LV) (H : Heap) : MR :=
  om (getO m T) fun m => om (mapOf m) fun m => om (getO s T) fun s => om (natOf s) fun s => om (getO v T) fun vv => om (H.t.get m) fun o => om o.asMap fun es =>
    om (stampEnt s vv es.1) fun r => some (unitLV, H.setO m (.map r es.2))
def delLV (m : LV) (H : Heap) (kv : LV) : MR :=
  (@LV.rec (fun _ => Heap → LV → MR) (fun _ => Unit) (fun _ _ _ => none) (fun _ _ _ _ => none) (fun _ _ _ _ => none) (fun _ _ _ _ => none) (fun _ _ => none) (fun _ _ _ _ _ _ _ => none) (fun _ _ => none) (fun m H kv => om (H.t.get m) fun o => om o.asMap fun es => om (findEnt kv es.1) fun _ => some (unitLV, H.setO m (.map (delEnt kv es.1) es.2))) (fun H _ => some (unitLV, H)) (fun _ _ _ _ _ => none) (fun _ _ _ _ _ _ _ => none) (fun _ _ _ => none) (fun _ _ => none) (fun _ _ _ _ _ => none) (fun _ _ => none) (fun _ _ _ _ => none) (fun _ _ _ _ => none) (fun _ _ _ => none) (fun _ _ _ => none) (fun _ _ _ _ => none) (fun _ _ _ => none) (fun _ _ _ => none) () (fun _ _ _ _ => ()) m H kv)

def rangeLV (m : LV) (H : Heap) : MR :=
  (@LV.rec (fun _ => Heap → MR) (fun _ => Unit) (fun _ _ => none) (fun _ _ _ => none) (fun _ _ _ => none) (fun _ _ _ => none) (fun _ => none) (fun _ _ _ _ _ _ => none) (fun _ => none) (fun m H => om (H.t.get m) fun o => om o.asMap fun es => some (.itr H.next, H.new (.iter (some m) es.2 [] es.2))) (fun H => some (.itr H.next, H.new (.iter none 0 [] 0))) (fun _ _ _ _ => none) (fun _ _ _ _ _ _ => none) (fun _ _ => none) (fun _ => none) (fun _ _ _ _ => none) (fun _ => none) (fun _ _ _ => none) (fun _ _ _ => none) (fun _ _ => none) (fun _ _ => none) (fun _ _ _ => none) (fun _ _ => none) (fun _ _ => none) () (fun _ _ _ _ => ()) m H)

def mNew (H : Heap) (cs : List LV) : MR := ib (allOne cs) (some (.ptr H.next 0, H.new (.cells (mkRow .lf 0 cs)))) none
def mMkSlice (sz : Nat) (zero : List LV) (len cap : LOpd) (T : Trie LV) (H : Heap) : MR :=
  om (getO len T) fun l => om (natOf l) fun l => om (getO cap T) fun c => om (natOf c) fun c =>
    ib (Nat.ble l c) (ib (Nat.ble (Nat.mul c 64) maxCells) (some (.slice H.next 0 l sz (Nat.succ c), H.new (.cells (mkRow .lf 0 (rep c zero))))) none) none
def mStrToBytes (x : LOpd) (T : Trie LV) (H : Heap) : MR :=
  om (getO x T) fun xv => om (strCells xv) fun c => appFresh H 1 c.1 H.t (mkRow .lf 0 c.2)
def mBuildSlice (sz len : Nat) (zero : List LV) (ps : List (Nat × Nat × LOpd)) (T : Trie LV) (H : Heap) : MR :=
  om (fillParts T (rep len zero) ps) fun cs => ib (allOne cs) (some (.slice H.next 0 len sz (Nat.succ len), H.new (.cells (mkRow .lf 0 cs)))) none

/-- operations that change memory, but call nothing -/
def memOp (o : MOp) (T : Trie LV) (H : Heap) : MR :=
  @MOp.rec (fun _ => Trie LV → Heap → MR)
  (fun zero _ H => mNew H zero)
  (fun x T H => om (getO x T) fun v => mNew H (cellsOf v))
  mBuildSlice
  (fun _ H => some (.map H.next, H.new (.map [] 0)))
  (fun a x T H => om (getO a T) fun p => om (getO x T) fun v => ib (isOne v) (hb (storeRow p H [v])) none)
  (fun n a x T H => om (getO a T) fun p => om (getO x T) fun v => om (aggOf v) fun cs => ib (allOne cs) (ib (Nat.beq cs.length n) (hb (storeRow p H cs)) none) none)
  mStrToBytes mMkSlice mMapUpdate mMapEntry mEntryStore
  (fun x T H => om (getO x T) fun m => rangeLV m H)
  mAppend mAppendStr mCopy mCopyStr
  (fun kt m k T H => om (getO m T) fun m => om (getO k T) fun kv => ib (keyOk kt kv) (delLV m H kv) none)
  o T H


abbrev K := Out → Trie LV → Heap → List LDef → Pan → Bool
/-- behind a call: a panic, or a value -/
abbrev KC := Option LV → LV → Heap → Pan → Bool
abbrev Ex := LCode → Trie LV → Heap → List LDef → Pan → K → Bool
abbrev Cl := Pos → List LV → Heap → Pan → KC → Bool
/-- what lies a level below: code, and functions -/
structure Lo where
  ex : Ex
  cl : Cl
abbrev Run := Lo → Trie LV → Heap → List LDef → Pan → K → Bool

structure LFunc where
  body : LCode
  results : List (Bool × Pos × Nat)   -- true: tmp t; false: cell at tmp, with n cells (0: one)
  deriving Inhabited

def mkTmps (t : Trie LV) (i : Pos) (vs : List LV) : Trie LV :=
  @List.rec LV (fun _ => Trie LV → Pos → Trie LV) (fun t _ => t) (fun v _ ih t i => ih (t.put (some v) i) i.succ) vs t i

def readRes (T : Trie LV) (H : Heap) (r : Bool × Pos × Nat) : Option LV :=
  ob (T.get r.2.1) fun v => ib r.1 (some v) (@Nat.rec (fun _ => Option LV) (load1 v H) (fun n _ => ob (loadRow v H (Nat.succ n)) fun cs => some (.agg cs)) r.2.2)
def readResults (T : Trie LV) (H : Heap) : List (Bool × Pos × Nat) → Option (List LV)
  | [] => some []
  | r :: rs => ob (readRes T H r) fun x => ob (readResults T H rs) fun xs => some (x :: xs)
def resVal : List LV → LV
  | [x] => x
  | xs => .tup xs

def putD (T : Trie LV) (d : Option Pos) (v : LV) : Trie LV := @Option.rec Pos (fun _ => Trie LV) T (fun p => T.put (some v) p) d
def eraseAll (ds : List Pos) (T : Trie LV) : Trie LV := @List.rec Pos (fun _ => Trie LV → Trie LV) (fun T => T) (fun d _ ih T => ih (T.put none d)) ds T

def Heap.drop (H : Heap) (p : Pos) : Heap := ⟨H.next, H.t.put none p, H.fs⟩
def LO.asDefr (o : LO) : Option Unit := match o with | .defr => some () | _ => none
/-- the deferred calls at a frame's end; u: the frame's mode -/
def runDefers (cl : Cl) (D : List LDef) (u : Pan) (H : Heap) (k : Pan → Heap → Bool) : Bool :=
  match D with
  | [] => k u H
  | .coll p :: ds => bb (H.t.get p) fun o => bb o.asDefr fun _ => runDefers cl ds u (H.drop p) k
  | .call f args :: ds => cl f args H u fun pan _ H' u' =>
      match pan, u' with
      | some v, .ret => runDefers cl ds (.pan v false) H' k
      | none, .pan _ true => runDefers cl ds .ret H' k
      | none, u' => runDefers cl ds u' H' k
      | _, _ => false

def finish (rs : List (Bool × Pos × Nat)) (T : Trie LV) (u' : Pan) (k : KC) (H : Heap) : Bool :=
  bb (readResults T H rs) fun vs => k none (resVal vs) H u'
def endMode (rs : List (Bool × Pos × Nat)) (T : Trie LV) (u' : Pan) (k : KC) (m : Pan) (H : Heap) : Bool :=
  match m with
  | .ret => finish rs T u' k H
  | .pan v false => k (some v) unitLV H u'
  | _ => false
def outK (cl : Cl) (rs : List (Bool × Pos × Nat)) (k : KC) (o : Out) (T : Trie LV) (H : Heap) (D : List LDef) (u' : Pan) : Bool :=
  match o with
  | .nrm | .ret => @List.rec LDef (fun _ => Bool) (finish rs T u' k H) (fun _ _ _ => runDefers cl D .ret H (endMode rs T u' k)) D
  | .pan v => runDefers cl D (.pan v false) H (endMode rs T u' k)
  | .exit _ => false

def isNrm (o : Out) (x y : Bool) : Bool := @Out.rec (fun _ => Bool → Bool → Bool) (fun x _ => x) (fun _ _ y => y) (fun _ y => y) (fun _ _ y => y) o x y
def thenK (r : Run) (lo : Lo) (k : K) : K := fun o T H D u => isNrm o (r lo T H D u k) (k o T H D u)
def blkK (id : Nat) (r : Run) (lo : Lo) (k : K) : K := fun o T H D u =>
  @Out.rec (fun _ => Bool) (r lo T H D u k) (fun j => ib (Nat.beq j id) (r lo T H D u k) (k (.exit j) T H D u)) (k .ret T H D u) (fun v => k (.pan v) T H D u) o
def loopK (a : LCode) (lo : Lo) (k : K) : K := fun o T H D u => isNrm o (lo.ex (.loop a) T H D u k) (k o T H D u)
/-- behind a call in a plain region -/
def afterCall (dst : Option Pos) (r : Run) (lo : Lo) (T : Trie LV) (D : List LDef) (u : Pan) (k : K) : KC := fun pan v H' _ =>
  @Option.rec LV (fun _ => Bool) (r lo (putD T dst v) H' D u k) (fun e => k (.pan e) T H' D u) pan
def splitH (e : SE) (H : Heap) (a b : Heap → Bool) : Bool := @Option.rec Bool (fun _ => Bool) (ib (a (H.asm e true)) (b (H.asm e false)) false) (fun x => ib x (a H) (b H)) (lookB H.fs e)
def condLV (c : LV) (H : Heap) (a : (Heap → Bool)) (b : (Heap → Bool)) : Bool :=
  (@LV.rec (fun _ => Heap → (Heap → Bool) → (Heap → Bool) → Bool) (fun _ => Unit) (fun x H a b => ib x (a H) (b H)) (fun _ _ _ _ _ => false) (fun _ _ _ _ _ => false) (fun _ _ _ _ _ => false) (fun _ _ _ => false) (fun _ _ _ _ _ _ _ _ => false) (fun _ _ _ => false) (fun _ _ _ _ => false) (fun _ _ _ => false) (fun _ _ _ _ _ _ => false) (fun _ _ _ _ _ _ _ _ => false) (fun _ _ _ _ => false) (fun _ _ _ => false) (fun _ _ _ _ _ _ => false) (fun _ _ _ => false) (fun _ _ _ _ _ => false) (fun _ _ _ _ _ => false) (fun _ _ _ _ => false) (fun _ _ _ _ => false) (fun _ _ _ _ _ => false) (fun e H a b => splitH e H a b) (fun _ _ _ _ => false) () (fun _ _ _ _ => ()) c H a b)

def isNilL (l : List LV) : Bool := @List.rec LV (fun _ => Bool) true (fun _ _ _ => false) l
def grdS (c : LV) (w : Bool) (H : Heap) (a : (Heap → Bool)) (b : (Heap → Bool)) : Bool :=
  (@LV.rec (fun _ => Bool → Heap → (Heap → Bool) → (Heap → Bool) → Bool) (fun _ => Unit) (fun x w H a b => ib x (ib w (a H) (b H)) (ib w (b H) (a H))) (fun _ _ _ _ _ _ => false) (fun _ _ _ _ _ _ => false) (fun _ _ _ _ _ _ => false) (fun _ _ _ _ => false) (fun _ _ _ _ _ _ _ _ _ => false) (fun _ _ _ _ => false) (fun _ _ _ _ _ => false) (fun _ _ _ _ => false) (fun _ _ _ _ _ _ _ => false) (fun _ _ _ _ _ _ _ _ _ => false) (fun _ _ _ _ _ => false) (fun _ _ _ _ => false) (fun _ _ _ _ _ _ _ => false) (fun _ _ _ _ => false) (fun _ _ _ _ _ _ => false) (fun vs _ _ H _ b => ib (isNilL vs) (b H) false) (fun _ _ _ _ _ => false) (fun _ _ _ _ _ => false) (fun _ _ _ _ _ _ => false) (fun e w H a b => ib w (splitH e H a b) (splitH e H b a)) (fun _ _ _ _ _ => false) () (fun _ _ _ _ => ()) c w H a b)

/-- a guard: a bool; or nothing, where its own operation was left out -/
def grdLV (c : LV) (w : Bool) (a : Bool) (b : Bool) : Bool :=
  (@LV.rec (fun _ => Bool → Bool → Bool → Bool) (fun _ => Unit) (fun x w a b => ib x (ib w a b) (ib w b a)) (fun _ _ _ _ _ => false) (fun _ _ _ _ _ => false) (fun _ _ _ _ _ => false) (fun _ _ _ => false) (fun _ _ _ _ _ _ _ _ => false) (fun _ _ _ => false) (fun _ _ _ _ => false) (fun _ _ _ => false) (fun _ _ _ _ _ _ => false) (fun _ _ _ _ _ _ _ _ => false) (fun _ _ _ _ => false) (fun _ _ _ => false) (fun _ _ _ _ _ _ => false) (fun _ _ _ => false) (fun _ _ _ _ _ => false) (fun vs _ _ _ b => ib (isNilL vs) b false) (fun _ _ _ _ => false) (fun _ _ _ _ => false) (fun _ _ _ _ _ => false) (fun _ _ _ _ => false) (fun _ _ _ _ => false) () (fun _ _ _ _ => ()) c w a b)


def setPs (t : Trie LV) : List Pos → List LV → Option (Trie LV)
  | [], [] => some t
  | p :: ps, v :: vs => setPs (t.put (some v) p) ps vs
  | _, _ => none
def LO.asLoop (o : LO) : Option (Nat × Out × Trie LV × List Pos × LCode × LCode) := match o with | .loop st p T ps a b => some (st, p, T, ps, a, b) | _ => none
def outEq (o : Out) : Nat := @Out.rec (fun _ => Nat) 0 (fun _ => 1) 2 (fun _ => 3) o

/-- a round: its end -/
def reSt (H : Heap) (l : Pos) (st : Nat) (o : Out) (f : Heap → Bool) : Bool := bb (H.t.get l) fun x => bb x.asLoop fun r => f (H.setO l (.loop st o r.2.2.1 r.2.2.2.1 r.2.2.2.2.1 r.2.2.2.2.2))
def roundK (l : Pos) (kc : KC) : K := fun o _ H D _ => match D, o with
  | [], .nrm => reSt H l 0 .nrm fun H => kc none (.bool true) H .none
  | [], .pan v => kc (some v) unitLV H .none
  | [], o => reSt H l 2 o fun H => kc none (.bool false) H .none
  | _, _ => false
/-- a round: behind the assignments to the loop's left sides -/
def roundA (l : Pos) (b : LCode) (lo : Lo) (kc : KC) : K := fun o T H D _ => match D, o with
  | [], .nrm => bb (H.t.get l) fun ob => bb ob.asLoop fun r => ib (Nat.beq r.1 0) (lo.ex b T (H.setO l (.loop 1 r.2.1 r.2.2.1 r.2.2.2.1 r.2.2.2.2.1 r.2.2.2.2.2)) [] .rnd (roundK l kc)) false
  | _, _ => false
def callYld (l : Pos) (vs : List LV) (lo : Lo) (H : Heap) (kc : KC) : Bool :=
  bb (H.t.get l) fun o => bb o.asLoop fun r => bb (setPs r.2.2.1 r.2.2.2.1 vs) fun T₁ =>
    lo.ex r.2.2.2.2.1 T₁ H [] .rnd (roundA l r.2.2.2.2.2 lo kc)

def callVal (f : LV) (vs : List LV) (lo : Lo) (H : Heap) (kc : KC) : Bool :=
  match f with
  | .func g caps => lo.cl g (vs ++ caps) H .none kc
  | .mfunc g first caps => lo.cl g (first ++ vs ++ caps) H .none kc
  | .yld l => callYld l vs lo H kc
  | _ => false

def insSeen (seen : List Nat) (n : Nat) : List Nat := n :: seen
def ltB (a b : Nat) : Bool := Nat.ble (Nat.succ a) b
def memB (x : Nat) (l : List Nat) : Bool := @List.rec Nat (fun _ => Bool) false (fun y _ ih => ib (Nat.beq x y) true ih) l
/-- the entries that a step of an iterator may take: those that were there as it began; those that came -/
def candOld (es : List Ent) (since : Nat) (seen : List Nat) : List Ent := es.filter fun e => ib (memB e.born seen) false (ltB e.born since)
def candNew (es : List Ent) (since : Nat) (seen : List Nat) : List Ent := es.filter fun e => ib (memB e.born seen) false (bnot (ltB e.born since))
def allB {α : Type} (l : List α) (f : α → Bool) : Bool := @List.rec α (fun _ => Bool) true (fun x _ ih => ib (f x) ih false) l

def doNext (x : LV) (dst : Option Pos) (r : Run) (lo : Lo) (T : Trie LV) (H : Heap) (D : List LDef) (u : Pan) (k : K) : Bool :=
  bb (itrOf x) fun it => bb (H.t.get it) fun o => bb o.asIter fun i =>
    @Option.rec Pos (fun _ => Bool) (r lo (putD T dst (.tup [.bool false])) H D u k)
      (fun m => bb (H.t.get m) fun o => bb o.asMap fun es =>
        ib (ib (Nat.beq i.2.2.1.length 0) true (ib (Nat.beq es.1.length 0) true (bnot (allB es.1 fun e => Nat.ble i.2.2.2 e.born))))
          (ib (@List.rec Ent (fun _ => Bool) (r lo (putD T dst (.tup [.bool false])) H D u k) (fun _ _ _ => true) (candOld es.1 i.2.1 i.2.2.1))
            (allB (candOld es.1 i.2.1 i.2.2.1 ++ candNew es.1 i.2.1 i.2.2.1) fun e => r lo (putD T dst (.tup [.bool true, e.key, e.val])) (H.setO it (.iter (some m) i.2.1 (e.born :: i.2.2.1) es.2)) D u k) false) false) i.1

def doRecover (dst : Option Pos) (r : Run) (lo : Lo) (T : Trie LV) (H : Heap) (D : List LDef) (u : Pan) (k : K) : Bool :=
  match u with
  | .pan v false => r lo (putD T dst v) H D (.pan v true) k
  | .ret => r lo (putD T dst .niliface) H D .ret k
  | _ => false
def doPanic (x : LV) (T : Trie LV) (H : Heap) (D : List LDef) (u : Pan) (k : K) : Bool :=
  match x with
  | .iface t v => k (.pan (.iface t v)) T H D u
  | _ => false
def isRnd (u : Pan) (x y : Bool) : Bool := @Pan.rec (fun _ => Bool) y x y (fun _ _ => y) u
def doDfr (f : LV) (vs : List LV) (r : Run) (lo : Lo) (T : Trie LV) (H : Heap) (D : List LDef) (u : Pan) (k : K) : Bool :=
  match f with
  | .func g caps => isRnd u false (r lo T H (.call g (vs ++ caps) :: D) u k)
  | .mfunc g first caps => isRnd u false (r lo T H (.call g (first ++ vs ++ caps) :: D) u k)
  | _ => false
def callOp (o : COp) (dst : Option Pos) (r : Run) (lo : Lo) (T : Trie LV) (H : Heap) (D : List LDef) (u : Pan) (k : K) : Bool :=
  @COp.rec (fun _ => Option Pos → Run → Lo → Trie LV → Heap → List LDef → Pan → K → Bool)
    (fun f args dst r lo T H D u k => bb (getOs T args) fun vs => lo.cl f vs H .none (afterCall dst r lo T D u k))
    (fun f args dst r lo T H D u k => bb (getOs T args) fun vs => bb (getO f T) fun f => callVal f vs lo H (afterCall dst r lo T D u k))
    (fun f args dst r lo T H D u k => bb (getOs T args) fun vs => bb (getO f T) fun f => doDfr f vs r lo (putD T dst unitLV) H D u k)
    doRecover
    (fun x _ _ _ T H D u k => bb (getO x T) fun x => doPanic x T H D u k)
    (fun x dst r lo T H D u k => bb (getO x T) fun x => doNext x dst r lo T H D u k)
    o dst r lo T H D u k

/-- behind a range over a function -/
def rngK (l : Pos) (r : Run) (lo : Lo) (T : Trie LV) (D : List LDef) (u : Pan) (k : K) : KC := fun pan _ H' _ =>
  match pan with
  | some v => k (.pan v) T H' D u
  | none => bb (H'.t.get l) fun o => bb o.asLoop fun x => ib (Nat.beq x.1 1) false
      (match x.2.1 with
        | .nrm => r lo T (H'.drop l) D u k
        | .pan _ => false
        | o => k o T (H'.drop l) D u)
def doRng (f : LV) (ps : List Pos) (a b : LCode) (r : Run) (lo : Lo) (T : Trie LV) (H : Heap) (D : List LDef) (u : Pan) (k : K) : Bool :=
  match f with
  | .func g caps => isRnd u false (lo.cl g (.yld H.next.succ :: caps) ((H.new .defr).new (.loop 0 .nrm T ps a b)) .none (rngK H.next.succ r lo T (.coll H.next :: D) u k))
  | _ => false

/-! the regions that draw their order -/
def posAdd (p : Pos) (n : Nat) : Pos := @Nat.rec (fun _ => Pos) p (fun _ ih => ih.succ) n
/-- the name of a new block -/
def aVal (o : MOp) (p : Pos) : Option LV := match o with
  | .alloc _ | .box _ => some (.ptr p 0)
  | .buildSlice sz len _ _ => some (.slice p 0 len sz (Nat.succ len))
  | .mkMap => some (.map p)
  | _ => none
/-- the new block -/
def aObj (o : MOp) (T : Trie LV) : Option LO := match o with
  | .alloc zero => ib (allOne zero) (some (.cells (mkRow .lf 0 zero))) none
  | .box x => ob (getO x T) fun v => ib (allOne (cellsOf v)) (some (.cells (mkRow .lf 0 (cellsOf v)))) none
  | .buildSlice _ len zero ps => ob (fillParts T (rep len zero) ps) fun cs => ib (allOne cs) (some (.cells (mkRow .lf 0 cs))) none
  | .mkMap => some (.map [] 0)
  | _ => none
def sesEq : List SE → List SE → Bool
  | [], [] => true
  | x :: xs, y :: ys => ib (seEq x y) (sesEq xs ys) false
  | _, _ => false
/-- structural equality: true where the two are one -/
def lvEq : LV → LV → Bool
  | .bool a, .bool b => bnot (bxor a b)
  | .int j a, .int k b => ib (kindEq j k) (intEq a b) false
  | .str l a, .str m b => strEq l a m b
  | .ptr a i, .ptr b j => ib (Nat.beq a.toNat b.toNat) (Nat.beq i j) false
  | .nilptr, .nilptr | .nilslice, .nilslice | .nilmap, .nilmap | .nilfunc, .nilfunc | .niliface, .niliface => true
  | .slice a i l s c, .slice b j m t d => ib (Nat.beq a.toNat b.toNat) (ib (Nat.beq i j) (ib (Nat.beq l m) (ib (Nat.beq s t) (Nat.beq c d) false) false) false) false
  | .map a, .map b => Nat.beq a.toNat b.toNat
  | .yld a, .yld b => Nat.beq a.toNat b.toNat
  | .itr a, .itr b => Nat.beq a.toNat b.toNat
  | .opq a, .opq b => Nat.beq a.toNat b.toNat
  | .sint j a, .sint k b => ib (kindEq j k) (seEq a b) false
  | .sbool a, .sbool b => seEq a b
  | .sstr a, .sstr b => sesEq a b
  | .func f xs, .func g ys => ib (Nat.beq f.toNat g.toNat) (lvEqs xs ys) false
  | .iface t x, .iface u y => ib (Nat.beq t u) (lvEq x y) false
  | .agg xs, .agg ys => lvEqs xs ys
  | .tup xs, .tup ys => lvEqs xs ys
  | _, _ => false
  where lvEqs : List LV → List LV → Bool
  | [], [] => true
  | x :: xs, y :: ys => ib (lvEq x y) (lvEqs xs ys) false
  | _, _ => false

abbrev RunD := Pos → Trie LV → Run → Lo → Trie LV → Heap → List LDef → Pan → K → Bool
/-- the guard of an instruction: a: it is carried out -/
def gq (g : Option (Pos × Bool)) (T : Trie LV) (a b : Bool) : Bool := @Option.rec (Pos × Bool) (fun _ => Bool) a (fun p => bb (T.get p.1) fun c => grdLV c p.2 a b) g
def afterD (d : Option Pos) (ih : RunD) (base : Pos) (TP : Trie LV) (r : Run) (lo : Lo) (T : Trie LV) (D : List LDef) (u : Pan) (k : K) : KC := fun pan v H' _ =>
  @Option.rec LV (fun _ => Bool) (ih base TP r lo (putD T d v) H' D u k) (fun e => k (.pan e) TP H' D u) pan
def callD (o : COp) (d : Option Pos) (ih : RunD) (base : Pos) (TP : Trie LV) (r : Run) (lo : Lo) (T : Trie LV) (H : Heap) (D : List LDef) (u : Pan) (k : K) : Bool :=
  match o with
  | .callF f args => bb (getOs T args) fun vs => lo.cl f vs H .none (afterD d ih base TP r lo T D u k)
  | .callV f args => bb (getOs T args) fun vs => bb (getO f T) fun f => callVal f vs lo H (afterD d ih base TP r lo T D u k)
  | _ => false
def runD (l : List DI) : RunD :=
  @List.rec DI (fun _ => RunD) (fun _ _ r lo T H D u k => r lo T H D u k)
    (fun x _ ih => @DI.rec (fun _ => RunD → RunD)
      (fun _ o d g ih base TP r lo T H D u k => gq g T (bb (pureN o T H) fun v => ih base TP r lo (T.put (some v) d) H D u k) (ih base TP r lo (T.put (some unitLV) d) H D u k))
      (fun _ o d g ih base TP r lo T H D u k => gq g T (bb (pureN o T H) fun v => bb (T.get d) fun w => ib (lvEq v w) (ih base TP r lo T H D u k) false) (ih base TP r lo T H D u k))
      (fun _ i o d g ih base TP r lo T H D u k => gq g T (bb (aVal o (posAdd base i)) fun v => bb (aObj o T) fun _ => ih base TP r lo (T.put (some v) d) H D u k) (ih base TP r lo (T.put (some unitLV) d) H D u k))
      (fun _ i o d g ih base TP r lo T H D u k => gq g T (bb (aObj o T) fun ob => ih base TP r lo T (H.setO (posAdd base i) ob) D u k) (ih base TP r lo T H D u k))
      (fun _ o d g ih base TP r lo T H D u k => gq g T (@Option.rec (LV × Heap) (fun _ => Bool) false (fun p => ih base TP r lo (putD T d p.1) p.2 D u k) (memOp o T H)) (ih base TP r lo (putD T d unitLV) H D u k))
      (fun _ o d g ih base TP r lo T H D u k => gq g T (callD o d ih base TP r lo T H D u k) (ih base TP r lo (putD T d unitLV) H D u k))
      x ih) l

def run (c : LCode) : Run :=
  @LCode.rec (fun _ => Run)
    (fun _ T H D u k => k .nrm T H D u)
    (fun o d _ r lo T H D u k => bb (pureN o T H) fun v => r lo (T.put (some v) d) H D u k)
    (fun o d _ r lo T H D u k => @Option.rec (LV × Heap) (fun _ => Bool) false (fun p => r lo (putD T d p.1) p.2 D u k) (memOp o T H))
    (fun o d _ r lo T H D u k => callOp o d r lo T H D u k)
    (fun g w d _ _ ra r lo T H D u k => bb (T.get g) fun c => grdS c w H (fun H => ra lo T H D u (thenK r lo k)) (fun H => r lo (putD T d unitLV) H D u k))
    (fun n ds l _ r lo T H D u k => runD l H.next (eraseAll ds T) r lo T ⟨posAdd H.next n, H.t, H.fs⟩ D u k)
    (fun x _ _ _ ra rb r lo T H D u k => bb (getO x T) fun c => condLV c H (fun H => ra lo T H D u (thenK r lo k)) (fun H => rb lo T H D u (thenK r lo k)))
    (fun id _ _ ra r lo T H D u k => ra lo T H D u (blkK id r lo k))
    (fun a ra lo T H D u k => ra lo T H D u (loopK a lo k))
    (fun f ps a b _ _ _ r lo T H D u k => bb (getO f T) fun f => doRng f ps a b r lo T H D u k)
    (fun id _ T H D u k => k (.exit id) T H D u)
    (fun _ T H D u k => k .ret T H D u)
    (fun _ _ _ _ _ _ => false)
    c

/-- a summary of a function; the last: the call itself, where the summary does not speak of it -/
abbrev Sum := List LV → Heap → KC → Bool → Bool
section
variable (fns : Trie LFunc) (sums : Trie Sum)
def lo0 : Lo := ⟨fun _ _ _ _ _ _ => false, fun _ _ _ _ _ => false⟩
def clFn (lo : Lo) (f : Pos) (args : List LV) (H : Heap) (u : Pan) (k : KC) : Bool :=
  bb (fns.get f) fun fn => run fn.body lo (mkTmps .lf .h args) H [] u (outK lo.cl fn.results k)
def clOf (lo : Lo) (f : Pos) (args : List LV) (H : Heap) (u : Pan) (k : KC) : Bool :=
  @Option.rec Sum (fun _ => Bool) (clFn fns lo f args H u k) (fun s => @Pan.rec (fun _ => Bool) (s args H k (clFn fns lo f args H u k)) false (clFn fns lo f args H u k) (fun _ _ => clFn fns lo f args H u k) u) (sums.get f)
def loN (n : Nat) : Lo := @Nat.rec (fun _ => Lo) lo0 (fun _ lo => ⟨fun c => run c lo, clOf fns sums lo⟩) n
def callTop (n : Nat) (f : Pos) (args : List LV) (H : Heap) (k : Option LV → LV → Heap → Bool) : Bool := (loN fns sums n).cl f args H .none fun p v H _ => k p v H
end

end
end Go.LX

/- LX, part 2: from the model's code to the executor's. -/
namespace Go.LX
noncomputable section

def byteNum : List UInt8 → Nat → Nat
  | [], acc => acc
  | b :: bs, acc => byteNum bs (acc * 256 + b.toNat)

/-- closed values; none: of no use here -/
def ofValue : Nat → Value → Option LV
  | 0, _ => none
  | n+1, v => match v with
    | .bool b => some (.bool b)
    | .int k n => some (.int k n)
    | .string s => some (.str s.data.toList.length (byteNum s.data.toList 0))
    | .pointer none => some .nilptr
    | .slice none 0 0 => some .nilslice
    | .map none => some .nilmap
    | .func (.func f) a b => if a.toList.isEmpty && b.toList.isEmpty then some (.func (posOf f) []) else none
    | .nilFunc => some .nilfunc
    | .iface t v => (ofValue n v).map (.iface t)
    | .nilIface => some .niliface
    | .agg cs => (cs.toList.mapM (ofValue n)).map .agg
    | .tuple cs => (cs.toList.mapM (ofValue n)).map .tup
    | _ => none

section
variable (P : Program) (nt : Nat)

def opd : Operand → Option LOpd
  | .tmp t => if t < nt then some (.t (posOf t)) else none
  | .const v => (ofValue 50 v).map .c
  | .func f => some (.c (.func (posOf f) []))
  | .global _ => none
def opds : List Operand → Option (List LOpd)
  | [] => some []
  | x :: xs => match opd nt x, opds xs with
    | some y, some ys => some (y :: ys)
    | _, _ => none
def opdO : Option Operand → Option (Option LOpd)
  | none => some none
  | some x => (opd nt x).map some

def szOf (t : TypeId) : Option Nat := (P.info? t).map (·.size)
def zeroOf (t : TypeId) : Option LV := match P.info? t with
  | some i => match i.zero with
    | some z => ofValue 50 z
    | none => none
  | none => none
def isAggD : TypeDesc → Bool
  | .struct _ | .array _ _ => true
  | _ => false
/-- the type's size; and is it a struct or an array -/
def aggOrOne (t : TypeId) : Option (Bool × Nat) := match P.underlying t, P.info? t with
  | some d, some i => if isAggD d then some (true, i.size) else if i.size = 1 then some (false, 1) else none
  | _, _ => none
def atomK (t : TypeId) : Option Bool := match P.underlying t with
  | some (.int _) => some false
  | some .string => some true
  | _ => none
/-- a struct of whole numbers and strings, one behind the other -/
def flatF : List Field → Nat → Option (List Bool)
  | [], _ => some []
  | f :: fs, i => match atomK P f.type, flatF fs (i + 1) with
    | some b, some bs => if f.offset = i ∧ f.name ≠ "_" then some (b :: bs) else none
    | _, _ => none
def flatT (t : TypeId) : Option (List Bool) := match P.underlying t with
  | some (.struct fs) => if P.stoodInHeld t then none else flatF P fs.toList 0
  | _ => none
def keyT (t : TypeId) : Option KT := match atomK P t, flatT P t with
  | some false, _ => some .int
  | some true, _ => some .str
  | none, some fs => some (.flat fs)
  | none, none => none

def isU8 : Option TypeDesc → Bool
  | some (.int .u8) => true
  | _ => false

inductive LOp where
  | p (o : POp) | m (o : MOp) | c (o : COp)

def partsOf (place : Nat → Option (Nat × Nat)) : List (Nat × Operand) → Option (List (Nat × Nat × LOpd))
  | [] => some []
  | (i, x) :: r => match place i, opd nt x, partsOf place r with
    | some (off, sz), some y, some ys => some ((off, sz, y) :: ys)
    | _, _, _ => none

def p1 (f : LOpd → POp) (x : Operand) : Option LOp := (opd nt x).map fun x => .p (f x)
def p2 (f : LOpd → LOpd → POp) (x y : Operand) : Option LOp := match opd nt x, opd nt y with | some x, some y => some (.p (f x y)) | _, _ => none
def m1 (f : LOpd → MOp) (x : Operand) : Option LOp := (opd nt x).map fun x => .m (f x)
def m2 (f : LOpd → LOpd → MOp) (x y : Operand) : Option LOp := match opd nt x, opd nt y with | some x, some y => some (.m (f x y)) | _, _ => none
def m3 (f : LOpd → LOpd → LOpd → MOp) (x y z : Operand) : Option LOp := match opd nt x, opd nt y, opd nt z with | some x, some y, some z => some (.m (f x y z)) | _, _, _ => none

def isConst : Operand → Bool
  | .const _ => true
  | _ => false
def isEq : BinOp → Option Bool
  | .eql => some false
  | .neq => some true
  | _ => none
def compBin (op : BinOp) (t : TypeId) (x y : Operand) : Option LOp :=
  match isEq op, P.underlying t with
  | _, some (.int _) | _, some .string => p2 nt (.bin op) x y
  | some neg, some .bool => p2 nt (.eqB neg) x y
  | some neg, some (.pointer _) => p2 nt (.eqNil neg 0) x y
  | some neg, some (.slice _) => p2 nt (.eqNil neg 1) x y
  | some neg, some (.map _ _) => p2 nt (.eqNil neg 2) x y
  | some neg, some (.func _ _ _) => p2 nt (.eqNil neg 3) x y
  | some neg, some (.interface _) => if isConst x || isConst y then p2 nt (.eqNil neg 4) x y else none
  | some neg, some (.struct _) => match flatT P t with
    | some fs => p2 nt (.eqFlat neg fs) x y
    | none => none
  | _, _ => none

def compBuild (t : TypeId) (ps : List (Nat × Operand)) : Option LOp :=
  match P.underlying t, zeroOf P t with
  | some (.struct fs), some (.agg z) => match fs.toList.mapM (fun f => (P.info? f.type).map fun i => (f.offset, i.size)) with
    | some places => (partsOf nt (fun i => places.toArray[i]?) ps).map fun ps => .p (.build z ps)
    | none => none
  | some (.array _ e), some (.agg z) => match szOf P e with
    | some sz => (partsOf nt (fun i => some (i * sz, sz)) ps).map fun ps => .p (.build z ps)
    | none => none
  | _, _ => none

def compSlice (t : TypeId) (x : Operand) (lo hi : Option Operand) : Option LOp :=
  match opd nt x, opdO nt lo, opdO nt hi, P.underlying t with
  | some x, some lo, some hi, some .string => some (.p (.sliceStr x lo hi))
  | some x, some lo, some hi, some (.slice e) => (szOf P e).map fun s => .p (.sliceSl s x lo hi)
  | some x, some lo, some hi, some (.array n e) => (szOf P e).map fun s => .p (.sliceArr n s x lo hi)
  | some x, some lo, some hi, some (.pointer a) => match P.underlying a with
    | some (.array n e) => (szOf P e).map fun s => .p (.sliceArr n s x lo hi)
    | _ => none
  | _, _, _, _ => none

def compBuiltin (b : Builtin) (xs : List Operand) (ts : List TypeId) : Option LOp :=
  match b, xs, ts with
  | .len, [x], [t] => match P.underlying t with
    | some .string => p1 nt .lenStr x
    | some (.array n _) => p1 nt (fun _ => .lenArr n) x
    | some (.slice _) => p1 nt .lenSl x
    | some (.map _ _) => p1 nt .lenMap x
    | some (.pointer a) => match P.underlying a with
      | some (.array n _) => p1 nt (fun _ => .lenArr n) x
      | _ => none
    | _ => none
  | .append, [s, x], [t, u] => match P.underlying t with
    | some (.slice e) => match P.underlying u, P.info? e with
      | some (.slice _), some i => if t = u ∧ 0 < i.size ∧ i.zero.isSome ∧ (i.zero.map fun z => z.cells.size) = some i.size ∧ i.bytes ≤ 64 * 1024 then m2 nt (.append i.size) s x else none
      | some .string, some i => if isU8 (P.underlying e) && decide (i.size = 1) && decide (i.bytes = 1) && decide ((i.zero.map fun z => z.cells.size) = some 1) then m2 nt .appendStr s x else none
      | _, _ => none
    | _ => none
  | .copy, [d, s], [t, u] => match P.underlying t with
    | some (.slice e) => match P.underlying u, szOf P e with
      | some (.slice _), some sz => if 0 < sz then m2 nt (.copy sz) d s else none
      | some .string, some sz => if sz = 1 then m2 nt .copyStr d s else none
      | _, _ => none
    | _ => none
  | .max, xs, _ => (opds nt xs).map fun xs => .p (.minmax true xs)
  | .min, xs, _ => (opds nt xs).map fun xs => .p (.minmax false xs)
  | .delete, [m, k], [t] => match P.underlying t with
    | some (.map kt _) => match keyT P kt with | some kt => m2 nt (.delete kt) m k | none => none
    | _ => none
  | .delete, [m, k], [t, _] => match P.underlying t with
    | some (.map kt _) => match keyT P kt with | some kt => m2 nt (.delete kt) m k | none => none
    | _ => none
  | .recover, [], _ => some (.c .recover)
  | _, _, _ => none

def compOp (o : Oper) : Option LOp :=
  match o.op with
  | .move x | .assign x => p1 nt .mv x
  | .pick c a b => match opd nt c, opd nt a, opd nt b with
    | some c, some a, some b => some (.p (.pick c a b))
    | _, _, _ => none
  | .alloc e => (zeroOf P e).map fun z => .m (.alloc (cellsOf z))
  | .box _ x => m1 nt .box x
  | .build t ps => compBuild P nt t ps.toList
  | .buildSlice t n ps => match P.underlying t with
    | some (.slice e) => match szOf P e, zeroOf P e with
      | some sz, some z => if (cellsOf z).length = sz ∧ n * sz ≤ 16384 ∧ n ≤ 16384 then (partsOf nt (fun i => some (i * sz, sz)) ps.toList).map fun ps => .m (.buildSlice sz n (cellsOf z) ps) else none
      | _, _ => none
    | _ => none
  | .insert t m k v | .mapUpdate t m k v => match P.underlying t with
    | some (.map kt _) => match keyT P kt with | some kt => m3 nt (.mapUpdate kt) m k v | none => none
    | _ => none
  | .load t a => match aggOrOne P t with
    | some (true, n) => p1 nt (.loadN n) a
    | some (false, _) => p1 nt .load1 a
    | none => none
  | .store t a x => match aggOrOne P t with
    | some (true, n) => m2 nt (.storeN n) a x
    | some (false, _) => m2 nt .store1 a x
    | none => none
  | .nilCheck x => p1 nt .nilCheck x
  | .binOp op t x y _ => compBin P nt op t x y
  | .unOp op _ x => p1 nt (.un op) x
  | .convert s d x => match P.underlying s, P.underlying d with
    | some (.int _), some (.int k) => p1 nt (.convInt k) x
    | some .string, some .string => p1 nt .convStr x
    | some (.slice e), some .string => if isU8 (P.underlying e) then p1 nt .bytesToStr x else none
    | some .string, some (.slice e) => if isU8 (P.underlying e) then m1 nt .strToBytes x else none
    | _, _ => none
  | .makeInterface t x => match P.underlying t with
    | some (.interface _) => none
    | some _ => p1 nt (.mkIface t) x
    | none => none
  | .makeFunc (.func f) first caps => match opds nt first.toList, opds nt caps.toList with
    | some a, some b => some (.p (.mkFunc (posOf f) a b))
    | _, _ => none
  | .makeMap _ none => some (.m .mkMap)
  | .makeSlice t l c => match P.underlying t with
    | some (.slice e) => match P.info? e, zeroOf P e with
      | some i, some z => if (cellsOf z).length = i.size ∧ 0 < i.size ∧ i.bytes ≤ 64 * 1024 ∧ allOne (cellsOf z) = true then m2 nt (.mkSlice i.size (cellsOf z)) l c else none
      | _, _ => none
    | _ => none
  | .slice t x lo hi none => compSlice P nt t x lo hi
  | .fieldAddr t x f => match P.underlying t with
    | some (.struct fs) => match fs[f]? with
      | some fd => match szOf P fd.type with
        | some (s + 1) => p1 nt (.off fd.offset) x
        | _ => none
      | none => none
    | _ => none
  | .field t x f => match P.underlying t with
    | some (.struct fs) => match fs[f]? with
      | some fd => match aggOrOne P fd.type with
        | some (true, n) => p1 nt (.fieldN fd.offset n) x
        | some (false, _) => p1 nt (.field1 fd.offset) x
        | none => none
      | none => none
    | _ => none
  | .indexAddr t x i => match P.underlying t with
    | some (.array n e) => match szOf P e with | some s => p2 nt (.idxArr n s) x i | none => none
    | some (.slice e) => match szOf P e with | some s => p2 nt (.idxSl s) x i | none => none
    | _ => none
  | .index t x i => match P.underlying t with
    | some .string => p2 nt .ixStr x i
    | some (.array n e) => match aggOrOne P e with
      | some (true, s) => p2 nt (.ixAggN n s) x i
      | some (false, _) => p2 nt (.ixAgg1 n) x i
      | none => none
    | _ => none
  | .lookup t m k ok => match P.underlying t with
    | some (.map kt e) => match zeroOf P e with
      | some z => match keyT P kt with | some kt => p2 nt (.lookup kt z ok) m k | none => none
      | none => none
    | _ => none
  | .mapEntry t m k => match P.underlying t with
    | some (.map kt e) => match zeroOf P e with
      | some z => match keyT P kt with | some kt => m2 nt (.mapEntry kt z) m k | none => none
      | none => none
    | _ => none
  | .entryStore _ m s v => m3 nt .entryStore m s v
  | .range t x => match P.underlying t with
    | some (.map _ _) => m1 nt .range x
    | _ => none
  | .next x false => (opd nt x).map fun x => .c (.next x)
  | .entry x => p1 nt .entry x
  | .typeAssert x _ t ok => match P.underlying t, zeroOf P t with
    | some (.interface _), _ => none
    | some _, some z => p1 nt (.assertC t z ok) x
    | _, _ => none
  | .extract x i => p1 nt (.extract i) x
  | .panic x => (opd nt x).map fun x => .c (.panic x)
  | .defer c => match c.callee, opds nt c.args.toList with
    | .value f, some xs => (opd nt f).map fun f => .c (.dfr f xs)
    | _, _ => none
  | .call c => match c.callee with
    | .value (.func f) => (opds nt c.args.toList).map fun xs => .c (.callF (posOf f) xs)
    | .value f => match opd nt f, opds nt c.args.toList with
      | some f, some xs => some (.c (.callV f xs))
      | _, _ => none
    | .builtin b => compBuiltin P nt b c.args.toList c.argTypes.toList
    | _ => none
  | _ => none

def dstOk : Option Nat → Bool
  | none => true
  | some d => decide (d < nt)
def dstOf (d : Option Nat) : Option Pos := d.map posOf
def compOp1 (o : Oper) (k : LCode) : LCode :=
  if dstOk nt o.dst then match compOp P nt o with
    | some (.p p) => match o.dst with
      | some d => .pop p (posOf d) k
      | none => .bad
    | some (.m m) => .mop m (dstOf o.dst) k
    | some (.c c) => .cop c (dstOf o.dst) k
    | none => .bad
  else .bad
/-- the guard's tmp -/
def grdOf (ops : Array Oper) (o : Oper) : Option (Option (Pos × Bool)) := match o.guard with
  | none => some none
  | some (j, w) => match ops[j]? with
    | some oj => match oj.dst with
      | some t => if t < nt then some (some (posOf t, w)) else none
      | none => none
    | none => none

def compOps (ops : Array Oper) : List Oper → LCode → LCode
  | [], k => k
  | o :: os, k => match grdOf nt ops o with
    | some none => compOp1 P nt o (compOps ops os k)
    | some (some (t, w)) => if dstOk nt o.dst then .grd t w (dstOf o.dst) (compOp1 P nt o .nil) (compOps ops os k) else .bad
    | none => .bad

/-! a region that draws its order -/
def bits (after : List Edge) (acc : List Nat) : Nat :=
  after.foldl (fun s e => if Region.binds .any e then Nat.lor (Nat.lor s (2 ^ e.on)) (acc.getD e.on 0) else s) 0
/-- of each operation those that come ahead of it, as bits -/
def befores : List Oper → List Nat → List Nat
  | [], acc => acc
  | o :: os, acc => befores os (acc ++ [bits o.after.toList acc])
def hasBit (m i : Nat) : Bool := Nat.beq (Nat.mod (Nat.shiftRight m i) 2) 1

structure DOp where
  o : Oper
  lop : LOp
  g : Option (Pos × Bool)
  bef : Nat

def isA : LOp → Bool
  | .m (.alloc _) | .m (.box _) | .m (.buildSlice ..) | .m .mkMap => true
  | _ => false
def isP : LOp → Bool
  | .p _ => true
  | _ => false
def isE (l : LOp) : Bool := !isA l && !isP l
def heapDep : LOp → Bool
  | .p (.load1 _) | .p (.loadN _ _) | .p (.lookup ..) | .p (.bytesToStr _) | .p (.sliceArr ..) | .p (.entry _) | .p (.lenMap _) => true
  | _ => false

/-- a stage: operations of every order; the blocks that the next call or store may want; it; what is asked again behind it -/
structure Stage where
  blk : List Nat
  ai : List Nat
  e : Nat
  ck : List Nat
structure Plan where
  st : List Stage
  blk : List Nat
  ai : List Nat

abbrev DOps := List (Nat × DOp)
/-- es: the calls and stores that are left; rest: the others that are left; done -/
def sched (all : DOps) : DOps → DOps → DOps → Plan
  | [], rest, done => ⟨[], rest.map (·.1), ((done ++ rest).filter fun d => isA d.2.lop && !(all.any fun e => isE e.2.lop && hasBit e.2.bef d.1)).map (·.1)⟩
  | e :: es, rest, done =>
    let free (d : Nat × DOp) : Bool := !((e :: es).any fun f => hasBit d.2.bef f.1)
    let now := rest.filter free
    let r := sched all es (rest.filter fun d => !free d) (done ++ now)
    ⟨⟨now.map (·.1), ((done ++ now).filter fun d => isA d.2.lop && hasBit e.2.bef d.1 && !(all.any fun f => isE f.2.lop && hasBit e.2.bef f.1 && hasBit f.2.bef d.1)).map (·.1),
      e.1, ((done ++ now).filter fun d => heapDep d.2.lop && !hasBit e.2.bef d.1).map (·.1)⟩ :: r.st, r.blk, r.ai⟩

def dopsOf (ops : Array Oper) (bs : List Nat) : List (Oper × Nat) → Option (List DOp)
  | [] => some []
  | (o, x) :: r => match compOp P nt o, grdOf nt ops o, dopsOf ops bs r with
    | some l, some g, some ds => if dstOk nt o.dst && (isE l || o.dst.isSome) then some (⟨o, l, g, bs.getD x 0⟩ :: ds) else none
    | _, _, _ => none

/-! the look at a plan -/
section
variable (ds : List DOp)
def isIn (C x : Nat) : Bool := hasBit C x
def addBit (C x : Nat) : Nat := Nat.lor C (2 ^ x)
/-- all that comes ahead is in C -/
def preOk (bef C : Nat) : Bool := Nat.beq (Nat.land bef C) bef
def lateOk (bef : Nat) : Option Nat → Bool
  | none => true
  | some e => hasBit bef e
def dstT (d : DOp) : List Nat := d.o.dst.toList
/-- what d reads is written ahead of it, or behind it -/
def looksOk (ops : Array Oper) (x : Nat) (d : DOp) : Bool :=
  (d.o.looksAt ops).all fun t => ds.zipIdx.all fun (y, i) => !(dstT y).contains t || hasBit d.bef i || (hasBit y.bef x && !heapDep d.lop && !isA d.lop)
/-- a block of operations; gives what is done behind it -/
def blkOk (eL : Option Nat) : List Nat → Nat → Option Nat
  | [], C => some C
  | x :: xs, C => match ds[x]? with
    | some d => if !isE d.lop && !isIn C x && preOk d.bef C && lateOk d.bef eL then blkOk eL xs (addBit C x) else none
    | none => none
def aiOk (C : Nat) (bef : Option Nat) : List Nat → Nat → Option Nat
  | [], J => some J
  | x :: xs, J => match ds[x]? with
    | some d => if isA d.lop && isIn C x && !isIn J x && (match bef with | some b => hasBit b x | none => true) then aiOk C bef xs (addBit J x) else none
    | none => none
def ckOk (C bef : Nat) (ck : List Nat) : Bool :=
  (ck.all fun x => isIn C x && (match ds[x]? with | some d => heapDep d.lop | none => false)) && ds.zipIdx.all fun (d, i) => !(isIn C i) || !heapDep d.lop || hasBit bef i || ck.contains i
def stOk (eL : Option Nat) (C J : Nat) : List Stage → Option (Option Nat × Nat × Nat)
  | [] => some (eL, C, J)
  | s :: r => match blkOk ds eL s.blk C, ds[s.e]? with
    | some C1, some e => if isE e.lop && !isIn C1 s.e && preOk e.bef C1 && lateOk e.bef eL && ckOk ds C1 e.bef s.ck then
        match aiOk ds C1 (some e.bef) s.ai J with
        | some J1 => stOk (some s.e) (addBit C1 s.e) J1 r
        | none => none
      else none
    | _, _ => none
def nodupB : List Nat → Bool
  | [] => true
  | x :: xs => !xs.contains x && nodupB xs
def planOk (ops : Array Oper) (p : Plan) : Bool :=
  nodupB (ds.flatMap dstT) && (ds.zipIdx.all fun (d, x) => looksOk ds ops x d) &&
  match stOk ds none 0 0 p.st with
  | some (eL, C, J) => match blkOk ds eL p.blk C with
    | some C1 => match aiOk ds C1 none p.ai J with
      | some J1 => ds.zipIdx.all fun (d, x) => isIn C1 x && (!isA d.lop || isIn J1 x)
      | none => false
    | none => false
  | none => false

/-! the plan's instructions -/
/-- the number of new blocks ahead of x -/
def newNo (x : Nat) : Nat := ((ds.take x).filter fun d => isA d.lop).length
def iBlk (x : Nat) : List DI := match ds[x]? with
  | some d => match d.lop, d.o.dst with
    | .p o, some t => [.r x o (posOf t) d.g]
    | .m o, some t => [.av x (newNo ds x) o (posOf t) d.g]
    | _, _ => []
  | none => []
def iAi (x : Nat) : List DI := match ds[x]? with
  | some d => match d.lop, d.o.dst with
    | .m o, some t => [.ai x (newNo ds x) o (posOf t) d.g]
    | _, _ => []
  | none => []
def iE (x : Nat) : List DI := match ds[x]? with
  | some d => match d.lop with
    | .m o => [.m x o (dstOf d.o.dst) d.g]
    | .c o => [.e x o (dstOf d.o.dst) d.g]
    | _ => []
  | none => []
def iCk (x : Nat) : List DI := match ds[x]? with
  | some d => match d.lop, d.o.dst with
    | .p o, some t => [.c x o (posOf t) d.g]
    | _, _ => []
  | none => []
def iStage (s : Stage) : List DI := s.blk.flatMap (iBlk ds) ++ (s.ai.flatMap (iAi ds) ++ (iE ds s.e ++ s.ck.flatMap (iCk ds)))
def iPlan (p : Plan) : List DI := p.st.flatMap (iStage ds) ++ (p.blk.flatMap (iBlk ds) ++ p.ai.flatMap (iAi ds))
end

def compDrw (ops : Array Oper) (k : LCode) : LCode :=
  match dopsOf P nt ops (befores ops.toList []) ops.toList.zipIdx with
  | some ds =>
    let all := ds.zipIdx.map fun (d, i) => (i, d)
    let p := sched all (all.filter fun d => isE d.2.lop) (all.filter fun d => !isE d.2.lop) []
    if planOk ds ops p then .drw (newNo ds ds.length) ((ds.flatMap dstT).map posOf) (iPlan ds p) k else .bad
  | none => .bad

def comp : Code → LCode → LCode
  | .skip, k => k
  | .region _ ops draw, k => if draw then compDrw P nt ops k else compOps P nt ops ops.toList k
  | .seq a b, k => comp a (comp b k)
  | .cond c a b, k => match opd nt c with
    | some x => .cond x (comp a .nil) (comp b .nil) k
    | none => .bad
  | .block id a, k => .blk id (comp a .nil) k
  | .loop a, _ => .loop (comp a .nil)
  | .rangeFunc f ps a b, k => match opd nt f with
    | some x => if ps.toList.all fun p => decide (p < nt) then .rng x (ps.toList.map posOf) (comp a .nil) (comp b .nil) k else .bad
    | none => .bad
  | .exit id, _ => .exit id
  | .ret, _ => .ret
  | .scope _, _ | .label _, _ | .goto _, _ | .refuse _, _ => .bad

def compRes : List ResultVar → Option (List (Bool × Pos × Nat))
  | [] => some []
  | r :: rs => match r, compRes rs with
    | .tmp t, some xs => if t < nt then some ((true, posOf t, 0) :: xs) else none
    | .cell a t, some xs => if a < nt then match aggOrOne P t with
      | some (true, n + 1) => some ((false, posOf a, n + 1) :: xs)
      | some (false, _) => some ((false, posOf a, 0) :: xs)
      | _ => none
      else none
    | _, none => none
end

section
variable (P : Program)
def compFn (f : Func) : Option LFunc := match f.body, compRes P f.ntmps f.results.toList with
  | some c, some rs => if f.name == "runtime.NumGoroutine" then none else some ⟨comp P f.ntmps c .nil, rs⟩
  | _, _ => none

def compL : List Func → Pos → Trie LFunc → Trie LFunc
  | [], _, t => t
  | f :: fs, i, t => compL fs i.succ (t.put (compFn P f) i)
def fnsOf : Trie LFunc := compL P P.funcs.toList .h .lf
end
end
end Go.LX

/- LX, part 3: what the logical values and heaps say of the model's. -/
namespace Go.LX

/-! ### places and tries -/
theorem Pos.toNat_pos : ∀ p : Pos, 0 < p.toNat
  | .h => by simp [Pos.toNat]
  | .o p => by have := p.toNat_pos; simp [Pos.toNat]; omega
  | .i p => by simp [Pos.toNat]
theorem Pos.toNat_inj : ∀ {p q : Pos}, p.toNat = q.toNat → p = q
  | .h, .h, _ => rfl
  | .h, .o q, e => by have := q.toNat_pos; simp only [Pos.toNat] at e; omega
  | .h, .i q, e => by have := q.toNat_pos; simp only [Pos.toNat] at e; omega
  | .o p, .h, e => by have := p.toNat_pos; simp only [Pos.toNat] at e; omega
  | .i p, .h, e => by have := p.toNat_pos; simp only [Pos.toNat] at e; omega
  | .o p, .o q, e => by simp only [Pos.toNat] at e; rw [Pos.toNat_inj (p := p) (q := q) (by omega)]
  | .i p, .i q, e => by simp only [Pos.toNat] at e; rw [Pos.toNat_inj (p := p) (q := q) (by omega)]
  | .o p, .i q, e => by simp only [Pos.toNat] at e; omega
  | .i p, .o q, e => by simp only [Pos.toNat] at e; omega
theorem Pos.succ_toNat : ∀ p : Pos, p.succ.toNat = p.toNat + 1
  | .h => rfl
  | .o p => rfl
  | .i p => by
    have h : (Pos.i p).succ = .o p.succ := rfl
    have := p.succ_toNat
    rw [h]; simp only [Pos.toNat]; omega
theorem ofBits_toNat : ∀ (n m : Nat), 0 < m → m ≤ n → (ofBits n m).toNat = m
  | 0, m, h, h' => by omega
  | n+1, m, h, h' => by
    unfold ofBits
    by_cases h1 : m ≤ 1
    · rw [if_pos h1]; simp [Pos.toNat]; omega
    · rw [if_neg h1]
      have := ofBits_toNat n (m / 2) (by omega) (by omega)
      by_cases h2 : m % 2 = 0
      · rw [if_pos h2]; simp only [Pos.toNat, this]; omega
      · rw [if_neg h2]; simp only [Pos.toNat, this]; omega
theorem posOf_toNat (t : Nat) : (posOf t).toNat = t + 1 := ofBits_toNat _ _ (by omega) (by omega)
@[simp] theorem posOf_idx (t : Nat) : (posOf t).idx = t := by simp [Pos.idx, posOf_toNat]
theorem posOf_inj {a b : Nat} (h : posOf a = posOf b) : a = b := by
  have := congrArg Pos.toNat h
  simp only [posOf_toNat] at this; omega
theorem posOf_of_idx (p : Pos) : posOf p.idx = p := Pos.toNat_inj (by rw [posOf_toNat]; have := p.toNat_pos; simp only [Pos.idx]; omega)
theorem Pos.idx_inj {p q : Pos} (h : p.idx = q.idx) : p = q := by rw [← posOf_of_idx p, ← posOf_of_idx q, h]
theorem Pos.succ_idx (p : Pos) : p.succ.idx = p.idx + 1 := by have := p.toNat_pos; simp only [Pos.idx, p.succ_toNat]; omega

instance : DecidableEq Pos := fun p q => if h : p.toNat = q.toNat then isTrue (Pos.toNat_inj h) else isFalse fun e => h (e ▸ rfl)

namespace Trie
variable {α : Type}
theorem get_h (t : Trie α) : get .h t = t.val := rfl
theorem get_o (p : Pos) (t : Trie α) : get (.o p) t = get p t.left := rfl
theorem get_i (p : Pos) (t : Trie α) : get (.i p) t = get p t.right := rfl
theorem put_h (v : Option α) (t : Trie α) : put v .h t = .nd t.left v t.right := rfl
theorem put_o (v : Option α) (p : Pos) (t : Trie α) : put v (.o p) t = .nd (put v p t.left) t.val t.right := rfl
theorem put_i (v : Option α) (p : Pos) (t : Trie α) : put v (.i p) t = .nd t.left t.val (put v p t.right) := rfl
theorem left_lf : (lf : Trie α).left = lf := rfl
theorem right_lf : (lf : Trie α).right = lf := rfl
@[simp] theorem get_lf (p : Pos) : get p (lf : Trie α) = none := by
  induction p with
  | h => rfl
  | o p ih => rw [get_o, left_lf, ih]
  | i p ih => rw [get_i, right_lf, ih]
theorem get_put (v : Option α) (p q : Pos) (t : Trie α) : get q (put v p t) = if q = p then v else get q t := by
  induction p generalizing q t with
  | h => cases q <;> first | rfl | (simp only [put_h, get_o, get_i]; rw [if_neg (by simp)]; rfl)
  | o p ih =>
    cases q with
    | h => rw [if_neg (by simp)]; rfl
    | o q => rw [put_o, get_o, get_o]; show get q (put v p t.left) = _; rw [ih]; simp
    | i q => rw [if_neg (by simp)]; rfl
  | i p ih =>
    cases q with
    | h => rw [if_neg (by simp)]; rfl
    | i q => rw [put_i, get_i, get_i]; show get q (put v p t.right) = _; rw [ih]; simp
    | o q => rw [if_neg (by simp)]; rfl
theorem get_put_same (v : Option α) (p : Pos) (t : Trie α) : get p (put v p t) = v := by rw [get_put, if_pos rfl]
theorem get_put_ne {v : Option α} {p q : Pos} {t : Trie α} (h : q ≠ p) : get q (put v p t) = get q t := by rw [get_put, if_neg h]

theorem getN_lf (i : Nat) : (lf : Trie α).getN i = none := rfl
theorem getN_nd (l r : Trie α) (v : Option α) (i : Nat) : (nd l v r).getN i = match i with | 0 => v | j+1 => if j % 2 = 0 then l.getN (j / 2) else r.getN (j / 2) := by
  cases i with
  | zero => rfl
  | succ j =>
    show @Nat.rec (fun _ => Option α) (l.getN (Nat.div j 2)) (fun _ _ => r.getN (Nat.div j 2)) (Nat.mod j 2) = _
    have h2 : Nat.mod j 2 = j % 2 := rfl
    have h3 : Nat.div j 2 = j / 2 := rfl
    rw [h2, h3]
    show _ = if j % 2 = 0 then l.getN (j / 2) else r.getN (j / 2)
    rcases Nat.mod_two_eq_zero_or_one j with h | h <;> rw [h] <;> rfl
theorem getN_path (v : Option α) : ∀ (n i j : Nat), i < n → (pathN n i v).getN j = if j = i then v else none
  | 0, i, j, h => by omega
  | n+1, i, j, h => by
    cases i with
    | zero =>
      show (nd lf v lf).getN j = _
      rw [getN_nd]
      cases j with
      | zero => simp
      | succ j => simp [getN_lf]
    | succ i =>
      have e : pathN (n+1) (i+1) v = if i % 2 = 0 then .nd (pathN n (i / 2) v) .none .lf else .nd .lf .none (pathN n (i / 2) v) := by
        show @Nat.rec (fun _ => Trie α) (.nd (pathN n (Nat.div i 2) v) .none .lf) (fun _ _ => .nd .lf .none (pathN n (Nat.div i 2) v)) (Nat.mod i 2) = _
        have h2 : Nat.mod i 2 = i % 2 := rfl
        have h3 : Nat.div i 2 = i / 2 := rfl
        rw [h2, h3]
        rcases Nat.mod_two_eq_zero_or_one i with h | h <;> rw [h] <;> rfl
      have ih := fun j => getN_path v n (i / 2) j (by omega)
      rw [e]
      cases j with
      | zero => by_cases h2 : i % 2 = 0 <;> simp [h2, getN_nd]
      | succ j =>
        by_cases h2 : i % 2 = 0
        · rw [if_pos h2, getN_nd]
          show (if j % 2 = 0 then _ else _) = _
          by_cases h3 : j % 2 = 0
          · rw [if_pos h3, ih]; by_cases h4 : j / 2 = i / 2
            · rw [if_pos h4, if_pos (by omega)]
            · rw [if_neg h4, if_neg (by omega)]
          · rw [if_neg h3, getN_lf, if_neg (by omega)]
        · rw [if_neg h2, getN_nd]
          show (if j % 2 = 0 then _ else _) = _
          by_cases h3 : j % 2 = 0
          · rw [if_pos h3, getN_lf, if_neg (by omega)]
          · rw [if_neg h3, ih]; by_cases h4 : j / 2 = i / 2
            · rw [if_pos h4, if_pos (by omega)]
            · rw [if_neg h4, if_neg (by omega)]
theorem putN_nd (l r : Trie α) (u v : Option α) (i : Nat) : (nd l u r).putN i v = match i with | 0 => .nd l v r | j+1 => if j % 2 = 0 then .nd (l.putN (j / 2) v) u r else .nd l u (r.putN (j / 2) v) := by
  cases i with
  | zero => rfl
  | succ j =>
    show @Nat.rec (fun _ => Trie α) (.nd (l.putN (Nat.div j 2) v) u r) (fun _ _ => .nd l u (r.putN (Nat.div j 2) v)) (Nat.mod j 2) = _
    have h2 : Nat.mod j 2 = j % 2 := rfl
    have h3 : Nat.div j 2 = j / 2 := rfl
    rw [h2, h3]
    show _ = if j % 2 = 0 then nd (l.putN (j / 2) v) u r else nd l u (r.putN (j / 2) v)
    rcases Nat.mod_two_eq_zero_or_one j with h | h <;> rw [h] <;> rfl
theorem getN_putN (t : Trie α) (i j : Nat) (v : Option α) : (t.putN i v).getN j = if j = i then v else t.getN j := by
  induction t generalizing i j with
  | lf =>
    show (pathN (Nat.succ i) i v).getN j = _
    rw [getN_path v (Nat.succ i) i j (Nat.lt_succ_self i)]; rfl
  | nd l u r ihl ihr =>
    rw [putN_nd]
    cases i with
    | zero =>
      simp only []
      rw [getN_nd, getN_nd]
      cases j <;> simp
    | succ i =>
      show (if i % 2 = 0 then _ else _ : Trie α).getN j = _
      by_cases h2 : i % 2 = 0
      · rw [if_pos h2, getN_nd, getN_nd]
        cases j with
        | zero => simp
        | succ j =>
          show (if j % 2 = 0 then _ else _) = if j + 1 = i + 1 then v else (if j % 2 = 0 then _ else _)
          by_cases h3 : j % 2 = 0
          · rw [if_pos h3, if_pos h3, ihl]; by_cases h4 : j / 2 = i / 2
            · rw [if_pos h4, if_pos (by omega)]
            · rw [if_neg h4, if_neg (by omega)]
          · rw [if_neg h3, if_neg h3, if_neg (by omega)]
      · rw [if_neg h2, getN_nd, getN_nd]
        cases j with
        | zero => simp
        | succ j =>
          show (if j % 2 = 0 then _ else _) = if j + 1 = i + 1 then v else (if j % 2 = 0 then _ else _)
          by_cases h3 : j % 2 = 0
          · rw [if_pos h3, if_pos h3, if_neg (by omega)]
          · rw [if_neg h3, if_neg h3, ihr]; by_cases h4 : j / 2 = i / 2
            · rw [if_pos h4, if_pos (by omega)]
            · rw [if_neg h4, if_neg (by omega)]
end Trie

/-! ### the small words -/
theorem ob_some {α β : Type} {x : Option α} {f : α → Option β} {b : β} : ob x f = some b ↔ ∃ a, x = some a ∧ f a = some b := by
  cases x with
  | none => exact ⟨fun h => (nomatch h), fun ⟨_, h, _⟩ => (nomatch h)⟩
  | some a => exact ⟨fun h => ⟨a, rfl, h⟩, fun ⟨_, h, h'⟩ => by cases h; exact h'⟩
theorem om_some {α : Type} {x : Option α} {f : α → MR} {b : LV × Heap} : om x f = some b ↔ ∃ a, x = some a ∧ f a = some b := by
  cases x with
  | none => exact ⟨fun h => (nomatch h), fun ⟨_, h, _⟩ => (nomatch h)⟩
  | some a => exact ⟨fun h => ⟨a, rfl, h⟩, fun ⟨_, h, h'⟩ => by cases h; exact h'⟩
theorem bb_true {α : Type} {x : Option α} {f : α → Bool} : bb x f = true ↔ ∃ a, x = some a ∧ f a = true := by
  cases x with
  | none => exact ⟨fun h => (nomatch h), fun ⟨_, h, _⟩ => (nomatch h)⟩
  | some a => exact ⟨fun h => ⟨a, rfl, h⟩, fun ⟨_, h, h'⟩ => by cases h; exact h'⟩
@[simp] theorem ib_true {α : Type} (x y : α) : ib true x y = x := rfl
@[simp] theorem ib_false {α : Type} (x y : α) : ib false x y = y := rfl
theorem ib_eq {α : Type} (b : Bool) (x y : α) : ib b x y = if b = true then x else y := by cases b <;> rfl
theorem ib_some {α : Type} {b : Bool} {x : Option α} {a : α} : ib b x none = some a ↔ b = true ∧ x = some a := by cases b <;> simp
theorem ib_ff {b x : Bool} : ib b x false = true ↔ b = true ∧ x = true := by cases b <;> simp
theorem ble_iff {a b : Nat} : Nat.ble a b = true ↔ a ≤ b := by rw [Nat.ble_eq]
theorem beq_iff {a b : Nat} : Nat.beq a b = true ↔ a = b := by rw [Nat.beq_eq]
@[simp] theorem bnot_eq (b : Bool) : bnot b = !b := by cases b <;> rfl
@[simp] theorem bxor_eq (a b : Bool) : bxor a b = (a != b) := by cases a <;> cases b <;> rfl
theorem kindEq_iff {j k : IntKind} : kindEq j k = true ↔ j = k := by cases j <;> cases k <;> simp [kindEq, kindNo]
theorem intEq_eq (a b : Int) : intEq a b = (a == b) := by
  rw [Bool.eq_iff_iff, beq_iff_eq]
  cases a with
  | ofNat m => cases b with
    | ofNat n => exact beq_iff.trans ⟨fun h => by rw [h], fun h => by injection h⟩
    | negSucc n => exact ⟨fun h => (nomatch h), fun h => (nomatch h)⟩
  | negSucc m => cases b with
    | ofNat n => exact ⟨fun h => (nomatch h), fun h => (nomatch h)⟩
    | negSucc n => exact beq_iff.trans ⟨fun h => by rw [h], fun h => by injection h⟩
theorem intLe_eq (a b : Int) : intLe a b = decide (a ≤ b) := by
  rw [Bool.eq_iff_iff, decide_eq_true_iff]
  cases a with
  | ofNat m => cases b with
    | ofNat n =>
      have : (Int.ofNat m ≤ Int.ofNat n) ↔ m ≤ n := Int.ofNat_le
      rw [this]; exact ble_iff
    | negSucc n =>
      refine ⟨fun h => (nomatch h), fun h => ?_⟩
      have e1 : Int.negSucc n = -(n : Int) - 1 := by omega
      have e2 : Int.ofNat m = (m : Int) := rfl
      rw [e1, e2] at h; omega
  | negSucc m => cases b with
    | ofNat n =>
      refine ⟨fun _ => ?_, fun _ => rfl⟩
      have e1 : Int.negSucc m = -(m : Int) - 1 := by omega
      have e2 : Int.ofNat n = (n : Int) := rfl
      rw [e1, e2]; omega
    | negSucc n =>
      have e : (Int.negSucc m ≤ Int.negSucc n) ↔ n ≤ m := by omega
      rw [e]; exact ble_iff
theorem natMin_eq (a b : Nat) : natMin a b = min a b := by
  unfold natMin; rw [ib_eq]
  by_cases h : a ≤ b
  · rw [if_pos (ble_iff.2 h)]; omega
  · rw [if_neg (fun e => h (ble_iff.1 e))]; omega

/-! ### strings as numbers -/
def bytesL (l n : Nat) : List UInt8 := (List.range l).map fun i => UInt8.ofNat (n / 256 ^ (l - 1 - i))
def bytesOf (l n : Nat) : ByteArray := ⟨(bytesL l n).toArray⟩
@[simp] theorem bytesL_length (l n : Nat) : (bytesL l n).length = l := by simp [bytesL]
theorem bytesL_zero (n : Nat) : bytesL 0 n = [] := rfl
theorem bytesL_succ (l n : Nat) : bytesL (l + 1) n = bytesL l (n / 256) ++ [UInt8.ofNat n] := by
  unfold bytesL
  rw [List.range_succ, List.map_append]
  congr 1
  · apply List.map_congr_left
    intro i hi
    have hi' : i < l := List.mem_range.1 hi
    rw [show l + 1 - 1 - i = (l - 1 - i) + 1 by omega, Nat.pow_succ, Nat.mul_comm, Nat.div_div_eq_div_mul]
  · simp
theorem byteNum_append (a b : List UInt8) (acc : Nat) : byteNum (a ++ b) acc = byteNum b (byteNum a acc) := by
  induction a generalizing acc with
  | nil => rfl
  | cons x a ih => simp only [List.cons_append, byteNum]; exact ih _
theorem byteNum_bytesL : ∀ (l n : Nat), n < 256 ^ l → byteNum (bytesL l n) 0 = n
  | 0, n, h => by simp at h; subst h; rfl
  | l+1, n, h => by
    rw [bytesL_succ, byteNum_append, byteNum_bytesL l (n / 256) (by rw [Nat.pow_succ] at h; omega)]
    simp only [byteNum, UInt8.toNat_ofNat']
    omega
theorem byteNum_lt : ∀ (bs : List UInt8) (acc : Nat), byteNum bs acc < (acc + 1) * 256 ^ bs.length
  | [], acc => by simp [byteNum]
  | b :: bs, acc => by
    have h := byteNum_lt bs (acc * 256 + b.toNat)
    have hb : b.toNat < 256 := b.toNat_lt
    simp only [byteNum, List.length_cons]
    refine Nat.lt_of_lt_of_le h ?_
    rw [Nat.pow_succ, Nat.mul_comm (256 ^ bs.length) 256, ← Nat.mul_assoc]
    exact Nat.mul_le_mul_right _ (by omega)
theorem bytesL_byteNum (bs : List UInt8) : bytesL bs.length (byteNum bs 0) = bs := by
  suffices h : ∀ (r : List UInt8), bytesL r.reverse.length (byteNum r.reverse 0) = r.reverse by simpa using h bs.reverse
  intro r
  induction r with
  | nil => rfl
  | cons b r ih =>
    rw [List.reverse_cons, List.length_append, List.length_singleton, bytesL_succ, byteNum_append]
    simp only [byteNum]
    have hb : b.toNat < 256 := b.toNat_lt
    rw [show (byteNum r.reverse 0 * 256 + b.toNat) / 256 = byteNum r.reverse 0 by omega, ih]
    congr 2
    apply UInt8.toNat_inj.1
    simp only [UInt8.toNat_ofNat']
    omega
theorem bytesL_inj {l m a b : Nat} (ha : a < 256 ^ l) (hb : b < 256 ^ m) : bytesL l a = bytesL m b ↔ l = m ∧ a = b := by
  constructor
  · intro h
    have hl : l = m := by simpa using congrArg List.length h
    subst hl
    exact ⟨rfl, by rw [← byteNum_bytesL l a ha, ← byteNum_bytesL l b hb, h]⟩
  · rintro ⟨rfl, rfl⟩; rfl
theorem bytesL_append (l m a b : Nat) (hb : b < 256 ^ m) : bytesL (l + m) (a * 256 ^ m + b) = bytesL l a ++ bytesL m b := by
  induction m generalizing b with
  | zero => simp at hb; subst hb; simp [bytesL_zero]
  | succ m ih =>
    rw [← Nat.add_assoc, bytesL_succ, bytesL_succ, ← List.append_assoc, ← ih (b / 256) (by rw [Nat.pow_succ] at hb; omega)]
    have e : (a * 256 ^ (m + 1) + b) / 256 = a * 256 ^ m + b / 256 := by
      rw [Nat.pow_succ, ← Nat.mul_assoc, Nat.mul_comm _ 256, Nat.mul_add_div (by decide)]
    rw [e]
    congr 2
    apply UInt8.toNat_inj.1
    simp only [UInt8.toNat_ofNat']
    rw [Nat.pow_succ, ← Nat.mul_assoc]
    omega
theorem bytesL_split (l n k : Nat) (hk : k ≤ l) : bytesL l n = bytesL (l - k) (n / 256 ^ k) ++ bytesL k (n % 256 ^ k) := by
  have h := bytesL_append (l - k) k (n / 256 ^ k) (n % 256 ^ k) (Nat.mod_lt _ (Nat.pow_pos (by decide)))
  rw [Nat.sub_add_cancel hk] at h
  rw [← h]; congr 1
  rw [Nat.mul_comm]; exact (Nat.div_add_mod _ _).symm
theorem bytesL_mod (l n : Nat) : bytesL l (n % 256 ^ l) = bytesL l n := by
  have h := bytesL_split l n l (Nat.le_refl _)
  simp only [Nat.sub_self, bytesL_zero, List.nil_append] at h
  exact h.symm
theorem pow8 (k : Nat) : 2 ^ (8 * k) = 256 ^ k := by rw [Nat.pow_mul]
theorem strSub_eq (len n l h : Nat) : strSub len n l h = (n / 256 ^ (len - h)) % 256 ^ (h - l) := by
  unfold strSub
  show (n >>> (8 * (len - h))) % (2 ^ (8 * (h - l))) = _
  rw [Nat.shiftRight_eq_div_pow, pow8, pow8]
theorem strSub_lt (len n l h : Nat) : strSub len n l h < 256 ^ (h - l) := by rw [strSub_eq]; exact Nat.mod_lt _ (Nat.pow_pos (by decide))
theorem bytesL_sub (len n l h : Nat) (hl : l ≤ h) (hh : h ≤ len) : bytesL (h - l) (strSub len n l h) = ((bytesL len n).drop l).take (h - l) := by
  rw [strSub_eq, bytesL_mod]
  have e1 := bytesL_split len n (len - h) (by omega)
  rw [show len - (len - h) = h by omega] at e1
  have e2 := bytesL_split h (n / 256 ^ (len - h)) (h - l) (by omega)
  rw [show h - (h - l) = l by omega] at e2
  rw [e1, e2, List.append_assoc, List.drop_append_of_le_length (by simp), List.drop_of_length_le (by simp), List.nil_append]
  rw [List.take_append_of_le_length (by simp), List.take_of_length_le (by simp), bytesL_mod]
theorem strAt_eq (len n i : Nat) (hi : i < len) : (bytesL len n)[i]? = some (UInt8.ofNat (strAt len n i)) ∧ strAt len n i < 256 := by
  have e : strAt len n i = (n / 256 ^ (len - 1 - i)) % 256 := by
    show (n >>> (8 * (len - 1 - i))) % 256 = _
    rw [Nat.shiftRight_eq_div_pow, pow8]
  refine ⟨?_, by rw [e]; omega⟩
  unfold bytesL
  rw [List.getElem?_map, List.getElem?_range hi]
  simp only [Option.map_some]
  congr 1
  apply UInt8.toNat_inj.1
  simp only [UInt8.toNat_ofNat', e]
  omega
theorem bytesOf_inj {l m a b : Nat} (ha : a < 256 ^ l) (hb : b < 256 ^ m) : bytesOf l a = bytesOf m b ↔ l = m ∧ a = b := by
  rw [← bytesL_inj ha hb]
  constructor
  · intro h
    have := congrArg (fun x : ByteArray => x.data.toList) h
    simpa [bytesOf] using this
  · intro h; unfold bytesOf; rw [h]
@[simp] theorem bytesOf_size (l n : Nat) : (bytesOf l n).size = l := by simp [bytesOf, ByteArray.size]
end Go.LX

/- LX, part 4: the relation between logical and actual values, heaps and worlds. -/
namespace Go.LX

/-- where a logical name lies: cells of a block; a whole object; or a value that is never looked into -/
inductive Phys where
  | blk (B base lim : Nat)
  | obj (r : Nat)
  | val (v : Value)
abbrev Phi := Pos → Option Phys
def Phi.le (φ ψ : Phi) : Prop := ∀ p x, φ p = some x → ψ p = some x
theorem Phi.le_refl (φ : Phi) : φ.le φ := fun _ _ h => h
theorem Phi.le_trans {φ ψ χ : Phi} (h : φ.le ψ) (h' : ψ.le χ) : φ.le χ := fun p x hx => h' p x (h p x hx)
def Phi.set (φ : Phi) (p : Pos) (x : Phys) : Phi := fun q => if q = p then some x else φ q
theorem Phi.set_same (φ : Phi) (p : Pos) (x : Phys) : φ.set p x p = some x := if_pos rfl
theorem Phi.set_ne {φ : Phi} {p q : Pos} {x : Phys} (h : q ≠ p) : φ.set p x q = φ q := if_neg h
theorem Phi.le_set {φ : Phi} {p : Pos} {x : Phys} (h : φ p = none) : φ.le (φ.set p x) := fun q y hy => by
  rw [Phi.set_ne]; exact hy
  intro e; subst e; rw [h] at hy; cases hy
def Phys.block : Phys → Option Nat
  | .blk B _ _ => some B
  | .obj r => some r
  | .val _ => none
def physB (φ : Phi) (p : Pos) : Option Nat := (φ p).bind Phys.block

/-! ### numbers that are told by variables -/
def opI (o : BinOp) (k : IntKind) (x y : Int) : Option Int :=
  match o with
  | .add => some (k.wrap (x + y))
  | .sub => some (k.wrap (x - y))
  | .mul => some (k.wrap (x * y))
  | .quo => if y = 0 then none else some (k.wrap (x.tdiv y))
  | .rem => if y = 0 then none else some (x.tmod y)
  | .and => some (k.wrap ((BitVec.ofInt k.bits x &&& BitVec.ofInt k.bits y).toNat : Int))
  | .or => some (k.wrap ((BitVec.ofInt k.bits x ||| BitVec.ofInt k.bits y).toNat : Int))
  | .xor => some (k.wrap ((BitVec.ofInt k.bits x ^^^ BitVec.ofInt k.bits y).toNat : Int))
  | .shl => if y < 0 then none else some (k.wrap (x * 2 ^ (min y.toNat k.bits)))
  | .shr => if y < 0 then none else some (x.fdiv (2 ^ (min y.toNat k.bits)))
  | .eql => some (if x = y then 1 else 0)
  | .lss => some (if x < y then 1 else 0)
  | _ => none
noncomputable def unI (o : UnOp) (k : IntKind) (x : Int) : Option Int :=
  match o with
  | .neg => some (k.wrap (0 - x))
  | .xor => if k.signed = false ∧ 0 ≤ x ∧ x ≤ (limK k : Int) then some ((limK k : Int) - x) else none
  | _ => none
noncomputable def SE.ev (φ : Phi) : SE → Option Int
  | .c n => some n
  | .v p => match φ p with
    | some (.val (.int _ n)) => some n
    | _ => none
  | .op o k a b => (a.ev φ).bind fun x => (b.ev φ).bind fun y => opI o k x y
  | .nt a => (a.ev φ).bind fun x => if x = 0 then some 1 else if x = 1 then some 0 else none
  | .cv k a => (a.ev φ).map k.wrap
  | .un o k a => (a.ev φ).bind (unI o k)
theorem SE.ev_mono {φ ψ : Phi} (hle : φ.le ψ) : ∀ {e : SE} {n : Int}, e.ev φ = some n → e.ev ψ = some n
  | .c n, m, h => h
  | .v p, m, h => by
    simp only [SE.ev] at h ⊢
    split at h
    · rename_i k q hq; rw [hle _ _ hq]; exact h
    · cases h
  | .op o k a b, m, h => by
    simp only [SE.ev, Option.bind_eq_some_iff] at h ⊢
    obtain ⟨x, hx, y, hy, he⟩ := h
    exact ⟨x, SE.ev_mono hle hx, y, SE.ev_mono hle hy, he⟩
  | .nt a, m, h => by
    simp only [SE.ev, Option.bind_eq_some_iff] at h ⊢
    obtain ⟨x, hx, he⟩ := h
    exact ⟨x, SE.ev_mono hle hx, he⟩
  | .cv k a, m, h => by
    simp only [SE.ev, Option.map_eq_some_iff] at h ⊢
    obtain ⟨x, hx, he⟩ := h
    exact ⟨x, SE.ev_mono hle hx, he⟩
  | .un o k a, m, h => by
    simp only [SE.ev, Option.bind_eq_some_iff] at h ⊢
    obtain ⟨x, hx, he⟩ := h
    exact ⟨x, SE.ev_mono hle hx, he⟩
/-- the equations hold -/
def FactsOk (φ : Phi) (F : Facts) : Prop := ∀ x ∈ F, ∃ n, x.1.ev φ = some n ∧ x.2.ev φ = some n
theorem FactsOk.mono {φ ψ : Phi} (hle : φ.le ψ) {F : Facts} (h : FactsOk φ F) : FactsOk ψ F := fun x hx =>
  let ⟨n, h1, h2⟩ := h x hx; ⟨n, SE.ev_mono hle h1, SE.ev_mono hle h2⟩
theorem FactsOk.nil {φ : Phi} : FactsOk φ [] := fun x hx => by cases hx
inductive EvBs (φ : Phi) : List SE → List Nat → Prop
  | nil : EvBs φ [] []
  | cons {e : SE} {n : Nat} {es : List SE} {ns : List Nat} (h : e.ev φ = some (n : Int)) (hn : n < 256) (h' : EvBs φ es ns) : EvBs φ (e :: es) (n :: ns)
theorem EvBs.mono {φ ψ : Phi} (hle : φ.le ψ) : ∀ {es : List SE} {ns : List Nat}, EvBs φ es ns → EvBs ψ es ns
  | _, _, .nil => .nil
  | _, _, .cons h hn h' => .cons (SE.ev_mono hle h) hn (EvBs.mono hle h')
theorem EvBs.length {φ : Phi} : ∀ {es : List SE} {ns : List Nat}, EvBs φ es ns → ns.length = es.length
  | _, _, .nil => rfl
  | _, _, .cons _ _ h' => by simp [EvBs.length h']

mutual
inductive Rel (φ : Phi) : LV → Value → Prop
  | bool (b : Bool) : Rel φ (.bool b) (.bool b)
  | int (k : IntKind) (n : Int) : Rel φ (.int k n) (.int k n)
  | str (l n : Nat) (h : n < 256 ^ l) : Rel φ (.str l n) (.string (bytesOf l n))
  | ptr {b : Pos} {B base lim : Nat} (o : Nat) (h : φ b = some (.blk B base lim)) : Rel φ (.ptr b o) (.pointer (some ⟨B, base + o, none⟩))
  | nilptr : Rel φ .nilptr (.pointer none)
  | slice {b : Pos} {B base lim : Nat} (off len sz cap c : Nat) (a : Addr) (h : φ b = some (.blk B base lim)) (h1 : len ≤ c) (h2 : c ≤ maxLen) (h3 : off + c * sz ≤ lim)
      (h4 : cap = 0 ∨ cap = c + 1) (h5 : c = 0 ∨ a = ⟨B, base + off, none⟩) : Rel φ (.slice b off len sz cap) (.slice (some a) len c)
  | nilslice : Rel φ .nilslice (.slice none 0 0)
  | map {m : Pos} {r : Nat} (h : φ m = some (.obj r)) : Rel φ (.map m) (.map (some r))
  | nilmap : Rel φ .nilmap (.map none)
  | func (f : Pos) {caps : List LV} {cs : List Value} (h : Rels φ caps cs) : Rel φ (.func f caps) (.func (.func f.idx) #[] cs.toArray)
  | mfunc (f : Pos) {first caps : List LV} {fs cs : List Value} (h : Rels φ first fs) (h' : Rels φ caps cs) : Rel φ (.mfunc f first caps) (.func (.func f.idx) fs.toArray cs.toArray)
  | yld {l : Pos} {r : Nat} (h : φ l = some (.obj r)) : Rel φ (.yld l) (.func (.yield r) #[] #[])
  | nilfunc : Rel φ .nilfunc .nilFunc
  | iface (t : Nat) {v : LV} {x : Value} (h : Rel φ v x) : Rel φ (.iface t v) (.iface t x)
  | niliface : Rel φ .niliface .nilIface
  | agg {cs : List LV} {xs : List Value} (h : Rels φ cs xs) : Rel φ (.agg cs) (.agg xs.toArray)
  | tup {cs : List LV} {xs : List Value} (h : Rels φ cs xs) : Rel φ (.tup cs) (.tuple xs.toArray)
  | itr {p : Pos} {r : Nat} (h : φ p = some (.obj r)) : Rel φ (.itr p) (.pointer (some ⟨r, 0, none⟩))
  | opq {p : Pos} {v : Value} (h : φ p = some (.val v)) (h1 : v.oneCell' = true) : Rel φ (.opq p) v
  | sint (k : IntKind) {e : SE} {n : Int} (h : e.ev φ = some n) (h1 : k.wrap n = n) : Rel φ (.sint k e) (.int k n)
  | sbool {e : SE} (b : Bool) (h : e.ev φ = some (if b then 1 else 0)) : Rel φ (.sbool e) (.bool b)
  | sstr {es : List SE} {ns : List Nat} (h : EvBs φ es ns) : Rel φ (.sstr es) (.string ⟨(ns.map UInt8.ofNat).toArray⟩)
inductive Rels (φ : Phi) : List LV → List Value → Prop
  | nil : Rels φ [] []
  | cons {x : LV} {v : Value} {xs : List LV} {vs : List Value} (h : Rel φ x v) (h' : Rels φ xs vs) : Rels φ (x :: xs) (v :: vs)
end

mutual
theorem Rel.mono {φ ψ : Phi} (hle : φ.le ψ) : ∀ {x : LV} {v : Value}, Rel φ x v → Rel ψ x v
  | _, _, .bool b => .bool b
  | _, _, .int k n => .int k n
  | _, _, .str l n h => .str l n h
  | _, _, .ptr o h => .ptr o (hle _ _ h)
  | _, _, .nilptr => .nilptr
  | _, _, .slice off len sz cap c a h h1 h2 h3 h4 h5 => .slice off len sz cap c a (hle _ _ h) h1 h2 h3 h4 h5
  | _, _, .nilslice => .nilslice
  | _, _, .map h => .map (hle _ _ h)
  | _, _, .nilmap => .nilmap
  | _, _, .func f h => .func f (Rels.mono hle h)
  | _, _, .mfunc f h h' => .mfunc f (Rels.mono hle h) (Rels.mono hle h')
  | _, _, .yld h => .yld (hle _ _ h)
  | _, _, .nilfunc => .nilfunc
  | _, _, .iface t h => .iface t (Rel.mono hle h)
  | _, _, .niliface => .niliface
  | _, _, .agg h => .agg (Rels.mono hle h)
  | _, _, .tup h => .tup (Rels.mono hle h)
  | _, _, .itr h => .itr (hle _ _ h)
  | _, _, .opq h h1 => .opq (hle _ _ h) h1
  | _, _, .sint k h h1 => .sint k (SE.ev_mono hle h) h1
  | _, _, .sbool b h => .sbool b (SE.ev_mono hle h)
  | _, _, .sstr h => .sstr (h.mono hle)
theorem Rels.mono {φ ψ : Phi} (hle : φ.le ψ) : ∀ {xs : List LV} {vs : List Value}, Rels φ xs vs → Rels ψ xs vs
  | _, _, .nil => .nil
  | _, _, .cons h h' => .cons (Rel.mono hle h) (Rels.mono hle h')
end

theorem Rels.length {φ : Phi} : ∀ {xs : List LV} {vs : List Value}, Rels φ xs vs → vs.length = xs.length
  | _, _, .nil => rfl
  | _, _, .cons _ h' => by simp [Rels.length h']
theorem Rels.get {φ : Phi} : ∀ {xs : List LV} {vs : List Value}, Rels φ xs vs → ∀ {i : Nat} {x : LV}, xs[i]? = some x → ∃ v, vs[i]? = some v ∧ Rel φ x v
  | _, _, .nil, i, x, h => by simp at h
  | _, _, .cons h0 h', 0, x, h => by simp at h; subst h; exact ⟨_, rfl, h0⟩
  | _, _, .cons h0 h', i+1, x, h => by simp at h; simpa using Rels.get h' h
theorem Rels.append {φ : Phi} : ∀ {xs : List LV} {vs : List Value} {ys : List LV} {us : List Value}, Rels φ xs vs → Rels φ ys us → Rels φ (xs ++ ys) (vs ++ us)
  | _, _, _, _, .nil, h => h
  | _, _, _, _, .cons h0 h', h => .cons h0 (Rels.append h' h)
theorem Rels.drop {φ : Phi} : ∀ {xs : List LV} {vs : List Value} (n : Nat), Rels φ xs vs → Rels φ (xs.drop n) (vs.drop n)
  | _, _, 0, h => h
  | _, _, n+1, .nil => .nil
  | _, _, n+1, .cons _ h' => Rels.drop n h'
theorem Rels.take {φ : Phi} : ∀ {xs : List LV} {vs : List Value} (n : Nat), Rels φ xs vs → Rels φ (xs.take n) (vs.take n)
  | _, _, 0, h => .nil
  | _, _, n+1, .nil => .nil
  | _, _, n+1, .cons h0 h' => .cons h0 (Rels.take n h')
theorem Rels.of_get {φ : Phi} : ∀ {xs : List LV} {vs : List Value}, vs.length = xs.length → (∀ (i : Nat) (x : LV), xs[i]? = some x → ∃ v, vs[i]? = some v ∧ Rel φ x v) → Rels φ xs vs
  | [], [], _, _ => .nil
  | [], _ :: _, h, _ => by simp at h
  | _ :: _, [], h, _ => by simp at h
  | x :: xs, v :: vs, h, hg => .cons (by obtain ⟨u, hu, hr⟩ := hg 0 x rfl; simp at hu; exact hu ▸ hr) (Rels.of_get (by simpa using h) fun i y hy => by simpa using hg (i + 1) y (by simpa using hy))

/-! ### frames' temporaries -/
def TRel (φ : Phi) (T : Trie LV) (tmps : Array Value) : Prop := ∀ p x, T.get p = some x → ∃ v, tmps[p.idx]? = some v ∧ Rel φ x v
theorem TRel.mono {φ ψ : Phi} {T : Trie LV} {tmps : Array Value} (h : TRel φ T tmps) (hle : φ.le ψ) : TRel ψ T tmps := fun p x hx =>
  let ⟨v, hv, hr⟩ := h p x hx; ⟨v, hv, hr.mono hle⟩
theorem TRel.put {φ : Phi} {T : Trie LV} {tmps : Array Value} (h : TRel φ T tmps) {t : Nat} (ht : t < tmps.size) {x : LV} {v : Value} (hr : Rel φ x v) :
    TRel φ (T.put (some x) (posOf t)) (tmps.setIfInBounds t v) := by
  intro p y hy
  rw [Trie.get_put] at hy
  by_cases hp : p = posOf t
  · rw [if_pos hp] at hy
    cases hy
    subst hp
    exact ⟨v, by simp [ht], hr⟩
  · rw [if_neg hp] at hy
    obtain ⟨u, hu, hru⟩ := h p y hy
    refine ⟨u, ?_, hru⟩
    have : t ≠ p.idx := fun e => hp (by rw [e, posOf_of_idx])
    rw [Array.getElem?_setIfInBounds_ne this]
    exact hu
theorem TRel.erase {φ : Phi} {T : Trie LV} {tmps : Array Value} (h : TRel φ T tmps) (t : Nat) (v : Value) : TRel φ (T.put none (posOf t)) (tmps.setIfInBounds t v) := by
  intro p y hy
  rw [Trie.get_put] at hy
  by_cases hp : p = posOf t
  · rw [if_pos hp] at hy; cases hy
  · rw [if_neg hp] at hy
    obtain ⟨u, hu, hru⟩ := h p y hy
    refine ⟨u, ?_, hru⟩
    have : t ≠ p.idx := fun e => hp (by rw [e, posOf_of_idx])
    rw [Array.getElem?_setIfInBounds_ne this]
    exact hu
theorem TRel.sub {φ : Phi} {T T' : Trie LV} {tmps : Array Value} (h : TRel φ T tmps) (hs : ∀ p x, T'.get p = some x → T.get p = some x) : TRel φ T' tmps := fun p x hx => h p x (hs p x hx)

/-! ### objects -/
structure EntRel (φ : Phi) (e : Ent) (m : MapEntry) : Prop where
  key : Rel φ e.key m.key
  val : Rel φ e.val m.val
  born : e.born = m.born
inductive EntsRel (φ : Phi) : List Ent → List MapEntry → Prop
  | nil : EntsRel φ [] []
  | cons {e : Ent} {m : MapEntry} {es : List Ent} {ms : List MapEntry} (h : EntRel φ e m) (h' : EntsRel φ es ms) : EntsRel φ (e :: es) (m :: ms)
theorem EntRel.mono {φ ψ : Phi} (hle : φ.le ψ) {e : Ent} {m : MapEntry} (h : EntRel φ e m) : EntRel ψ e m := ⟨h.key.mono hle, h.val.mono hle, h.born⟩
theorem EntsRel.mono {φ ψ : Phi} (hle : φ.le ψ) : ∀ {es : List Ent} {ms : List MapEntry}, EntsRel φ es ms → EntsRel ψ es ms
  | _, _, .nil => .nil
  | _, _, .cons h h' => .cons (h.mono hle) (h'.mono hle)
theorem EntsRel.length {φ : Phi} : ∀ {es : List Ent} {ms : List MapEntry}, EntsRel φ es ms → ms.length = es.length
  | _, _, .nil => rfl
  | _, _, .cons _ h' => by simp [h'.length]
theorem EntsRel.append {φ : Phi} : ∀ {es : List Ent} {ms : List MapEntry} {fs : List Ent} {ns : List MapEntry}, EntsRel φ es ms → EntsRel φ fs ns → EntsRel φ (es ++ fs) (ms ++ ns)
  | _, _, _, _, .nil, h => h
  | _, _, _, _, .cons h0 h', h => .cons h0 (h'.append h)

def OutCode : Out → Option Code
  | .nrm => none
  | .exit id => some (.exit id)
  | .ret => some .ret
  | .pan _ => none
def StRel : Nat → LoopState → Prop
  | 0, .ready | 1, .busy | 2, .done => True
  | _, _ => False

structure LoopRel (P : Program) (φ : Phi) (st : Nat) (pending : Out) (T : Trie LV) (ps : List Pos) (a b : LCode) (L : Loop) : Prop where
  st : StRel st L.state
  pending : L.pending = OutCode pending
  tmps : TRel φ T L.tmps
  params : L.params.toList.map posOf = ps
  there : (P.funcs[L.fn]?).isSome = true
  code : ∃ nt, nt ≤ L.tmps.size ∧ (∀ p ∈ L.params.toList, p < nt) ∧ a = comp P nt L.assign .nil ∧ b = comp P nt L.body .nil
inductive ObjRel (P : Program) (φ : Phi) : LO → Obj → Prop
  | map {es : List Ent} {ms : Array MapEntry} (clock : Nat) (h : EntsRel φ es ms.toList) : ObjRel P φ (.map es clock) (.map ms clock)
  | iterN (since since' : Nat) (seen : List Nat) (seen' : Array Nat) (st st' : Nat) : ObjRel P φ (.iter none since seen st) (.mapIter none since' seen' st')
  | iter {m : Pos} {r : Nat} (since : Nat) (seen : List Nat) (seen' : Array Nat) (st : Nat) (h : φ m = some (.obj r)) (hs : seen'.toList = seen.reverse) : ObjRel P φ (.iter (some m) since seen st) (.mapIter (some r) since seen' st)
  | loop {st : Nat} {pending : Out} {T : Trie LV} {ps : List Pos} {a b : LCode} {L : Loop} (h : LoopRel P φ st pending T ps a b L) : ObjRel P φ (.loop st pending T ps a b) (.loop L)
  | defr : ObjRel P φ .defr (.deferred (some []))
theorem ObjRel.mono {P : Program} {φ ψ : Phi} (hle : φ.le ψ) {o : LO} {x : Obj} (h : ObjRel P φ o x) : ObjRel P ψ o x := by
  cases h with
  | map clock h => exact .map clock (h.mono hle)
  | iterN a b c d e f => exact .iterN a b c d e f
  | iter since seen seen' st h hs => exact .iter since seen seen' st (hle _ _ h) hs
  | loop h => exact .loop ⟨h.st, h.pending, h.tmps.mono hle, h.params, h.there, h.code⟩
  | defr => exact .defr
theorem ObjRel.notCells {P : Program} {φ : Phi} {o : LO} {x : Obj} (h : ObjRel P φ o x) : ∀ t, o ≠ .cells t := by cases h <;> simp
theorem ObjRel.plain {P : Program} {φ : Phi} {o : LO} {x : Obj} (h : ObjRel P φ o x) : ∀ c e f, x ≠ .cells c e f := by cases h <;> simp

/-- cells: all are there and may be written; those that are known read as they should -/
structure CellsOk (φ : Phi) (w : World) (t : Trie LV) (B base lim : Nat) : Prop where
  cell : ∀ i, i < lim → (w.cell? ⟨B, base + i, none⟩).isSome = true
  free : ∀ i, i < lim → w.frozen? ⟨B, base + i, none⟩ = false
  known : ∀ i x, t.getN i = some x → i < lim ∧ ∃ v, w.cell? ⟨B, base + i, none⟩ = some v ∧ Rel φ x v ∧ v.oneCell' = true
  lt : B < w.heap.size
inductive BlockOk (P : Program) (φ : Phi) (w : World) (p : Pos) : LO → Prop
  | cells {t : Trie LV} {B base lim : Nat} (h : φ p = some (.blk B base lim)) (hc : CellsOk φ w t B base lim) : BlockOk P φ w p (.cells t)
  | obj {o : LO} {r : Nat} {x : Obj} (h : φ p = some (.obj r)) (hx : w.heap[r]? = some x) (hr : ObjRel P φ o x) : BlockOk P φ w p o
theorem CellsOk.mono {φ ψ : Phi} (hle : φ.le ψ) {w w' : World} {t : Trie LV} {B base lim : Nat} (h : CellsOk φ w t B base lim) (hw : w'.heap[B]? = w.heap[B]?) (hs : w.heap.size ≤ w'.heap.size) : CellsOk ψ w' t B base lim := by
  have hc : ∀ o, w'.cell? ⟨B, o, none⟩ = w.cell? ⟨B, o, none⟩ := fun o => World.cell?_of_block hw
  refine ⟨fun i hi => by rw [hc]; exact h.cell i hi, fun i hi => by rw [World.frozen?_of_block (w := w) (by exact hw)]; exact h.free i hi, fun i x hx => ?_, Nat.lt_of_lt_of_le h.lt hs⟩
  obtain ⟨h1, v, hv, hr, ho⟩ := h.known i x hx
  exact ⟨h1, v, by rw [hc]; exact hv, hr.mono hle, ho⟩
theorem BlockOk.phys {P : Program} {φ : Phi} {w : World} {p : Pos} {o : LO} (h : BlockOk P φ w p o) : ∃ B, physB φ p = some B ∧ B < w.heap.size := by
  cases h with
  | cells h hc => exact ⟨_, by simp [physB, h, Phys.block], hc.lt⟩
  | obj h hx hr => exact ⟨_, by simp [physB, h, Phys.block], (Array.getElem?_eq_some_iff.1 hx).1⟩
theorem BlockOk.mono {P : Program} {φ ψ : Phi} (hle : φ.le ψ) {w w' : World} {p : Pos} {o : LO} (h : BlockOk P φ w p o) (hw : ∀ B, physB φ p = some B → w'.heap[B]? = w.heap[B]?) (hs : w.heap.size ≤ w'.heap.size) : BlockOk P ψ w' p o := by
  cases h with
  | cells h hc => exact .cells (hle _ _ h) (hc.mono hle (hw _ (by simp [physB, h, Phys.block])) hs)
  | obj h hx hr => exact .obj (hle _ _ h) (by rw [hw _ (by simp [physB, h, Phys.block])]; exact hx) (hr.mono hle)

structure Sim (P : Program) (φ : Phi) (H : Heap) (w : World) : Prop where
  fresh : ∀ p, H.next.toNat ≤ p.toNat → φ p = none
  blk : ∀ p o, H.t.get p = some o → BlockOk P φ w p o
  sep : ∀ p q o o' B, H.t.get p = some o → H.t.get q = some o' → physB φ p = some B → physB φ q = some B → p = q
  facts : FactsOk φ H.fs

/-- what lay outside stays -/
structure Fr (φ : Phi) (H : Heap) (w w' : World) : Prop where
  tape : w'.tape = w.tape
  os : w'.os = w.os
  out : w'.output = w.output
  size : w.heap.size ≤ w'.heap.size
  keep : ∀ B, B < w.heap.size → (∀ p o, H.t.get p = some o → physB φ p ≠ some B) → w'.heap[B]? = w.heap[B]?

structure Stp (P : Program) (φ : Phi) (H : Heap) (w : World) (φ' : Phi) (H' : Heap) (w' : World) : Prop where
  sim : Sim P φ' H' w'
  le : φ.le φ'
  low : ∀ p, p.toNat < H.next.toNat → φ' p = φ p
  fr : Fr φ H w w'
  foot : ∀ p o B, H'.t.get p = some o → physB φ' p = some B → w.heap.size ≤ B ∨ ∃ q o', H.t.get q = some o' ∧ physB φ q = some B
  next : H.next.toNat ≤ H'.next.toNat

theorem Sim.asm {P : Program} {φ : Phi} {H : Heap} {w : World} (h : Sim P φ H w) {F : Facts} (hF : FactsOk φ F) : Sim P φ ⟨H.next, H.t, F⟩ w := ⟨h.fresh, h.blk, h.sep, hF⟩
theorem Stp.of_asm {P : Program} {φ : Phi} {H : Heap} {w : World} {F : Facts} {φ' : Phi} {H' : Heap} {w' : World} (h : Stp P φ ⟨H.next, H.t, F⟩ w φ' H' w') : Stp P φ H w φ' H' w' := ⟨h.sim, h.le, h.low, ⟨h.fr.tape, h.fr.os, h.fr.out, h.fr.size, h.fr.keep⟩, h.foot, h.next⟩
theorem Stp.refl {P : Program} {φ : Phi} {H : Heap} {w : World} (h : Sim P φ H w) : Stp P φ H w φ H w :=
  ⟨h, φ.le_refl, fun _ _ => rfl, ⟨rfl, rfl, rfl, Nat.le_refl _, fun _ _ _ => rfl⟩, fun p o B hp hB => .inr ⟨p, o, hp, hB⟩, Nat.le_refl _⟩
theorem Stp.trans {P : Program} {φ φ' φ'' : Phi} {H H' H'' : Heap} {w w' w'' : World} (h : Stp P φ H w φ' H' w') (h' : Stp P φ' H' w' φ'' H'' w'') : Stp P φ H w φ'' H'' w'' := by
  refine ⟨h'.sim, Phi.le_trans h.le h'.le, fun p hp => by rw [h'.low p (Nat.lt_of_lt_of_le hp h.next), h.low p hp],
    ⟨h'.fr.tape.trans h.fr.tape, h'.fr.os.trans h.fr.os, h'.fr.out.trans h.fr.out, Nat.le_trans h.fr.size h'.fr.size, fun B hB hn => ?_⟩, fun p o B hp hB => ?_, Nat.le_trans h.next h'.next⟩
  · rw [h'.fr.keep B (Nat.lt_of_lt_of_le hB h.fr.size) fun p o hp e => ?_, h.fr.keep B hB hn]
    rcases h.foot p o B hp e with h1 | ⟨q, o', hq, hB'⟩
    · omega
    · exact hn q o' hq hB'
  · rcases h'.foot p o B hp hB with h1 | ⟨q, o', hq, hB'⟩
    · exact .inl (Nat.le_trans h.fr.size h1)
    · exact h.foot q o' B hq hB'
/-- draws leave the rest as it was -/
theorem Sim.drewN {P : Program} {φ : Phi} {H : Heap} {w : World} (h : Sim P φ H w) (n : Nat) : Stp P φ H w φ H (w.drewN n) := by
  refine ⟨⟨h.fresh, fun p o hp => (h.blk p o hp).mono φ.le_refl (fun _ _ => rfl) (Nat.le_refl _), h.sep, h.facts⟩, φ.le_refl, fun _ _ => rfl, ⟨rfl, rfl, rfl, Nat.le_refl _, fun _ _ _ => rfl⟩, fun p o B hp hB => .inr ⟨p, o, hp, hB⟩, Nat.le_refl _⟩

/-- one object is written -/
theorem Sim.update {P : Program} {φ : Phi} {H : Heap} {w w' : World} (h : Sim P φ H w) {p0 : Pos} {o0 o1 : LO} {B0 : Nat} (hp0 : H.t.get p0 = some o0) (hB0 : physB φ p0 = some B0)
    (ht : w'.tape = w.tape) (ho : w'.os = w.os) (hu : w'.output = w.output) (hs : w.heap.size ≤ w'.heap.size) (hk : ∀ B, B < w.heap.size → B ≠ B0 → w'.heap[B]? = w.heap[B]?) (hnew : BlockOk P φ w' p0 o1) :
    Stp P φ H w φ (H.setO p0 o1) w' := by
  have hget : ∀ q o, (H.setO p0 o1).t.get q = some o → (q = p0 ∧ o = o1) ∨ (q ≠ p0 ∧ H.t.get q = some o) := by
    intro q o hq
    have : (H.setO p0 o1).t.get q = if q = p0 then some o1 else H.t.get q := Trie.get_put _ _ _ _
    rw [this] at hq
    by_cases e : q = p0
    · rw [if_pos e] at hq; cases hq; exact .inl ⟨e, rfl⟩
    · rw [if_neg e] at hq; exact .inr ⟨e, hq⟩
  have hany : ∀ q o, (H.setO p0 o1).t.get q = some o → ∃ o', H.t.get q = some o' := by
    intro q o hq
    rcases hget q o hq with ⟨rfl, _⟩ | ⟨_, hq'⟩
    · exact ⟨_, hp0⟩
    · exact ⟨_, hq'⟩
  refine ⟨⟨h.fresh, fun q o hq => ?_, fun p q o o' B hp hq hB hB' => ?_, h.facts⟩, φ.le_refl, fun _ _ => rfl, ⟨ht, ho, hu, hs, fun B hB hn => hk B hB fun e => hn p0 o0 hp0 (e ▸ hB0)⟩, fun p o B hp hB => ?_, Nat.le_refl _⟩
  · rcases hget q o hq with ⟨rfl, rfl⟩ | ⟨hne, hq'⟩
    · exact hnew
    · refine (h.blk q o hq').mono φ.le_refl (fun B hB => hk B ?_ fun e => hne ?_) hs
      · obtain ⟨B', hB', hlt⟩ := (h.blk q o hq').phys; rw [hB] at hB'; cases hB'; exact hlt
      · exact h.sep q p0 o o0 B hq' hp0 hB (e ▸ hB0)
  · obtain ⟨o1', h1⟩ := hany p o hp
    obtain ⟨o2', h2⟩ := hany q o' hq
    exact h.sep p q _ _ B h1 h2 hB hB'
  · obtain ⟨o1', h1⟩ := hany p o hp
    exact .inr ⟨p, o1', h1, hB⟩

/-- a new object; t: the heap without what has been given up -/
theorem Sim.newAt {P : Program} {φ : Phi} {H : Heap} {w w' : World} (h : Sim P φ H w) {t : Trie LO} (hsub : ∀ p o, t.get p = some o → H.t.get p = some o) {x : Phys} {o1 : LO} {B0 : Nat}
    (hx : x.block = some B0) (hB0 : w.heap.size ≤ B0 ∨ ∃ q o', H.t.get q = some o' ∧ physB φ q = some B0 ∧ t.get q = none)
    (ht : w'.tape = w.tape) (ho : w'.os = w.os) (hu : w'.output = w.output) (hs : w.heap.size ≤ w'.heap.size) (hk : ∀ B, B < w.heap.size → B ≠ B0 → w'.heap[B]? = w.heap[B]?) (hnew : BlockOk P (φ.set H.next x) w' H.next o1) :
    Stp P φ H w (φ.set H.next x) ⟨H.next.succ, t.put (some o1) H.next, H.fs⟩ w' := by
  have hfr : φ H.next = none := h.fresh _ (Nat.le_refl _)
  have hle : φ.le (φ.set H.next x) := Phi.le_set hfr
  have hne : ∀ q o, H.t.get q = some o → q ≠ H.next := by
    intro q o hq e
    obtain ⟨B, hB, _⟩ := (h.blk q o hq).phys
    rw [e] at hB; simp [physB, hfr] at hB
  have hphys : ∀ q, q ≠ H.next → physB (φ.set H.next x) q = physB φ q := fun q hq => by simp [physB, Phi.set_ne hq]
  have hpn : physB (φ.set H.next x) H.next = some B0 := by simp [physB, Phi.set_same, hx]
  have hget : ∀ q o, (t.put (some o1) H.next).get q = some o → (q = H.next ∧ o = o1) ∨ (q ≠ H.next ∧ t.get q = some o ∧ H.t.get q = some o) := by
    intro q o hq
    rw [Trie.get_put] at hq
    by_cases e : q = H.next
    · rw [if_pos e] at hq; cases hq; exact .inl ⟨e, rfl⟩
    · rw [if_neg e] at hq; exact .inr ⟨e, hq, hsub q o hq⟩
  have hother : ∀ q o B, t.get q = some o → physB φ q = some B → B ≠ B0 ∧ B < w.heap.size := by
    intro q o B hq hB
    obtain ⟨B', hB', hlt⟩ := (h.blk q o (hsub q o hq)).phys
    rw [hB] at hB'; cases hB'
    refine ⟨fun e => ?_, hlt⟩
    rcases hB0 with h1 | ⟨q', o', hq', hB', hn⟩
    · omega
    · have := h.sep q q' o o' B (hsub q o hq) hq' hB (e ▸ hB')
      rw [this, hn] at hq; cases hq
  refine ⟨⟨fun p hp => ?_, fun q o hq => ?_, fun p q o o' B hp hq hB hB' => ?_, h.facts.mono hle⟩, hle, fun p hp => Phi.set_ne fun e => by rw [e] at hp; omega, ⟨ht, ho, hu, hs, fun B hB hn => hk B hB fun e => ?_⟩, fun p o B hp hB => ?_, by show H.next.toNat ≤ H.next.succ.toNat; rw [Pos.succ_toNat]; omega⟩
  · have hp' : H.next.toNat + 1 ≤ p.toNat := by have := hp; rw [show (⟨H.next.succ, t.put (some o1) H.next, H.fs⟩ : Heap).next = H.next.succ from rfl, Pos.succ_toNat] at this; exact this
    rw [Phi.set_ne fun e => by rw [e] at hp'; omega]
    exact h.fresh p (by omega)
  · rcases hget q o hq with ⟨rfl, rfl⟩ | ⟨hne', hq', hq''⟩
    · exact hnew
    · refine (h.blk q o hq'').mono hle (fun B hB => ?_) hs
      obtain ⟨h1, h2⟩ := hother q o B hq' hB
      exact hk B h2 h1
  · rcases hget p o hp with ⟨rfl, rfl⟩ | ⟨hp1, hp2, hp3⟩ <;> rcases hget q o' hq with ⟨rfl, rfl⟩ | ⟨hq1, hq2, hq3⟩
    · rfl
    · rw [hpn] at hB; cases hB
      rw [hphys q hq1] at hB'
      exact absurd rfl (hother q o' _ hq2 hB').1
    · rw [hpn] at hB'; cases hB'
      rw [hphys p hp1] at hB
      exact absurd rfl (hother p o _ hp2 hB).1
    · rw [hphys p hp1] at hB; rw [hphys q hq1] at hB'
      exact h.sep p q o o' B hp3 hq3 hB hB'
  · rcases hB0 with h1 | ⟨q', o', hq', hB', hn'⟩
    · omega
    · exact hn q' o' hq' (e ▸ hB')
  · rcases hget p o hp with ⟨rfl, rfl⟩ | ⟨hp1, hp2, hp3⟩
    · rw [hpn] at hB; cases hB
      rcases hB0 with h1 | ⟨q', o', hq', hB', hn'⟩
      · exact .inl h1
      · exact .inr ⟨q', o', hq', hB'⟩
    · rw [hphys p hp1] at hB
      exact .inr ⟨p, o, hp3, hB⟩
end Go.LX

/- LX, part 5: the operations that change no memory. -/
namespace Go.LX

/-- the operands of an operation mean what the executor takes them for -/
def OpdOk (φ : Phi) (nt : Nat) (T : Trie LV) (ρ : Operand → Value) (xs : List Operand) : Prop :=
  ∀ x ∈ xs, ∀ lo lv, opd nt x = some lo → getO lo T = some lv → Rel φ lv (ρ x)
theorem OpdOk.one {φ : Phi} {nt : Nat} {T : Trie LV} {ρ : Operand → Value} {xs : List Operand} (h : OpdOk φ nt T ρ xs) {x : Operand} (hx : x ∈ xs) {lo : LOpd} {lv : LV}
    (h1 : opd nt x = some lo) (h2 : getO lo T = some lv) : Rel φ lv (ρ x) := h x hx lo lv h1 h2
theorem OpdOk.list {φ : Phi} {nt : Nat} {T : Trie LV} {ρ : Operand → Value} {zs : List Operand} (h : OpdOk φ nt T ρ zs) : ∀ {xs : List Operand} {los : List LOpd} {lvs : List LV}, (∀ x ∈ xs, x ∈ zs) →
    opds nt xs = some los → getOs T los = some lvs → Rels φ lvs (xs.map ρ)
  | [], los, lvs, _, h1, h2 => by simp [opds] at h1; subst h1; simp [getOs] at h2; subst h2; exact .nil
  | x :: xs, los, lvs, hs, h1, h2 => by
    simp only [opds] at h1
    split at h1
    · rename_i y ys hy hys
      cases h1
      simp only [getOs, ob_some] at h2
      obtain ⟨v, hv, vs, hvs, e⟩ := h2
      cases e
      exact .cons (h.one (hs x (by simp)) hy hv) (h.list (fun z hz => hs z (by simp [hz])) hys hvs)
    · cases h1

/-! ### closed values -/
theorem toList_isEmpty {α : Type} {a : Array α} (h : a.toList.isEmpty = true) : a = #[] := by
  cases a with | mk l => cases l <;> simp_all
theorem ofValue_list {φ : Phi} {n : Nat} (ih : ∀ {v : Value} {x : LV}, ofValue n v = some x → Rel φ x v) : ∀ {vs : List Value} {xs : List LV}, vs.mapM (ofValue n) = some xs → Rels φ xs vs
  | [], xs, h => by simp at h; subst h; exact .nil
  | v :: vs, xs, h => by
    simp only [List.mapM_cons, Option.bind_eq_bind, Option.bind_eq_some_iff, Option.pure_def, Option.some.injEq] at h
    obtain ⟨x, hx, ys, hys, rfl⟩ := h
    exact .cons (ih hx) (ofValue_list ih hys)
theorem ofValue_sound {φ : Phi} : ∀ {n : Nat} {v : Value} {x : LV}, ofValue n v = some x → Rel φ x v
  | 0, v, x, h => by simp [ofValue] at h
  | n+1, v, x, h => by
    unfold ofValue at h
    split at h
    · cases h; exact .bool _
    · cases h; exact .int _ _
    · rename_i s
      cases h
      have h1 := bytesL_byteNum s.data.toList
      have h2 : byteNum s.data.toList 0 < 256 ^ s.data.toList.length := by simpa using byteNum_lt s.data.toList 0
      have h3 : s = bytesOf s.data.toList.length (byteNum s.data.toList 0) := by
        unfold bytesOf; rw [h1]
      have h4 := Rel.str (φ := φ) _ _ h2
      rw [← h3] at h4; exact h4
    · cases h; exact .nilptr
    · cases h; exact .nilslice
    · cases h; exact .nilmap
    · split at h
      · rename_i f a b hab
        cases h
        simp only [Bool.and_eq_true] at hab
        obtain ⟨ha, hb⟩ := hab
        rw [toList_isEmpty ha, toList_isEmpty hb]
        have := Rel.func (φ := φ) (posOf f) (caps := []) (cs := []) .nil
        rw [posOf_idx] at this; exact this
      · cases h
    · cases h; exact .nilfunc
    · simp only [Option.map_eq_some_iff] at h
      obtain ⟨y, hy, rfl⟩ := h
      exact .iface _ (ofValue_sound hy)
    · cases h; exact .niliface
    · simp only [Option.map_eq_some_iff] at h
      obtain ⟨y, hy, rfl⟩ := h
      exact .agg (ofValue_list ofValue_sound hy)
    · simp only [Option.map_eq_some_iff] at h
      obtain ⟨y, hy, rfl⟩ := h
      exact .tup (ofValue_list ofValue_sound hy)
    · cases h

theorem opdOk_of {φ : Phi} {nt : Nat} {T : Trie LV} {a : Act} (hT : TRel φ T a.tmps) (xs : List Operand) : OpdOk φ nt T a.eval xs := by
  intro x _ lo lv h1 h2
  cases x with
  | tmp t =>
    simp only [opd] at h1
    split at h1
    · cases h1
      obtain ⟨v, hv, hr⟩ := hT _ _ h2
      rw [posOf_idx] at hv
      have : a.eval (.tmp t) = v := by
        show a.tmps.getD t undef = v
        rw [Array.getD_eq_getD_getElem?, hv]; rfl
      rw [this]; exact hr
    · cases h1
  | const v =>
    simp only [opd, Option.map_eq_some_iff] at h1
    obtain ⟨y, hy, rfl⟩ := h1
    cases h2
    exact ofValue_sound hy
  | global g => simp [opd] at h1
  | func f =>
    simp only [opd, Option.some.injEq] at h1
    subst h1
    cases h2
    have := Rel.func (φ := φ) (posOf f) (caps := []) (cs := []) .nil
    rw [posOf_idx] at this; exact this

/-! ### inversion, in the words of the executor's -/
theorem boolOf_some {x : LV} {b : Bool} (h : boolOf x = some b) : x = .bool b := by cases x <;> simp [boolOf] at h; subst h; rfl
theorem natOf_some {x : LV} {n : Nat} (h : natOf x = some n) : ∃ k, x = .int k (.ofNat n) := by
  cases x <;> simp [natOf] at h
  rename_i k m
  cases m <;> simp [asNat] at h
  subst h; exact ⟨k, rfl⟩
theorem aggOf_some {x : LV} {cs : List LV} (h : aggOf x = some cs) : x = .agg cs := by cases x <;> simp [aggOf] at h; subst h; rfl
theorem tupOf_some {x : LV} {cs : List LV} (h : tupOf x = some cs) : x = .tup cs := by cases x <;> simp [tupOf] at h; subst h; rfl
theorem mapOf_some {x : LV} {m : Pos} (h : mapOf x = some m) : x = .map m := by cases x <;> simp [mapOf] at h; subst h; rfl
theorem itrOf_some {x : LV} {m : Pos} (h : itrOf x = some m) : x = .itr m := by cases x <;> simp [itrOf] at h; subst h; rfl
theorem asCells_some {o : LO} {t : Trie LV} (h : o.asCells = some t) : o = .cells t := by cases o <;> simp [LO.asCells] at h; subst h; rfl
theorem asMap_some {o : LO} {e : List Ent × Nat} (h : o.asMap = some e) : o = .map e.1 e.2 := by cases o <;> simp [LO.asMap] at h; subst h; rfl
theorem asIter_some {o : LO} {e : Option Pos × Nat × List Nat × Nat} (h : o.asIter = some e) : o = .iter e.1 e.2.1 e.2.2.1 e.2.2.2 := by cases o <;> simp [LO.asIter] at h; subst h; rfl
theorem cells_some {H : Heap} {b : Pos} {t : Trie LV} (h : H.cells b = some t) : H.t.get b = some (.cells t) := by
  simp only [Heap.cells, ob_some] at h
  obtain ⟨o, h1, h2⟩ := h
  rw [h1, asCells_some h2]
theorem load1_some {x : LV} {H : Heap} {v : LV} (h : load1 x H = some v) : ∃ b o t, x = .ptr b o ∧ H.t.get b = some (.cells t) ∧ t.getN o = some v := by
  cases x <;> simp [load1] at h
  rename_i b o
  obtain ⟨t, h1, h2⟩ := ob_some.1 h
  exact ⟨b, o, t, rfl, cells_some h1, h2⟩
theorem loadRow_some {x : LV} {H : Heap} {n : Nat} {v : List LV} (h : loadRow x H n = some v) : ∃ b o t, x = .ptr b o ∧ H.t.get b = some (.cells t) ∧ getRow t o n = some v := by
  cases x <;> simp [loadRow] at h
  rename_i b o
  obtain ⟨t, h1, h2⟩ := ob_some.1 h
  exact ⟨b, o, t, rfl, cells_some h1, h2⟩
theorem getRow_some {t : Trie LV} : ∀ {n i : Nat} {vs : List LV}, getRow t i n = some vs → vs.length = n ∧ ∀ j, j < n → t.getN (i + j) = vs[j]?
  | 0, i, vs, h => by
    have h' : some ([] : List LV) = some vs := h
    cases h'; exact ⟨rfl, fun j hj => by omega⟩
  | n+1, i, vs, h => by
    have h' : (ob (t.getN i) fun v => ob (getRow t (Nat.succ i) n) fun vs => some (v :: vs)) = some vs := h
    simp only [ob_some] at h'
    obtain ⟨v, hv, us, hus, e⟩ := h'
    cases e
    obtain ⟨h1, h2⟩ := getRow_some hus
    refine ⟨by simp [h1], fun j hj => ?_⟩
    cases j with
    | zero => simpa using hv
    | succ j =>
      have := h2 j (by omega)
      rw [show i + (j + 1) = Nat.succ i + j by omega, this]; simp

/-! ### cells that are read -/
theorem Sim.cells {P : Program} {φ : Phi} {H : Heap} {w : World} (h : Sim P φ H w) {b : Pos} {t : Trie LV} (hb : H.t.get b = some (.cells t)) : ∃ B base lim, φ b = some (.blk B base lim) ∧ CellsOk φ w t B base lim := by
  have := h.blk b _ hb
  cases this with
  | cells h hc => exact ⟨_, _, _, h, hc⟩
  | obj h hx hr => exact absurd rfl (hr.notCells t)
theorem Sim.obj {P : Program} {φ : Phi} {H : Heap} {w : World} (h : Sim P φ H w) {b : Pos} {o : LO} (hb : H.t.get b = some o) (hn : ∀ t, o ≠ .cells t) : ∃ r x, φ b = some (.obj r) ∧ w.heap[r]? = some x ∧ ObjRel P φ o x := by
  have := h.blk b _ hb
  cases this with
  | cells h hc => exact absurd rfl (hn _)
  | obj h hx hr => exact ⟨_, _, h, hx, hr⟩
theorem phi_blk {φ : Phi} {b : Pos} {B base lim B' base' lim' : Nat} (h : φ b = some (.blk B base lim)) (h' : φ b = some (.blk B' base' lim')) : B = B' ∧ base = base' ∧ lim = lim' := by
  rw [h] at h'; cases h'; exact ⟨rfl, rfl, rfl⟩
/-- a row that is read: its values, cell by cell -/
theorem row_read {φ : Phi} {w : World} {t : Trie LV} {B base lim : Nat} (hc : CellsOk φ w t B base lim) {o n : Nat} {cs : List LV} (h : getRow t o n = some cs) :
    ∃ xs : List Value, Rels φ cs xs ∧ (∀ j v, xs[j]? = some v → w.cell? ⟨B, base + o + j, none⟩ = some v) ∧ (∀ v ∈ xs, v.oneCell' = true) ∧ (n = 0 ∨ o + n ≤ lim) ∧ xs.length = n := by
  obtain ⟨hl, hg⟩ := getRow_some h
  suffices hs : ∃ xs : List Value, xs.length = n ∧ ∀ j, j < n → ∃ x v, cs[j]? = some x ∧ xs[j]? = some v ∧ w.cell? ⟨B, base + o + j, none⟩ = some v ∧ Rel φ x v ∧ v.oneCell' = true ∧ o + j < lim by
    obtain ⟨xs, hxl, hx⟩ := hs
    refine ⟨xs, Rels.of_get (by rw [hxl, hl]) fun i x hi => ?_, fun j v hj => ?_, fun v hv => ?_, ?_, hxl⟩
    · have hi' : i < n := by rw [← hl]; exact (List.getElem?_eq_some_iff.1 hi).1
      obtain ⟨x', v, h1, h2, _, h4, _⟩ := hx i hi'
      rw [hi] at h1; cases h1
      exact ⟨v, h2, h4⟩
    · have hj' : j < n := by rw [← hxl]; exact (List.getElem?_eq_some_iff.1 hj).1
      obtain ⟨x', v', h1, h2, h3, _⟩ := hx j hj'
      rw [hj] at h2; cases h2; exact h3
    · obtain ⟨j, hj, e⟩ := List.getElem_of_mem hv
      obtain ⟨x', v', h1, h2, h3, h4, h5, h6⟩ := hx j (by omega)
      rw [List.getElem?_eq_getElem hj, e] at h2; cases h2; exact h5
    · rcases Nat.eq_zero_or_pos n with h0 | h0
      · exact .inl h0
      · obtain ⟨_, _, _, _, _, _, _, h6⟩ := hx (n - 1) (by omega)
        exact .inr (by omega)
  have hk : ∀ j, j < n → ∃ v, (∃ x, cs[j]? = some x ∧ Rel φ x v) ∧ w.cell? ⟨B, base + o + j, none⟩ = some v ∧ v.oneCell' = true ∧ o + j < lim := by
    intro j hj
    have h1 := hg j hj
    have h2 : cs[j]? = some (cs[j]'(by omega)) := List.getElem?_eq_getElem _
    rw [h2] at h1
    obtain ⟨h3, v, h4, h5, h6⟩ := hc.known _ _ h1
    exact ⟨v, ⟨_, h2, h5⟩, by rw [Nat.add_assoc]; exact h4, h6, h3⟩
  refine ⟨(List.range n).map fun j => (w.cell? ⟨B, base + o + j, none⟩).getD undef, by simp, fun j hj => ?_⟩
  obtain ⟨v, ⟨x, h1, h2⟩, h3, h4, h5⟩ := hk j hj
  exact ⟨x, v, h1, by simp [hj, h3], h3, h2, h4, h5⟩
theorem addr_add (B o n : Nat) : (⟨B, o, none⟩ : Addr).add n = ⟨B, o + n, none⟩ := by unfold Addr.add; split <;> simp_all
end Go.LX

/- LX, part 6: the operations that change no memory: each is what the model does. -/
namespace Go.LX

section
variable {P : Program} {φ : Phi} {H : Heap} {w : World}
/-- the model's own steps for a value -/
def Gives (P : Program) (φ : Phi) (w : World) (s : Sem Value) (x : LV) : Prop := ∃ v, s.run P w = .ok v w ∧ Rel φ x v

theorem aggOrOne_some {t : TypeId} {b : Bool} {n : Nat} (h : aggOrOne P t = some (b, n)) : ∃ d i, P.underlying t = some d ∧ P.info? t = some i ∧ i.size = n ∧ b = isAggD d ∧ (b = false → n = 1) := by
  unfold aggOrOne at h
  split at h
  · rename_i d i hd hi
    split at h
    · rename_i ha; cases h; exact ⟨d, i, hd, hi, rfl, ha.symm, fun e => by cases e⟩
    · rename_i ha
      split at h
      · rename_i h1; cases h; exact ⟨d, i, hd, hi, h1, by simpa using ha, fun _ => rfl⟩
      · cases h
  · cases h
theorem run_isAgg' {t : TypeId} {d : TypeDesc} (h : P.underlying t = some d) : (isAgg t).run P w = .ok (isAggD d) w := by
  simp only [isAgg, Sem.run_bind, run_underlying h, Result.andThen_ok]
  cases d <;> simp [isAggD]
theorem run_sizeOf' {t : TypeId} {i : TypeInfo} (h : P.info? t = some i) : (sizeOf t).run P w = .ok i.size w := by simp [sizeOf, typeInfo, h]
theorem szOf_some {t : TypeId} {n : Nat} (h : szOf P t = some n) : (sizeOf t).run P w = .ok n w := by
  simp only [szOf, Option.map_eq_some_iff] at h
  obtain ⟨i, hi, rfl⟩ := h
  exact run_sizeOf' hi
theorem zeroOf_some {t : TypeId} {z : LV} (h : zeroOf P t = some z) : ∃ i v, P.info? t = some i ∧ i.zero = some v ∧ Rel φ z v ∧ (zeroValue t).run P w = .ok v w := by
  unfold zeroOf at h
  split at h
  · rename_i i hi
    split at h
    · rename_i v hv
      exact ⟨i, v, hi, hv, ofValue_sound h, by simp [zeroValue, typeInfo, hi, hv]⟩
    · cases h
  · cases h

theorem gives_load1 (hs : Sim P φ H w) {t : TypeId} {n : Nat} {p x : LV} {v : Value} (ht : aggOrOne P t = some (false, n)) (hl : load1 p H = some x) (hv : Rel φ p v) : Gives P φ w (Instr.loadAt t v) x := by
  obtain ⟨b, o, tr, rfl, hb, hg⟩ := load1_some hl
  obtain ⟨B, base, lim, hφ, hc⟩ := hs.cells hb
  obtain ⟨d, i, hd, hi, _, ha, _⟩ := aggOrOne_some ht
  cases hv with
  | ptr o h =>
    obtain ⟨rfl, rfl, rfl⟩ := phi_blk hφ h
    obtain ⟨_, u, hu, hr, _⟩ := hc.known _ _ hg
    refine ⟨u, ?_, hr⟩
    have hload : (load ⟨B, base + o, none⟩ : Sem Value).run P w = .ok u w := by simp [run_load, hu]
    simp only [Instr.loadAt, Instr.sureAddr, Sem.run_bind, Sem.run_pure, Result.andThen_ok, loadVar, run_isAgg' hd, ← ha, Bool.false_eq_true, if_false, hload]
theorem gives_loadN (hs : Sim P φ H w) {t : TypeId} {n : Nat} {p : LV} {cs : List LV} {v : Value} (ht : aggOrOne P t = some (true, n)) (hl : loadRow p H n = some cs) (hv : Rel φ p v) : Gives P φ w (Instr.loadAt t v) (.agg cs) := by
  obtain ⟨b, o, tr, rfl, hb, hg⟩ := loadRow_some hl
  obtain ⟨B, base, lim, hφ, hc⟩ := hs.cells hb
  obtain ⟨d, i, hd, hi, hn, ha, _⟩ := aggOrOne_some ht
  cases hv with
  | ptr o h =>
    obtain ⟨rfl, rfl, rfl⟩ := phi_blk hφ h
    obtain ⟨xs, hr, hx, _, _, hlen⟩ := row_read hc hg
    refine ⟨.agg xs.toArray, ?_, .agg hr⟩
    have hl := run_loadCells_list (P := P) w ⟨B, base + o, none⟩ xs (fun j u hj => by rw [addr_add]; exact hx j u hj)
    rw [hlen] at hl
    simp only [Instr.loadAt, Instr.sureAddr, Sem.run_bind, Sem.run_pure, Result.andThen_ok, loadVar, run_isAgg' hd, ← ha, if_true, run_sizeOf' hi, hn, hl]
theorem gives_nilCheck {x y : LV} {ρ : Operand → Value} {o : Oper} {op : Operand} (ho : o.op = .nilCheck op) (hl : nilCheckLV x = some y) (hv : Rel φ x (ρ op)) : ∃ v, (execOp ρ o).run P w = .ok (.value v) w ∧ Rel φ y v := by
  unfold execOp
  simp only [ho]
  generalize ρ op = v at hv ⊢
  cases hv <;> simp [nilCheckLV] at hl <;> subst hl
  case ptr o h => exact ⟨_, rfl, .ptr o h⟩
  case func f _ _ h => exact ⟨_, rfl, .func f h⟩
  case yld h => exact ⟨_, rfl, .yld h⟩

/-! whole numbers -/
theorem wrap_ofNat {k : IntKind} {m : Nat} (h : m ≤ limK k) : k.wrap (.ofNat m) = .ofNat m := by
  have e : (Int.ofNat m : Int) = (m : Int) := rfl
  rw [e]
  cases k <;> simp only [limK, IntKind.wrap, IntKind.bits, IntKind.signed] at h ⊢ <;> simp only [Bool.true_and, Bool.false_and, Bool.false_eq_true, if_false, Nat.reduceSub, Int.reducePow] <;> first | omega | (split <;> simp_all <;> omega)
theorem mkN_eq (k : IntKind) (m : Nat) : mkN k m = .int k (k.wrap (.ofNat m)) := by
  unfold mkN
  rw [ib_eq]
  split
  · rename_i h; rw [wrap_ofNat (ble_iff.1 h)]
  · rfl
theorem iAdd_some {k : IntKind} {a b : Int} {x : LV} (h : iAdd k a b = some x) : x = .int k (k.wrap (a + b)) := by
  cases a <;> cases b <;> first
    | (have h' : some (mkN k _) = some x := h; cases h'; rw [mkN_eq]; rfl)
    | (have h' : some (LV.int k (k.wrap _)) = some x := h; cases h'; rfl)
theorem iMul_some {k : IntKind} {a b : Int} {x : LV} (h : iMul k a b = some x) : x = .int k (k.wrap (a * b)) := by
  cases a <;> cases b <;> first
    | (have h' : some (mkN k _) = some x := h; cases h'; rw [mkN_eq]; rfl)
    | (have h' : some (LV.int k (k.wrap _)) = some x := h; cases h'; rfl)
theorem iSub_some {k : IntKind} {a b : Int} {x : LV} (h : iSub k a b = some x) : x = .int k (k.wrap (a - b)) := by
  cases a with
  | ofNat m => cases b with
    | ofNat n =>
      have h' : ib (Nat.ble n m) (some (mkN k (Nat.sub m n))) (some (.int k (k.wrap (Int.ofNat m - Int.ofNat n)))) = some x := h
      rw [ib_eq] at h'
      split at h'
      · rename_i hle
        have hle := ble_iff.1 hle
        cases h'; rw [mkN_eq]; congr 2
        show ((m - n : Nat) : Int) = (m : Int) - (n : Int)
        omega
      · cases h'; rfl
    | negSucc n => have h' : some (LV.int k (k.wrap _)) = some x := h; cases h'; rfl
  | negSucc m => have h' : some (LV.int k (k.wrap _)) = some x := h; cases h'; rfl
theorem limK_lt (k : IntKind) : limK k < 2 ^ k.bits := by cases k <;> decide
theorem nat2_bits {k : IntKind} {m n : Nat} (hm : m ≤ limK k) (hn : n ≤ limK k) : BitVec.ofInt k.bits (Int.ofNat m) = BitVec.ofNat k.bits m := by
  apply BitVec.eq_of_toNat_eq; simp
theorem bitop_le (f : Nat → Nat → Nat) (hf : ∀ a b j, a < 2 ^ j → b < 2 ^ j → f a b < 2 ^ j) {k : IntKind} {m n : Nat} (hm : m ≤ limK k) (hn : n ≤ limK k) : f m n ≤ limK k := by
  cases k <;> simp only [limK] at hm hn ⊢
  · have := hf m n 7 (by omega) (by omega); omega
  · have := hf m n 15 (by omega) (by omega); omega
  · have := hf m n 31 (by omega) (by omega); omega
  · have := hf m n 63 (by omega) (by omega); omega
  · have := hf m n 8 (by omega) (by omega); omega
  · have := hf m n 16 (by omega) (by omega); omega
  · have := hf m n 32 (by omega) (by omega); omega
  · have := hf m n 64 (by omega) (by omega); omega
theorem iNat2_some {k : IntKind} {f : Nat → Nat → Nat} {a b : Int} {x : LV} (h : iNat2 k f a b = some x) : ∃ m n, a = .ofNat m ∧ b = .ofNat n ∧ m ≤ limK k ∧ n ≤ limK k ∧ x = .int k (.ofNat (f m n)) := by
  cases a with
  | negSucc m => cases h
  | ofNat m => cases b with
    | negSucc n => cases h
    | ofNat n =>
      have h' : ib (Nat.ble m (limK k)) (ib (Nat.ble n (limK k)) (some (.int k (.ofNat (f m n)))) none) none = some x := h
      rw [ib_some, ib_some] at h'
      obtain ⟨h1, h2, h3⟩ := h'
      cases h3
      exact ⟨m, n, rfl, rfl, ble_iff.1 h1, ble_iff.1 h2, rfl⟩
theorem intBits_nat (op : BinOp) (f : Nat → Nat → Nat) (hf : ∀ a b j, a < 2 ^ j → b < 2 ^ j → f a b < 2 ^ j) {k : IntKind} {m n : Nat} (hm : m ≤ limK k) (hn : n ≤ limK k)
    (hop : ∀ (a b : BitVec k.bits), (op = .and → True) → True) (ho : Op.intBits op k (.ofNat m) (.ofNat n) = pure (.int k (k.wrap (.ofNat (f (m % 2 ^ k.bits) (n % 2 ^ k.bits)))))) :
    Op.intBits op k (.ofNat m) (.ofNat n) = pure (.int k (.ofNat (f m n))) := by
  rw [ho, Nat.mod_eq_of_lt (Nat.lt_of_le_of_lt hm (limK_lt k)), Nat.mod_eq_of_lt (Nat.lt_of_le_of_lt hn (limK_lt k)), wrap_ofNat (bitop_le f hf hm hn)]
theorem intBits_land {k : IntKind} {m n : Nat} (hm : m ≤ limK k) (hn : n ≤ limK k) : Op.intBits .and k (.ofNat m) (.ofNat n) = pure (.int k (.ofNat (Nat.land m n))) := by
  refine intBits_nat .and Nat.land (fun a b j ha hb => Nat.and_lt_two_pow a hb) hm hn (fun _ _ _ => trivial) ?_
  simp only [Op.intBits, BitVec.toNat_and]
  have e : ∀ q : Nat, (BitVec.ofInt k.bits (Int.ofNat q)).toNat = q % 2 ^ k.bits := fun q => by simp
  rw [e, e]; rfl
theorem intBits_lor {k : IntKind} {m n : Nat} (hm : m ≤ limK k) (hn : n ≤ limK k) : Op.intBits .or k (.ofNat m) (.ofNat n) = pure (.int k (.ofNat (Nat.lor m n))) := by
  refine intBits_nat .or Nat.lor (fun a b j ha hb => Nat.or_lt_two_pow ha hb) hm hn (fun _ _ _ => trivial) ?_
  simp only [Op.intBits, BitVec.toNat_or]
  have e : ∀ q : Nat, (BitVec.ofInt k.bits (Int.ofNat q)).toNat = q % 2 ^ k.bits := fun q => by simp
  rw [e, e]; rfl
theorem intBits_xor' {k : IntKind} {m n : Nat} (hm : m ≤ limK k) (hn : n ≤ limK k) : Op.intBits .xor k (.ofNat m) (.ofNat n) = pure (.int k (.ofNat (Nat.xor m n))) := by
  refine intBits_nat .xor Nat.xor (fun a b j ha hb => Nat.xor_lt_two_pow ha hb) hm hn (fun _ _ _ => trivial) ?_
  simp only [Op.intBits, BitVec.toNat_xor]
  have e : ∀ q : Nat, (BitVec.ofInt k.bits (Int.ofNat q)).toNat = q % 2 ^ k.bits := fun q => by simp
  rw [e, e]; rfl
theorem kq_some {j k : IntKind} {x : Option LV} {r : LV} (h : kq j k x = some r) : j = k ∧ x = some r := by
  unfold kq at h; rw [ib_some] at h; exact ⟨kindEq_iff.1 h.1, h.2⟩
theorem gives_binInt {op : BinOp} {t : TypeId} {j k : IntKind} {a b : Int} {r : LV} (h : binInt op j b k a = some r) : ∃ v, (binOp op t (.int k a) (.int j b)).run P w = .ok v w ∧ Rel φ r v := by
  cases op
  case add => obtain ⟨rfl, h⟩ := kq_some (x := iAdd k a b) h; rw [iAdd_some h, binOp_add]; exact ⟨_, rfl, .int _ _⟩
  case sub => obtain ⟨rfl, h⟩ := kq_some (x := iSub k a b) h; rw [iSub_some h, binOp_sub]; exact ⟨_, rfl, .int _ _⟩
  case mul => obtain ⟨rfl, h⟩ := kq_some (x := iMul k a b) h; rw [iMul_some h, binOp_mul]; exact ⟨_, rfl, .int _ _⟩
  case quo =>
    obtain ⟨rfl, h⟩ := kq_some (x := iQuo k a b) h
    unfold iQuo at h; split at h
    · cases h
    · rename_i hb; cases h; rw [binOp_quo]; simp only [Op.intDiv, if_neg hb]; exact ⟨_, rfl, .int _ _⟩
  case rem =>
    obtain ⟨rfl, h⟩ := kq_some (x := iRem k a b) h
    unfold iRem at h; split at h
    · cases h
    · rename_i hb; cases h; rw [binOp_rem]; simp only [Op.intDiv, if_neg hb]; exact ⟨_, rfl, .int _ _⟩
  case and => obtain ⟨rfl, h⟩ := kq_some (x := iAnd k a b) h; obtain ⟨m, n, rfl, rfl, hm, hn, rfl⟩ := iNat2_some h; rw [binOp_and, intBits_land hm hn]; exact ⟨_, rfl, .int _ _⟩
  case or => obtain ⟨rfl, h⟩ := kq_some (x := iOr k a b) h; obtain ⟨m, n, rfl, rfl, hm, hn, rfl⟩ := iNat2_some h; rw [binOp_or, intBits_lor hm hn]; exact ⟨_, rfl, .int _ _⟩
  case xor => obtain ⟨rfl, h⟩ := kq_some (x := iXor k a b) h; obtain ⟨m, n, rfl, rfl, hm, hn, rfl⟩ := iNat2_some h; rw [binOp_xor, intBits_xor' hm hn]; exact ⟨_, rfl, .int _ _⟩
  case shl =>
    have h' : iShl k a b = some r := h
    cases b with
    | negSucc n => cases h'
    | ofNat n => cases a with
      | negSucc m => cases h'
      | ofNat m =>
        have h2 : some (mkN k (Nat.mul m (Nat.pow 2 (natMin n k.bits)))) = some r := h'
        cases h2
        rw [mkN_eq, natMin_eq, binOp_shl]
        simp only [Op.shift]
        rw [if_neg (by have : Int.ofNat n = (n : Int) := rfl; omega)]
        refine ⟨_, rfl, ?_⟩
        have e : Int.ofNat m * 2 ^ (min (Int.ofNat n).toNat k.bits) = Int.ofNat (Nat.mul m (Nat.pow 2 (min n k.bits))) := by
          show (m : Int) * 2 ^ (min n k.bits) = ((m * 2 ^ (min n k.bits) : Nat) : Int)
          simp
        rw [e]; exact .int _ _
  case shr =>
    have h' : iShr k a b = some r := h
    cases b with
    | negSucc n => cases h'
    | ofNat n =>
      rw [binOp_shr]
      simp only [Op.shift]
      rw [if_neg (by have : Int.ofNat n = (n : Int) := rfl; omega)]
      cases a with
      | negSucc m =>
        have h2 : some (LV.int k ((Int.negSucc m).fdiv (2 ^ (natMin n k.bits)))) = some r := h'
        cases h2
        rw [natMin_eq]
        exact ⟨_, rfl, .int _ _⟩
      | ofNat m =>
        have h2 : some (LV.int k (.ofNat (Nat.div m (Nat.pow 2 (natMin n k.bits))))) = some r := h'
        cases h2
        rw [natMin_eq]
        refine ⟨_, rfl, ?_⟩
        have e : (Int.ofNat m).fdiv (2 ^ (min (Int.ofNat n).toNat k.bits)) = Int.ofNat (Nat.div m (Nat.pow 2 (min n k.bits))) := by
          show ((m : Int)).fdiv (2 ^ (min n k.bits)) = ((m / 2 ^ (min n k.bits) : Nat) : Int)
          rw [Int.fdiv_eq_ediv_of_nonneg _ (by exact_mod_cast Nat.zero_le _)]
          simp
        rw [e]; exact .int _ _
  case andNot => cases h
  case eql => obtain ⟨rfl, h2⟩ := kq_some (x := some (.bool (intEq a b))) h; cases h2; rw [intEq_eq, binOp_eql]; exact ⟨_, rfl, .bool _⟩
  case neq => obtain ⟨rfl, h2⟩ := kq_some (x := some (.bool (bnot (intEq a b)))) h; cases h2; rw [intEq_eq, bnot_eq, binOp_neq]; exact ⟨_, rfl, .bool _⟩
  case lss => obtain ⟨rfl, h2⟩ := kq_some (x := some (.bool (bnot (intLe b a)))) h; cases h2; rw [intLe_eq, bnot_eq, binOp_lss, show (!decide (b ≤ a)) = decide (a < b) by simp [← decide_not, Int.not_le]]; exact ⟨_, rfl, .bool _⟩
  case leq => obtain ⟨rfl, h2⟩ := kq_some (x := some (.bool (intLe a b))) h; cases h2; rw [intLe_eq, binOp_leq]; exact ⟨_, rfl, .bool _⟩
  case gtr => obtain ⟨rfl, h2⟩ := kq_some (x := some (.bool (bnot (intLe a b)))) h; cases h2; rw [intLe_eq, bnot_eq, binOp_gtr, show (!decide (a ≤ b)) = decide (a > b) by simp [← decide_not, Int.not_le]]; exact ⟨_, rfl, .bool _⟩
  case geq => obtain ⟨rfl, h2⟩ := kq_some (x := some (.bool (intLe b a))) h; cases h2; rw [intLe_eq, binOp_geq]; exact ⟨_, rfl, .bool _⟩
end
end Go.LX

