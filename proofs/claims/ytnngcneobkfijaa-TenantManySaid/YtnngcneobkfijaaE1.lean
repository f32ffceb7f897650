/- The engine, part 1: an abstract state for the model's code (cells that are pure data or references into an abstract heap), and functions that reckon regions, control and calls on it. -/
import Derived.WalkKit
import Derived.KernelRfl
namespace Go.Eng
noncomputable section

/-- is the number in the list? -/
def hasN (l : List Nat) (x : Nat) : Bool := List.rec false (fun y _ ih => cond (Nat.beq y x) true ih) l
def bitOf (m t : Nat) : Bool := Nat.beq (Nat.land 1 (Nat.shiftRight m t)) 1

mutual
inductive Sh where
  | bool | int (k : IntKind) | str | lst (cs : Shs)
inductive Shs where
  | nil | cons (s : Sh) (r : Shs)
end
deriving instance DecidableEq for Sh, Shs

mutual
def Dat : Sh → Type
  | .bool => Bool
  | .int _ => Int
  | .str => ByteArray
  | .lst cs => List (Tup cs)
def Tup : Shs → Type
  | .nil => Unit
  | .cons s r => Dat s × Tup r
end

mutual
def dDat : (s : Sh) → Dat s
  | .bool => false
  | .int _ => (0 : Int)
  | .str => ByteArray.empty
  | .lst _ => []
def dTup : (cs : Shs) → Tup cs
  | .nil => ()
  | .cons s r => (dDat s, dTup r)
end

def Shs.len : Shs → Nat
  | .nil => 0
  | .cons _ r => r.len + 1
def Shs.app : Shs → Shs → Shs
  | .nil, y => y
  | .cons s r, y => .cons s (r.app y)

/-- A cell: what one cell of memory holds, as far as it is known. -/
inductive C where
  | any | undef
  | tt | ff | sb (b : Bool)
  | lit (k : IntKind) (n : Int)
  | int (k : IntKind) (n : Int)
  | str (s : ByteArray)
  | lst (cs : Shs) (l : List (Tup cs))
  | dl (cs : Shs) (l : List (Tup cs)) (nl : Bool)
  | nilsl | nilptr | nilmap | nilfn
  | ref (id off : Nat)
  | rw (id sz : Nat) (known : Bool)
  | sl (id sz off len : Nat)
  | rref (id e j : Nat)
  | lref (cs : Shs) (l : List (Tup cs)) (e j : Nat)
  | mp (id : Nat)
  | fn (k : Nat) (caps : List (Nat × Nat))

inductive W where
  | c (x : C) | agg (cs : List C)

inductive V where
  | c (x : C) | agg (cs : List C) | tup (vs : List W)

def W.toV : W → V
  | .c x => .c x
  | .agg cs => .agg cs
def V.toW : V → Option W
  | .c x => some (.c x)
  | .agg cs => some (.agg cs)
  | .tup _ => none
def V.cells : V → List C
  | .c x => [x]
  | .agg cs => cs
  | .tup _ => []

inductive Own where
  | imm | own
  deriving DecidableEq

inductive Obj where
  | box (cs : List C)
  | row (cs : Shs) (l : List (Tup cs)) (ow : Own)
  | map (agg : Bool) (cs : Shs) (es : List (ByteArray × Tup cs))

abbrev Heap := List (Option Obj)
def Heap.at? (h : Heap) (id : Nat) : Option Obj := (h[id]?).join

inductive Tree (α : Type) where
  | leaf (a : α) | node (b : Bool) (t f : Tree α) | fail | hyp (b : Bool) (t : Tree α)

namespace Tree
def bind {α β : Type} (t : Tree α) (k : α → Tree β) : Tree β := Tree.rec k (fun b _ _ t f => .node b t f) .fail (fun b _ t => .hyp b t) t
theorem bind_leaf {α β : Type} (a : α) (k : α → Tree β) : (leaf a).bind k = k a := rfl
theorem bind_node {α β : Type} (b : Bool) (t f : Tree α) (k : α → Tree β) : (node b t f).bind k = node b (t.bind k) (f.bind k) := rfl
theorem bind_fail {α β : Type} (k : α → Tree β) : (fail : Tree α).bind k = fail := rfl
theorem bind_hyp {α β : Type} (b : Bool) (t : Tree α) (k : α → Tree β) : (hyp b t).bind k = hyp b (t.bind k) := rfl
def run {α : Type} : Tree α → Option α
  | .leaf a => some a
  | .node b t f => bif b then t.run else f.run
  | .fail => none
  | .hyp b t => bif b then t.run else none
/-- the same, with what is supposed taken for granted; what it is. -/
def runH {α : Type} : Tree α → Option α
  | .leaf a => some a
  | .node b t f => bif b then t.runH else f.runH
  | .fail => none
  | .hyp _ t => t.runH
def hyps {α : Type} : Tree α → List Bool
  | .leaf _ => []
  | .node b t f => bif b then t.hyps else f.hyps
  | .fail => []
  | .hyp b t => b :: t.hyps
theorem run_hyps {α : Type} (t : Tree α) (h : ∀ b ∈ t.hyps, b = true) : t.run = t.runH := by
  induction t with
  | leaf a => rfl
  | node b t f iht ihf => cases b <;> simp only [run, runH, cond_true, cond_false] <;> first | exact iht h | exact ihf h
  | fail => rfl
  | hyp b t ih =>
    have hb : b = true := h b (List.mem_cons_self ..)
    subst hb
    exact ih fun b hb => h b (List.mem_cons_of_mem _ hb)
def ofOption {α : Type} : Option α → Tree α
  | some a => .leaf a
  | none => .fail
theorem run_bind {α β : Type} (t : Tree α) (k : α → Tree β) : (t.bind k).run = t.run.bind fun a => (k a).run := by
  induction t with
  | leaf a => rfl
  | node b t f iht ihf => cases b <;> simp [bind_node, run, iht, ihf]
  | fail => rfl
  | hyp b t ih => cases b <;> simp [bind_hyp, run, ih]
end Tree

structure St where
  tm : List (Nat × V)
  hp : Heap

def tget (tm : List (Nat × V)) (t : Nat) : V := List.rec (.c .any) (fun p _ ih => cond (Nat.beq p.1 t) p.2 ih) tm
def tset (tm : List (Nat × V)) (t : Nat) (v : V) : List (Nat × V) := List.rec [(t, v)] (fun p r ih => cond (Nat.beq p.1 t) ((p.1, v) :: r) (p :: ih)) tm
theorem tget_nil (t : Nat) : tget [] t = .c .any := rfl
theorem tget_cons (k : Nat) (v : V) (r : List (Nat × V)) (t : Nat) : tget ((k, v) :: r) t = cond (Nat.beq k t) v (tget r t) := rfl
theorem tset_nil (t : Nat) (v : V) : tset [] t v = [(t, v)] := rfl
theorem tset_cons (k : Nat) (x : V) (r : List (Nat × V)) (t : Nat) (v : V) : tset ((k, x) :: r) t v = cond (Nat.beq k t) ((k, v) :: r) ((k, x) :: tset r t v) := rfl
theorem hasN_cons (y : Nat) (r : List Nat) (x : Nat) : hasN (y :: r) x = cond (Nat.beq y x) true (hasN r x) := rfl
@[simp] theorem hasN_eq : (l : List Nat) → (x : Nat) → hasN l x = l.contains x
  | [], _ => rfl
  | y :: r, x => by
    rw [hasN_cons, hasN_eq r x, List.contains_cons]
    cases hb : Nat.beq y x with
    | true => have := Nat.eq_of_beq_eq_true hb; simp [this]
    | false =>
      have : y ≠ x := fun e => by rw [e, Nat.beq_refl] at hb; cases hb
      have : (x == y) = false := by simpa using fun e : x = y => this e.symm
      rw [this]; rfl

def constC : Value → C
  | .bool true => .tt
  | .bool false => .ff
  | .int k n => .lit k n
  | .string s => .str s
  | .pointer none => .nilptr
  | .slice none 0 0 => .nilsl
  | .map none => .nilmap
  | .nilFunc => .nilfn
  | _ => .any
def constV : Value → V
  | .agg cs => .agg (cs.toList.map constC)
  | v => .c (constC v)

def valOf (tm : List (Nat × V)) : Operand → V
  | .tmp t => tget tm t
  | .const v => constV v
  | .func f => .c (.fn f [])
  | .global _ => .c .any

/- data in cells -/
def cellD : (s : Sh) → Dat s → C
  | .bool, b => .sb b
  | .int k, n => .int k n
  | .str, s => .str s
  | .lst cs, l => .lst cs l
def cellT : (cs : Shs) → Tup cs → Nat → C
  | .nil, _, _ => .any
  | .cons s _, t, 0 => cellD s t.1
  | .cons _ r, t, j + 1 => cellT r t.2 j
def cellsT : (cs : Shs) → Tup cs → List C
  | .nil, _ => []
  | .cons s r, t => cellD s t.1 :: cellsT r t.2
def castL (cs cs' : Shs) (l : List (Tup cs)) : Option (List (Tup cs')) := if h : cs = cs' then some (h ▸ l) else none
def datB : C → Option Bool
  | .tt => some true
  | .ff => some false
  | .sb b => some b
  | _ => none
def datI (k : IntKind) : C → Option Int
  | .int k' n => if k' = k then some n else none
  | .lit k' n => if k' = k then some n else none
  | _ => none
def datS : C → Option ByteArray
  | .str s => some s
  | _ => none
def datL (cs : Shs) : C → Option (List (Tup cs))
  | .lst cs' l => castL cs' cs l
  | .nilsl => some []
  | _ => none
def datC : (s : Sh) → C → Option (Dat s)
  | .bool, c => datB c
  | .int k, c => datI k c
  | .str, c => datS c
  | .lst cs, c => datL cs c
def tupC : (cs : Shs) → List C → Option (Tup cs)
  | .nil, [] => some ()
  | .cons s r, x :: xs => match datC s x, tupC r xs with
    | some a, some b => some (a, b)
    | _, _ => none
  | _, _ => none
/-- n elements out of a row of cells. -/
def tupsC (cs : Shs) : Nat → List C → Option (List (Tup cs))
  | 0, _ => some []
  | n + 1, xs => match tupC cs (xs.take cs.len), tupsC cs n (xs.drop cs.len) with
    | some t, some r => some (t :: r)
    | _, _ => none
/-- one cell of an element turned. -/
def putT : (cs : Shs) → Tup cs → Nat → C → Option (Tup cs)
  | .nil, _, _, _ => none
  | .cons s _, t, 0, x => match datC s x with
    | some a => some (a, t.2)
    | none => none
  | .cons _ r, t, j + 1, x => match putT r t.2 j x with
    | some b => some (t.1, b)
    | none => none
def putsT (cs : Shs) (t : Tup cs) (j : Nat) : List C → Option (Tup cs)
  | [] => some t
  | x :: xs => match putT cs t j x with
    | some t' => putsT cs t' (j + 1) xs
    | none => none

/- slices that are own rows, as data: which rows are shut by it -/
def convC (h : Heap) : C → C
  | .rw id sz k => match h.at? id with
    | some (.row cs l _) => .lst cs l
    | _ => .rw id sz k
  | .sl id sz off len => match h.at? id with
    | some (.row cs l _) => .lst cs ((l.drop off).take len)
    | _ => .sl id sz off len
  | x => x
def shutIds (h : Heap) : List C → List (Nat × Option Obj)
  | [] => []
  | .rw id _ _ :: r | .sl id _ _ _ :: r => match h.at? id with
    | some (.row cs l .own) => (id, some (.row cs l .imm)) :: shutIds h r
    | _ => shutIds h r
  | _ :: r => shutIds h r

def leafC : C → Bool
  | .any | .undef => false
  | _ => true
/-- a value that may be laid into memory -/
def V.sane : V → Bool
  | .c x => leafC x
  | .agg _ => true
  | .tup _ => false

/- types -/
def tyF (P : Program) (d : Sh → Shs) : Nat → TypeId → Option Shs
  | 0, _ => none
  | n + 1, t => match P.underlying t with
    | some .bool => some (d .bool)
    | some (.int k) => some (d (.int k))
    | some .string => some (d .str)
    | some (.slice e) => (tyF P (fun s => .cons s .nil) n e).map fun cs => d (.lst cs)
    | some (.struct fs) => fs.toList.foldr (fun f r => match tyF P (fun s => .cons s .nil) n f.type, r with
        | some a, some b => some (a.app b)
        | _, _ => none) (some .nil)
    | _ => none
def shs (P : Program) (t : TypeId) : Option Shs := tyF P (fun s => .cons s .nil) 8 t
def tsz (P : Program) (t : TypeId) : Nat := ((P.info? t).map (·.size)).getD 0
def tbytes (P : Program) (t : TypeId) : Nat := ((P.info? t).map (·.bytes)).getD 0
def aggT (P : Program) (t : TypeId) : Bool := match P.underlying t with
  | some (.struct _) | some (.array _ _) => true
  | _ => false
/-- are these cells the zero of such data? -/
def zeroOk : Shs → List C → Bool
  | .nil, [] => true
  | .cons .bool r, .ff :: xs => zeroOk r xs
  | .cons (.int k) r, .lit k' n :: xs => decide (k' = k) && decide (n = 0) && zeroOk r xs
  | .cons .str r, .str s :: xs => (s.size == 0) && zeroOk r xs
  | .cons (.lst _) r, .nilsl :: xs => zeroOk r xs
  | _, _ => false
def zeroCs (P : Program) (t : TypeId) : Option (List C) := ((P.info? t).bind (·.zero)).map fun v => (v.cells.toList.map constC)

def zeroAgg (P : Program) (t : TypeId) : Bool := match (P.info? t).bind (·.zero) with
  | some (.agg _) => true
  | _ => false

structure Out where
  v : V
  upd : List (Nat × Option Obj) := []
  new : List Obj := []

def pureO (x : C) : Tree Out := .leaf { v := .c x }

/- integers -/
def asI : C → Option (IntKind × Int × Bool)
  | .int k n => some (k, n, false)
  | .lit k n => some (k, n, true)
  | _ => none
def mkI (k : IntKind) (n : Int) (known : Bool) : C := bif known then .lit k n else .int k n
def mkB (b known : Bool) : C := bif known then (bif b then .tt else .ff) else .sb b
def asB : C → Option (Bool × Bool)
  | .tt => some (true, true)
  | .ff => some (false, true)
  | .sb b => some (b, false)
  | _ => none
def test {α : Type} (b known : Bool) (t f : Tree α) : Tree α := bif known then (bif b then t else f) else .node b t f

def arith (op : BinOp) (k : IntKind) (x y : Int) (kx ky : Bool) : Tree C :=
  match op with
  | .add => .leaf (mkI k (k.wrap (x + y)) (kx && ky))
  | .sub => .leaf (mkI k (k.wrap (x - y)) (kx && ky))
  | .mul => .leaf (mkI k (k.wrap (x * y)) (kx && ky))
  | .quo => test (decide (y = 0)) ky .fail (.leaf (mkI k (k.wrap (x.tdiv y)) (kx && ky)))
  | .rem => test (decide (y = 0)) ky .fail (.leaf (mkI k (x.tmod y) (kx && ky)))
  | .and => .leaf (mkI k (k.wrap (BitVec.ofInt k.bits x &&& BitVec.ofInt k.bits y).toNat) (kx && ky))
  | .or => .leaf (mkI k (k.wrap (BitVec.ofInt k.bits x ||| BitVec.ofInt k.bits y).toNat) (kx && ky))
  | .xor => .leaf (mkI k (k.wrap (BitVec.ofInt k.bits x ^^^ BitVec.ofInt k.bits y).toNat) (kx && ky))
  | .andNot => .leaf (mkI k (k.wrap (BitVec.ofInt k.bits x &&& ~~~BitVec.ofInt k.bits y).toNat) (kx && ky))
  | .eql => .leaf (mkB (x == y) (kx && ky))
  | .neq => .leaf (mkB (x != y) (kx && ky))
  | .lss => .leaf (mkB (decide (x < y)) (kx && ky))
  | .leq => .leaf (mkB (decide (x ≤ y)) (kx && ky))
  | .gtr => .leaf (mkB (decide (x > y)) (kx && ky))
  | .geq => .leaf (mkB (decide (x ≥ y)) (kx && ky))
  | _ => .fail
def shiftC (op : BinOp) (k : IntKind) (x y : Int) (kx ky : Bool) : Tree C :=
  test (decide (y < 0)) ky .fail (match op with
    | .shl => .leaf (mkI k (k.wrap (x * 2 ^ min y.toNat k.bits)) (kx && ky))
    | .shr => .leaf (mkI k (x.fdiv (2 ^ min y.toNat k.bits)) (kx && ky))
    | _ => .fail)
def strC (op : BinOp) (x y : ByteArray) : Tree C :=
  match op with
  | .add => .node (decide (((x.size + y.size : Nat) : Int) > IntKind.i64.max)) .fail (.leaf (.str (x ++ y)))
  | .eql => .leaf (.sb (x.toList == y.toList))
  | .neq => .leaf (.sb (!(x.toList == y.toList)))
  | .lss => .leaf (.sb (Op.bytesLess x.toList y.toList))
  | .leq => .leaf (.sb (Op.bytesLess x.toList y.toList || x.toList == y.toList))
  | .gtr => .leaf (.sb (!(Op.bytesLess x.toList y.toList || x.toList == y.toList)))
  | .geq => .leaf (.sb (!(Op.bytesLess x.toList y.toList)))
  | _ => .fail
/-- pointers held against nil -/
def eqNil : C → C → Option Bool
  | .nilptr, y => match y with
    | .nilptr => some true
    | .ref .. => some false
    | .rref .. => some false
    | _ => none
  | .ref .., .nilptr => some false
  | .rref .., .nilptr => some false
  | _, _ => none
/-- are cells equal, by their kinds? -/
inductive EK where
  | b | i | s
def eqCell : EK → C → C → Option Bool
  | .b, x, y => match asB x, asB y with
    | some (p, _), some (q, _) => some (p == q)
    | _, _ => none
  | .i, x, y => match asI x, asI y with
    | some (j, p, _), some (k, q, _) => if j = k then some (p == q) else none
    | _, _ => none
  | .s, .str p, .str q => some (p == q)
  | .s, _, _ => none
def eqCells : List EK → List C → List C → Option Bool
  | [], [], [] => some true
  | e :: es, x :: xs, y :: ys => match eqCell e x y, eqCells es xs ys with
    | some a, some b => some (a && b)
    | _, _ => none
  | _, _, _ => none
/-- the kinds of a type's cells, where it is a bool, an int, a string, or a struct whose fields lie one behind the other, each named, of such types -/
def flatFs (P : Program) (flat : TypeId → Option (List EK)) : List Go.Field → Nat → Option (List EK)
  | [], _ => some []
  | f :: fs, o => if f.offset = o ∧ f.name ≠ "_" then match flat f.type, flatFs P flat fs (o + tsz P f.type) with
      | some a, some b => if a.length = tsz P f.type then some (a ++ b) else none
      | _, _ => none
    else none
def flatK (P : Program) : Nat → TypeId → Option (List EK)
  | 0, _ => none
  | n + 1, t => match P.underlying t with
    | some .bool => some [.b]
    | some (.int _) => some [.i]
    | some .string => some [.s]
    | some (.struct fs) => if P.stoodInHeld t = false ∧ P.eqGuardType P.depth t = false then flatFs P (flatK P n) fs.toList 0 else none
    | _ => none

def binO (P : Program) (op : BinOp) (t : TypeId) : V → V → Tree Out
  | .c x, .c y =>
    match asI x, asI y with
    | some (k, a, ka), some (k', b, kb) =>
      match op with
      | .shl => (shiftC .shl k a b ka kb).bind pureO
      | .shr => (shiftC .shr k a b ka kb).bind pureO
      | op => if k = k' then (arith op k a b ka kb).bind pureO else .fail
    | _, _ => match x, y with
      | .str a, .str b => (strC op a b).bind pureO
      | x, y =>
        match op with
        | .eql => match asB x, asB y, P.underlying t with
          | some (a, ka), some (b, kb), some .bool => pureO (mkB (a == b) (ka && kb))
          | _, _, some (.pointer _) => match eqNil x y with
            | some b => pureO (mkB b true)
            | none => .fail
          | _, _, some (.slice _) => match x, y with
            | .dl _ _ nl, .nilsl => pureO (mkB nl true)
            | _, _ => .fail
          | _, _, _ => .fail
        | .neq => match asB x, asB y, P.underlying t with
          | some (a, ka), some (b, kb), some .bool => pureO (mkB (!(a == b)) (ka && kb))
          | _, _, some (.pointer _) => match eqNil x y with
            | some b => pureO (mkB (!b) true)
            | none => .fail
          | _, _, _ => .fail
        | _ => .fail
  | .agg xs, .agg ys =>
    match flatK P 8 t with
    | some ks => if aggT P t = true ∧ ks.length = tsz P t then match eqCells ks xs ys with
        | some b => match op with
          | .eql => pureO (.sb b)
          | .neq => pureO (.sb (!b))
          | _ => .fail
        | none => .fail
      else .fail
    | none => .fail
  | _, _ => .fail

def unO (op : UnOp) : V → Tree Out
  | .c x => match op, asB x, asI x with
    | .not, some (b, k), _ => pureO (mkB (!b) k)
    | .neg, _, some (k, n, kn) => pureO (mkI k (k.wrap (0 - n)) kn)
    | _, _, _ => .fail
  | _ => .fail

/- memory -/
def elemCells (cs : Shs) (t : Tup cs) (j n : Nat) : List C := ((cellsT cs t).drop j).take n
def mkV (agg : Bool) (cs : List C) : Tree V := bif agg then .leaf (.agg cs) else match cs with
  | [x] => .leaf (.c x)
  | _ => .fail
def loadO (P : Program) (h : Heap) (t : TypeId) (a : V) : Tree Out := match P.underlying t with
  | none => .fail
  | some _ => match a with
    | .c (.ref id off) => match h.at? id with
      | some (.box cs) => if off + tsz P t ≤ cs.length then (mkV (aggT P t) ((cs.drop off).take (tsz P t))).bind fun v => .leaf { v := v } else .fail
      | _ => .fail
    | .c (.rref id e j) => match h.at? id with
      | some (.row cs l _) => .node (decide (e < l.length)) (if j + tsz P t ≤ cs.len then (mkV (aggT P t) (elemCells cs (l.getD e (dTup cs)) j (tsz P t))).bind fun v => .leaf { v := v } else .fail) .fail
      | _ => .fail
    | .c (.lref cs l e j) => .node (decide (e < l.length)) (if j + tsz P t ≤ cs.len then (mkV (aggT P t) (elemCells cs (l.getD e (dTup cs)) j (tsz P t))).bind fun v => .leaf { v := v } else .fail) .fail
    | _ => .fail
def spliceL (cs : List C) (off : Nat) (xs : List C) : List C := cs.take off ++ xs ++ cs.drop (off + xs.length)
def storeO (P : Program) (h : Heap) (t : TypeId) : V → V → Tree Out
  | .c (.ref id off), v => match h.at? id with
    | some (.box cs) => if v.cells.length = tsz P t ∧ off + tsz P t ≤ cs.length ∧ v.sane = true ∧ v.cells.all leafC = true ∧ (P.info? t).isSome = true then .leaf { v := .c .undef, upd := [(id, some (.box (spliceL cs off v.cells)))] } else .fail
    | _ => .fail
  | .c (.rref id e j), v => match h.at? id with
    | some (.row cs l .own) => if v.cells.length = tsz P t ∧ j + tsz P t ≤ cs.len ∧ v.sane = true ∧ (P.info? t).isSome = true then
        match putsT cs (l.getD e (dTup cs)) j (v.cells.map (convC h)) with
        | some x => if (shutIds h v.cells).all (fun p => p.1 != id) then .node (decide (e < l.length)) (.leaf { v := .c .undef, upd := shutIds h v.cells ++ [(id, some (.row cs (l.set e x) .own))] }) .fail else .fail
        | none => .fail
      else .fail
    | _ => .fail
  | _, _ => .fail

def fieldOf (P : Program) (s : TypeId) (f : Nat) : Option Go.Field := match P.underlying s with
  | some (.struct fs) => fs[f]?
  | _ => none
def fieldAddrO (P : Program) (s : TypeId) (f : Nat) : V → Tree Out
  | .c x => match fieldOf P s f with
    | some fl => if tsz P fl.type = 0 then .fail else match x with
      | .ref id off => pureO (.ref id (off + fl.offset))
      | .rref id e j => pureO (.rref id e (j + fl.offset))
      | .lref cs l e j => pureO (.lref cs l e (j + fl.offset))
      | _ => .fail
    | none => .fail
  | _ => .fail
def fieldO (P : Program) (s : TypeId) (f : Nat) : V → Tree Out
  | .agg cs => match fieldOf P s f with
    | some fl => if (P.underlying fl.type).isSome = true ∧ fl.offset + tsz P fl.type ≤ cs.length then (mkV (aggT P fl.type) ((cs.drop fl.offset).take (tsz P fl.type))).bind fun v => .leaf { v := v } else .fail
    | none => .fail
  | _ => .fail

def inB (i : Int) (n : Nat) : Bool := decide (0 ≤ i ∧ i < (n : Int))
/-- the address of an array's element, by cases on the index where it isn't known -/
def arrCases (k : Nat → Tree Out) (i : Int) : Nat → Nat → Tree Out
  | 0, _ => .fail
  | n + 1, j => .node (decide (i = (j : Int))) (k j) (arrCases k i n (j + 1))
def indexAddrO (P : Program) (h : Heap) (t : TypeId) : V → V → Tree Out
  | .c x, .c y => match asI y with
    | none => .fail
    | some (_, i, ki) => match P.underlying t, x with
      | some (.slice e), .rw id sz k => match h.at? id with
        | some (.row cs l _) => if sz = cs.len ∧ tsz P e = sz ∧ tsz P e ≠ 0 then test (inB i l.length) (ki && k) (pureO (.rref id i.toNat 0)) .fail else .fail
        | _ => .fail
      | some (.slice e), .sl id sz off len => match h.at? id with
        | some (.row cs _ _) => if sz = cs.len ∧ tsz P e = sz ∧ tsz P e ≠ 0 then .node (inB i len) (pureO (.rref id (off + i.toNat) 0)) .fail else .fail
        | _ => .fail
      | some (.slice e), .lst cs l => if tsz P e = cs.len ∧ tsz P e ≠ 0 then .node (inB i l.length) (pureO (.lref cs l i.toNat 0)) .fail else .fail
      | some (.array n e), .ref id off => if tsz P e ≠ 0 then match ki with
          | true => if inB i n = true then pureO (.ref id (off + i.toNat * tsz P e)) else .fail
          | false => arrCases (fun j => pureO (.ref id (off + j * tsz P e))) i n 0
        else .fail
      | _, _ => .fail
  | _, _ => .fail
def indexO (P : Program) (t : TypeId) : V → V → Tree Out
  | .c (.str s), .c y => match asI y, P.underlying t with
    | some (_, i, _), some .string => .node (inB i s.size) (pureO (.int .u8 ((s.get! i.toNat).toNat : Nat))) .fail
    | _, _ => .fail
  | .agg xs, .c y => match asI y, P.underlying t with
    | some (_, i, ki), some (.array n e) =>
      let one (j : Nat) : Tree Out := if (P.underlying e).isSome = true ∧ j * tsz P e + tsz P e ≤ xs.length then (mkV (aggT P e) ((xs.drop (j * tsz P e)).take (tsz P e))).bind fun v => .leaf { v := v } else .fail
      match ki with
      | true => if inB i n then one i.toNat else .fail
      | false => arrCases one i n 0
    | _, _ => .fail
  | _, _ => .fail

def bound (v : Option V) (d : Int) : Option (Int × Bool) := match v with
  | none => some (d, true)
  | some (.c x) => (asI x).map fun (_, n, k) => (n, k)
  | _ => none
def sliceO (P : Program) (h : Heap) (t : TypeId) (lo hi : Option V) : V → Tree Out
  | .c (.str s) => match bound lo 0, bound hi s.size, P.underlying t with
    | some (a, _), some (b, _), some .string => .node (decide (0 ≤ a ∧ a ≤ b ∧ b ≤ (s.size : Int))) (pureO (.str (s.extract a.toNat b.toNat))) .fail
    | _, _, _ => .fail
  | .c (.lst cs l) => match bound lo 0, bound hi l.length, P.underlying t with
    | some (a, _), some (b, _), some (.slice e) => if tsz P e = cs.len ∧ tsz P e ≠ 0 then .node (decide (0 ≤ a ∧ a ≤ b ∧ b ≤ (l.length : Int))) (pureO (.lst cs ((l.drop a.toNat).take (b - a).toNat))) .fail else .fail
    | _, _, _ => .fail
  | .c .nilsl => match bound lo 0, bound hi 0, P.underlying t with
    | some (a, _), some (b, _), some (.slice e) => if tsz P e ≠ 0 then .node (decide (a = 0 ∧ b = 0)) (pureO .nilsl) .fail else .fail
    | _, _, _ => .fail
  | .c (.rw id sz k) => match h.at? id with
    | some (.row cs l _) => match bound lo 0, bound hi l.length, P.underlying t with
      | some (a, ka), some (b, kb), some (.slice e) => if sz = cs.len ∧ tsz P e = sz ∧ sz ≠ 0 then test (decide (0 ≤ a ∧ a ≤ b ∧ b ≤ (l.length : Int))) (ka && kb && k) (pureO (.sl id sz a.toNat (b - a).toNat)) .fail else .fail
      | _, _, _ => .fail
    | _ => .fail
  | .c (.sl id sz off len) => match h.at? id with
    | some (.row cs _ _) => match bound lo 0, bound hi len, P.underlying t with
      | some (a, _), some (b, _), some (.slice e) => if sz = cs.len ∧ tsz P e = sz ∧ sz ≠ 0 then .node (decide (0 ≤ a ∧ a ≤ b ∧ b ≤ (len : Int))) (pureO (.sl id sz (off + a.toNat) (b - a).toNat)) .fail else .fail
      | _, _, _ => .fail
    | _ => .fail
  | _ => .fail

/- building -/
def fillC (P : Program) (place : Nat → Option (Nat × Nat)) : List C → List (Nat × V) → Option (List C)
  | cs, [] => some cs
  | cs, (i, v) :: r => match place i with
    | some (off, sz) => if v.sane = true ∧ v.cells.length = sz ∧ off + sz ≤ cs.length then fillC P place (spliceL cs off v.cells) r else none
    | none => none
def buildO (P : Program) (t : TypeId) (parts : List (Nat × V)) : Tree Out :=
  match P.underlying t, zeroCs P t with
  | some (.struct fs), some z => if fs.toList.all (fun f => (P.info? f.type).isSome) then match fillC P (fun i => (fs[i]?).map fun f => (f.offset, tsz P f.type)) z parts with
    | some cs => .leaf { v := .agg cs }
    | none => .fail
    else .fail
  | some (.array _ e), some z => if (P.info? e).isSome then match fillC P (fun i => some (i * tsz P e, tsz P e)) z parts with
    | some cs => .leaf { v := .agg cs }
    | none => .fail
    else .fail
  | _, _ => .fail
def replC (n : Nat) (z : List C) : List C := (List.replicate n z).flatten
def buildSliceO (P : Program) (h : Heap) (nid : Nat) (t : TypeId) (n : Nat) (parts : List (Nat × V)) : Tree Out :=
  match P.underlying t with
  | some (.slice e) => match shs P e, zeroCs P e with
    | some cs, some z => if cs.len = tsz P e ∧ z.length = tsz P e ∧ tsz P e ≠ 0 ∧ n * tsz P e ≤ 2 ^ 24 then
        match fillC P (fun i => some (i * tsz P e, tsz P e)) (replC n z) parts with
        | some xs => match tupsC cs n (xs.map (convC h)) with
          | some l => .leaf { v := .c (.rw nid (tsz P e) true), upd := shutIds h xs, new := [.row cs l .own] }
          | none => .fail
        | none => .fail
      else .fail
    | _, _ => .fail
  | _ => .fail
def makeSliceO (P : Program) (nid : Nat) (t : TypeId) : V → V → Tree Out
  | .c x, .c y => match P.underlying t, asI x, asI y with
    | some (.slice e), some (_, n, kn), some (_, m, km) => match shs P e, zeroCs P e with
      | some cs, some z => if cs.len = tsz P e ∧ zeroOk cs z = true ∧ tsz P e ≠ 0 then
            test (decide (0 ≤ n ∧ n ≤ m ∧ m * (tbytes P e : Int) ≤ 140737488355328 ∧ m ≤ 140737488355328)) (kn && km)
              (.leaf { v := .c (.rw nid (tsz P e) kn), new := [.row cs (List.replicate n.toNat (dTup cs)) .own] }) .fail
          else .fail
      | _, _ => .fail
    | _, _, _ => .fail
  | _, _ => .fail

/- maps with texts as keys -/
def mget {α : Type} (k : ByteArray) : List (ByteArray × α) → Option α
  | [] => none
  | (a, x) :: r => bif k == a then some x else mget k r
def mput {α : Type} (k : ByteArray) (v : α) : List (ByteArray × α) → List (ByteArray × α)
  | [] => [(k, v)]
  | (a, x) :: r => bif k == a then (k, v) :: r else (a, x) :: mput k v r
def mdel {α : Type} (k : ByteArray) : List (ByteArray × α) → List (ByteArray × α)
  | [] => []
  | (a, x) :: r => bif k == a then r else (a, x) :: mdel k r
def keyed (P : Program) (t : TypeId) : Option TypeId := match P.underlying t with
  | some (.map k e) => match P.underlying k with
    | some .string => some e
    | _ => none
  | _ => none
def toW (agg : Bool) (cs : List C) : Option W := bif agg then some (.agg cs) else match cs with
  | [x] => some (.c x)
  | _ => none
def lookupR (P : Program) (e : TypeId) (ok : Bool) (cs : List C) (b known : Bool) : Tree Out :=
  match toW (aggT P e) cs with
  | some w => .leaf { v := bif ok then .tup [w, .c (mkB b known)] else w.toV }
  | none => .fail
def lookupO (P : Program) (h : Heap) (t : TypeId) (ok : Bool) : V → V → Tree Out
  | .c (.mp id), .c (.str k) => match keyed P t, h.at? id with
    | some e, some (.map ag cs es) => match zeroCs P e with
      | some z => if shs P e = some cs ∧ ag = aggT P e ∧ zeroAgg P e = aggT P e ∧ zeroOk cs z = true then lookupR P e ok (cellsT cs ((mget k es).getD (dTup cs))) (mget k es).isSome false else .fail
      | _ => .fail
    | _, _ => .fail
  | .c .nilmap, .c (.str _) => match keyed P t with
    | some e => match zeroCs P e with
      | some z => if zeroAgg P e = aggT P e then lookupR P e ok z false true else .fail
      | none => .fail
    | none => .fail
  | _, _ => .fail
def fitsV (ag : Bool) : V → Bool
  | .agg _ => ag
  | .c x => !ag && leafC x
  | .tup _ => false
def mapUpdateO (P : Program) (h : Heap) (t : TypeId) : V → V → V → Tree Out
  | .c (.mp id), .c (.str k), v => match keyed P t, h.at? id with
    | some e, some (.map ag cs es) => if shs P e = some cs ∧ ag = aggT P e ∧ fitsV (aggT P e) v = true then match tupC cs (v.cells.map (convC h)) with
        | some x => if (shutIds h v.cells).all (fun p => p.1 != id) then .leaf { v := .c .undef, upd := shutIds h v.cells ++ [(id, some (.map ag cs (mput k x es)))] } else .fail
        | none => .fail
      else .fail
    | _, _ => .fail
  | _, _, _ => .fail

/- builtins -/
def bytesOf (l : List (Tup (.cons (.int .u8) .nil))) : ByteArray := ⟨(l.map fun t => UInt8.ofNat (Int.toNat t.1)).toArray⟩
def ofBytes (s : ByteArray) : List (Tup (.cons (.int .u8) .nil)) := s.data.toList.map fun b => (((b.toNat : Nat) : Int), ())
/-- what a slice or a text gives to an append -/
def srcOf (h : Heap) (cs : Shs) : C → Option (List (Tup cs))
  | .nilsl => some []
  | .lst cs' l => castL cs' cs l
  | .dl cs' l _ => castL cs' cs l
  | .rw id _ _ => match h.at? id with
    | some (.row cs' l _) => castL cs' cs l
    | _ => none
  | .sl id _ off len => match h.at? id with
    | some (.row cs' l _) => (castL cs' cs l).map fun l => (l.drop off).take len
    | _ => none
  | .str s => castL (.cons (.int .u8) .nil) cs (ofBytes s)
  | _ => none
def idOf : C → Option Nat
  | .rw id _ _ | .sl id _ _ _ => some id
  | _ => none
def knownLen : C → Bool
  | .nilsl => true
  | .rw _ _ k => k
  | _ => false
def appendO (P : Program) (h : Heap) (nid : Nat) (argTypes : List TypeId) : V → V → Tree Out
  | .c d, .c s => match argTypes with
    | [t, u] => match P.underlying t, P.underlying u with
      | some (.slice _), some (.int _) => .fail
      | some (.slice e), some _ => match shs P e with
        | some cs => if cs.len = tsz P e ∧ tsz P e ≠ 0 ∧ tbytes P e ≠ 0 ∧ (zeroCs P e).map List.length = some (tsz P e) then match srcOf h cs s with
            | some x => match d with
              | .nilsl => .node (decide (x.length * tbytes P e ≤ 140737488355328)) (.leaf { v := .c (.rw nid (tsz P e) (knownLen s)), new := [.row cs x .own] }) .fail
              | .rw id sz k => match h.at? id with
                | some (.row cs' l .own) => match castL cs' cs l with
                  | some l => if sz = tsz P e ∧ idOf s ≠ some id then .node (decide ((l.length + x.length) * tbytes P e ≤ 140737488355328)) (.leaf { v := .c (.rw nid sz (k && knownLen s)), upd := [(id, none)], new := [.row cs (l ++ x) .own] }) .fail else .fail
                  | none => .fail
                | _ => .fail
              | _ => .fail
            | none => .fail
          else .fail
        | none => .fail
      | _, _ => .fail
    | _ => .fail
  | _, _ => .fail
def lenO (P : Program) (h : Heap) (t : TypeId) : V → Tree Out
  | .c (.str s) => match P.underlying t with
    | some .string => pureO (.int .i64 (s.size : Nat))
    | _ => .fail
  | .c .nilsl => match P.underlying t with
    | some (.slice _) => pureO (.lit .i64 0)
    | _ => .fail
  | .c (.lst _ l) => match P.underlying t with
    | some (.slice _) => pureO (.int .i64 (l.length : Nat))
    | _ => .fail
  | .c (.rw id _ k) => match P.underlying t, h.at? id with
    | some (.slice _), some (.row _ l _) => pureO (mkI .i64 (l.length : Nat) k)
    | _, _ => .fail
  | .c (.sl _ _ _ len) => match P.underlying t with
    | some (.slice _) => pureO (.int .i64 (len : Nat))
    | _ => .fail
  | .c (.mp id) => match P.underlying t, h.at? id with
    | some (.map _ _), some (.map _ _ es) => pureO (.int .i64 (es.length : Nat))
    | _, _ => .fail
  | .c .nilmap => match P.underlying t with
    | some (.map _ _) => pureO (.lit .i64 0)
    | _ => .fail
  | .agg _ => match P.underlying t with
    | some (.array n _) => pureO (.lit .i64 (n : Nat))
    | _ => .fail
  | _ => .fail
def fold2 (f : Int → Int → Int) : V → List V → Tree Out
  | .c x, [] => pureO x
  | .c x, .c y :: r => match asI x, asI y with
    | some (k, a, ka), some (k', b, kb) => if k = k' then fold2 f (.c (mkI k (f a b) (ka && kb))) r else .fail
    | _, _ => .fail
  | _, _ => .fail
def min2I (x y : Int) : Int := if y < x then y else x
def max2I (x y : Int) : Int := if y > x then y else x
def deleteO (P : Program) (h : Heap) : List TypeId → List V → Tree Out
  | t :: _, [.c (.mp id), .c (.str k)] => match keyed P t, h.at? id with
    | some _, some (.map ag cs es) => .leaf { v := .tup [], upd := [(id, some (.map ag cs (mdel k es)))] }
    | _, _ => .fail
  | _, _ => .fail
def builtinO (P : Program) (h : Heap) (nid : Nat) (b : Builtin) (ts : List TypeId) (vs : List V) : Tree Out :=
  match b, ts, vs with
  | .append, ts, [d, s] => appendO P h nid ts d s
  | .len, t :: _, [x] => lenO P h t x
  | .min, _, x :: r => fold2 min2I x r
  | .max, _, x :: r => fold2 max2I x r
  | .delete, ts, vs => deleteO P h ts vs
  | _, _, _ => .fail

def convertO (P : Program) (h : Heap) (src dst : TypeId) : V → Tree Out
  | .c x => match P.underlying src, P.underlying dst with
    | some (.int _), some (.int k) => match asI x with
      | some (_, n, kn) => pureO (mkI k (k.wrap n) kn)
      | none => .fail
    | some .string, some .string => match x with
      | .str s => pureO (.str s)
      | _ => .fail
    | some (.slice e), some .string => match P.underlying e with
      | some (.int .u8) => match x with
        | .str _ => .fail
        | x => match srcOf h (.cons (.int .u8) .nil) x with
          | some l => pureO (.str (bytesOf l))
          | none => .fail
      | _ => .fail
    | _, _ => .fail
  | _ => .fail

/- calls: the callee's answer on the part of the heap that its arguments reach, numbered anew -/
inductive Res where
  | pure (v : V)
  | full (v : V) (m : Heap)
abbrev Spec := List V → List Obj → Tree Res

def idsC : C → List Nat
  | .ref id _ | .rw id _ _ | .sl id _ _ _ | .rref id _ _ | .mp id => [id]
  | .fn _ caps => caps.map (·.1)
  | _ => []
def idsO : Obj → List Nat
  | .box cs => cs.flatMap idsC
  | _ => []
def reach (h : Heap) : Nat → List Nat → List Nat → Option (List Nat)
  | 0, _, _ => none
  | _ + 1, [], seen => some seen
  | n + 1, id :: r, seen => if hasN seen id then reach h n r seen else match h.at? id with
    | some o => reach h n (idsO o ++ r) (seen ++ [id])
    | none => none
def posOf (id : Nat) : List Nat → Nat → Nat
  | [], n => n
  | x :: r, n => bif Nat.beq x id then n else posOf id r (n + 1)
def renC (g : Nat → Nat) : C → C
  | .ref id off => .ref (g id) off
  | .rw id sz k => .rw (g id) sz k
  | .sl id sz off len => .sl (g id) sz off len
  | .rref id e j => .rref (g id) e j
  | .mp id => .mp (g id)
  | .fn k caps => .fn k (caps.map fun x => (g x.1, x.2))
  | x => x
def renW (g : Nat → Nat) : W → W
  | .c x => .c (renC g x)
  | .agg cs => .agg (cs.map (renC g))
def renV (g : Nat → Nat) : V → V
  | .c x => .c (renC g x)
  | .agg cs => .agg (cs.map (renC g))
  | .tup vs => .tup (vs.map (renW g))
def renO (g : Nat → Nat) : Obj → Obj
  | .box cs => .box (cs.map (renC g))
  | .row cs l o => .row cs l o
  | .map ag cs es => .map ag cs es
def convV (h : Heap) : V → V
  | .c x => .c (convC h x)
  | .agg cs => .agg (cs.map (convC h))
  | v => v
/-- does a cell say nothing of memory? -/
def scalarC : C → Bool
  | .undef | .tt | .ff | .sb _ | .lit .. | .int .. | .str _ | .nilsl | .nilptr | .nilmap | .nilfn => true
  | _ => false
def scalarW : W → Bool
  | .c x => scalarC x
  | .agg cs => cs.all scalarC
def scalarV : V → Bool
  | .c x => scalarC x
  | .agg cs => cs.all scalarC
  | .tup vs => vs.all scalarW
def objsAt (h : Heap) (g : Nat → Nat) : List Nat → Option (List Obj)
  | [] => some []
  | id :: r => match h.at? id, objsAt h g r with
    | some o, some os => some (renO g o :: os)
    | _, _ => none
def backId (ids : List Nat) (nid j : Nat) : Nat := match ids[j]? with
  | some id => id
  | none => nid + (j - ids.length)
/-- the rows among slices -/
def rowIds (h : Heap) : List C → List Nat
  | [] => []
  | .rw id _ _ :: r | .sl id _ _ _ :: r => match h.at? id with
    | some (.row ..) => id :: rowIds h r
    | _ => rowIds h r
  | _ :: r => rowIds h r
def nodupB : List Nat → Bool
  | [] => true
  | x :: r => !hasN r x && nodupB r
def noTup : V → Bool
  | .tup _ => false
  | _ => true
def closedB (h : Heap) (ids : List Nat) : Bool := ids.all fun id => match h.at? id with
  | some o => (idsO o).all fun i => hasN ids i
  | none => false
def callO (h : Heap) (nid : Nat) (raw : Bool) (sp : Spec) (args : List V) : Tree Out :=
  let args1 := bif raw then args else args.map (convV h)
  let cs := args.flatMap V.cells
  let aids := args1.flatMap fun v => v.cells.flatMap idsC
  match reach h 64 aids [] with
  | none => .fail
  | some ids =>
    if (args.all noTup && nodupB ids && aids.all (fun i => hasN ids i) && closedB h ids && (raw || (rowIds h cs).all fun i => !hasN ids i)) = true then
      match objsAt h (fun id => posOf id ids 0) ids with
      | none => .fail
      | some m => (sp (args1.map (renV fun id => posOf id ids 0)) m).bind fun r =>
        match r with
        | .pure v => .leaf { v := renV (backId ids nid) v, upd := bif raw || scalarV v then [] else shutIds h cs }
        | .full v m' => if m.length ≤ m'.length then
            match (m'.drop m.length).mapM id with
            | some new => .leaf { v := renV (backId ids nid) v, upd := (bif raw then [] else shutIds h cs) ++ ids.zip ((m'.take m.length).map (·.map (renO (backId ids nid)))), new := new.map (renO (backId ids nid)) }
            | none => .fail
          else .fail
    else .fail

structure Env where
  spec : Nat → Option (Bool × Spec)

def callV (h : Heap) (nid : Nat) (E : Env) (f : V) (args : List V) : Tree Out :=
  match f with
  | .c (.fn k caps) => match E.spec k with
    | some (raw, sp) => callO h nid raw sp (args ++ caps.map fun x => .c (.ref x.1 x.2))
    | none => .fail
  | _ => .fail

def evOp (P : Program) (E : Env) (val : Operand → V) (h : Heap) (nid : Nat) : Go.Op → Tree Out
  | .move x | .assign x => .leaf { v := val x }
  | .pick c a b => match val c with
    | .c x => match asB x with
      | some (b', k) => test b' k (.leaf { v := val a }) (.leaf { v := val b })
      | none => .fail
    | _ => .fail
  | .alloc t => match zeroCs P t with
    | some z => if z.length = tsz P t then .leaf { v := .c (.ref nid 0), new := [.box z] } else .fail
    | none => .fail
  | .box _ x => if (val x).sane = true then .leaf { v := .c (.ref nid 0), new := [.box (val x).cells] } else .fail
  | .build t ps => buildO P t (ps.toList.map fun p => (p.1, val p.2))
  | .buildSlice t n ps => buildSliceO P h nid t n (ps.toList.map fun p => (p.1, val p.2))
  | .load t a => loadO P h t (val a)
  | .store t a x => storeO P h t (val a) (val x)
  | .nilCheck x => match val x with
    | .c (.ref id off) => pureO (.ref id off)
    | .c (.rref id e j) => pureO (.rref id e j)
    | .c (.lref cs l e j) => pureO (.lref cs l e j)
    | .c (.fn k c) => pureO (.fn k c)
    | _ => .fail
  | .binOp op t x y _ => binO P op t (val x) (val y)
  | .unOp op _ x => unO op (val x)
  | .convert s d x => convertO P h s d (val x)
  | .makeFunc fn first caps => match fn with
    | .func k => if first.isEmpty then match (caps.toList.mapM fun c => match val c with
      | .c (.ref id off) => some (id, off)
      | _ => none) with
      | some cs => pureO (.fn k cs)
      | none => .fail
      else .fail
    | _ => .fail
  | .makeMap t r => match keyed P t, r with
    | some e, none => match shs P e with
      | some cs => .leaf { v := .c (.mp nid), new := [.map (aggT P e) cs []] }
      | none => .fail
    | _, _ => .fail
  | .makeSlice t l c => makeSliceO P nid t (val l) (val c)
  | .slice t x lo hi mx => match mx with
    | none => sliceO P h t (lo.map val) (hi.map val) (val x)
    | some _ => .fail
  | .fieldAddr t x f => fieldAddrO P t f (val x)
  | .field t x f => fieldO P t f (val x)
  | .indexAddr t x i => indexAddrO P h t (val x) (val i)
  | .index t x i => indexO P t (val x) (val i)
  | .lookup t m k ok => lookupO P h t ok (val m) (val k)
  | .mapUpdate t m k v => mapUpdateO P h t (val m) (val k) (val v)
  | .extract x i => match val x with
    | .tup vs => match vs[i]? with
      | some w => .leaf { v := w.toV }
      | none => .fail
    | _ => .fail
  | .call c => match c.callee with
    | .value f => callV h nid E (val f) (c.args.toList.map val)
    | .builtin b => builtinO P h nid b c.argTypes.toList (c.args.toList.map val)
    | .invoke .. => .fail
  | _ => .fail

/-- which objects an operation looks at or turns -/
def touchOf (h : Heap) (val : Operand → V) (op : Go.Op) : Option (List Nat) :=
  let direct := (op.operands.toList.flatMap fun x => (val x).cells.flatMap idsC)
  match op with
  | .move _ | .assign _ | .pick .. | .alloc _ | .box .. | .build .. | .nilCheck _ | .binOp .. | .unOp .. | .makeFunc .. | .makeMap .. | .makeSlice .. | .fieldAddr .. | .field .. | .extract .. => some []
  | .load .. | .convert .. | .slice .. | .indexAddr .. | .index .. | .lookup .. | .store .. | .mapUpdate .. | .buildSlice .. => some direct
  | .call { callee := .builtin _, .. } => some direct
  | .call _ => reach h 64 direct []
  | _ => none
def maskH (τ : List Nat) (h : Heap) : Heap := h.zipIdx.map fun p => bif hasN τ p.2 then p.1 else none

/-- what an operation did: the objects that it looked at or turned, the new ones among them; did it turn any? -/
structure Rec where
  touch : List Nat
  writes : Bool
  looks : List Nat
  dst : Option Nat

def setAll (h : Heap) : List (Nat × Option Obj) → Heap
  | [] => h
  | (id, o) :: r => setAll (h.set id o) r
def St.put (s : St) (dst : Option Nat) (out : Out) : St :=
  { tm := match dst with
      | some d => tset s.tm d out.v
      | none => s.tm
    hp := setAll s.hp out.upd ++ out.new.map some }
def opTmps (op : Go.Op) : List Nat := op.operands.toList.filterMap fun x => match x with
  | .tmp t => some t
  | _ => none

def updIn (h : Heap) (out : Out) : Bool := out.upd.all fun p => decide (p.1 < h.length)
def evExec (P : Program) (E : Env) (o : Oper) (s : St) : Tree St :=
  (evOp P E (valOf s.tm) s.hp s.hp.length o.op).bind fun out => bif updIn s.hp out then .leaf (s.put o.dst out) else .fail
def evSkip (o : Oper) (s : St) : St := s.put o.dst { v := .c .undef }
def guardTmp (all : List Oper) (j : Nat) : Option Nat := (all[j]?).bind (·.dst)

/-- an operation that a truth value lets, or not: where the value is not known, by cases -/
def onGuard {α : Type} (all : List Oper) (o : Oper) (s : St) (go skip : List Nat → St → Tree α) : Tree α :=
  match o.guard with
  | none => go [] s
  | some (j, want) => match guardTmp all j with
    | none => .fail
    | some g => match tget s.tm g with
      | .c .tt => bif want then go [g] s else skip [g] s
      | .c .ff => bif want then skip [g] s else go [g] s
      | .c (.sb b) =>
        .node b (bif want then go [g] { s with tm := tset s.tm g (.c .tt) } else skip [g] { s with tm := tset s.tm g (.c .tt) })
          (bif want then skip [g] { s with tm := tset s.tm g (.c .ff) } else go [g] { s with tm := tset s.tm g (.c .ff) })
      | .c .undef => skip [g] s
      | _ => .fail

/-- a region's operations, one behind the other -/
def evOps (P : Program) (E : Env) (all : List Oper) : List Oper → St → Tree St
  | [], s => .leaf s
  | o :: r, s => onGuard all o s (fun _ s => (evExec P E o s).bind (evOps P E all r)) (fun _ s => evOps P E all r (evSkip o s))

/-- the operands of an operation alone -/
def maskV (ts : List Nat) (tm : List (Nat × V)) : Operand → V
  | .tmp t => bif hasN ts t then tget tm t else .c .any
  | x => valOf tm x

/- a region that draws its order: each operation on the objects that it touches alone, and what it did is noted -/
def evExecD (P : Program) (E : Env) (o : Oper) (g : List Nat) (s : St) : Tree (St × Rec) :=
  match touchOf s.hp (valOf s.tm) o.op with
  | none => .fail
  | some τ => (evOp P E (maskV (opTmps o.op) s.tm) (maskH τ s.hp) s.hp.length o.op).bind fun out =>
      bif updIn s.hp out && out.upd.all (fun p => hasN τ p.1) then
        .leaf (s.put o.dst out, { touch := τ ++ (List.range out.new.length).map (s.hp.length + ·), writes := !(out.upd.isEmpty && out.new.isEmpty), looks := opTmps o.op ++ g, dst := o.dst })
      else .fail
def evOpsD (P : Program) (E : Env) (all : List Oper) : List Oper → St → Tree (St × List Rec)
  | [], s => .leaf (s, [])
  | o :: r, s => onGuard all o s
    (fun g s => (evExecD P E o g s).bind fun x => (evOpsD P E all r x.1).bind fun y => .leaf (y.1, x.2 :: y.2))
    (fun g s => (evOpsD P E all r (evSkip o s)).bind fun y => .leaf (y.1, { touch := [], writes := false, looks := g, dst := o.dst } :: y.2))

/-- ahead of each operation: those that must come before it, as bits. -/
def aheadOf (acc : List Nat) : List Edge → Nat
  | [] => 0
  | e :: r => bif Region.binds .any e then Nat.lor (2 ^ e.on) (Nat.lor (acc.getD e.on 0) (aheadOf acc r)) else aheadOf acc r
def aheads : List Oper → List Nat → List Nat
  | [], acc => acc
  | o :: r, acc => aheads r (acc ++ [aheadOf acc o.after.toList])
/-- do all edges lead back? -/
def edgesOk : List Oper → Nat → Bool
  | [], _ => true
  | o :: r, i => o.after.toList.all (fun e => !Region.binds .any e || decide (e.on < i)) && edgesOk r (i + 1)
def Rec.clash (a b : Rec) : Bool :=
  ((a.writes || b.writes) && a.touch.any (hasN b.touch)) ||
  (match a.dst with
   | some d => hasN b.looks d || b.dst == some d
   | none => false) ||
  (match b.dst with
   | some d => hasN a.looks d
   | none => false)
def orderedAt (ah : List Nat) (p : Rec) (i : Nat) : List Rec → Nat → Bool
  | [], _ => true
  | q :: r, j => ((ah.getD j 0).testBit i || !p.clash q) && orderedAt ah p i r (j + 1)
def ordered (ah : List Nat) : List Rec → Nat → Bool
  | [], _ => true
  | p :: r, i => orderedAt ah p i r (i + 1) && ordered ah r (i + 1)

def filterT (q : Nat → Bool) (l : List (Nat × V)) : List (Nat × V) := List.rec [] (fun p _ ih => cond (q p.1) (p :: ih) ih) l
def keepSt (keep : Nat) (s : St) : St := { s with tm := filterT (bitOf keep) s.tm }

def evRegion (P : Program) (E : Env) (ops : Array Oper) (draw : Bool) (s : St) : Tree St :=
  bif draw then (evOpsD P E ops.toList ops.toList s).bind fun x => bif edgesOk ops.toList 0 && ordered (aheads ops.toList []) x.2 0 then .leaf x.1 else .fail
  else evOps P E ops.toList ops.toList s

/- what is known, put into plain form -/
def forceN {α : Type} (n : Nat) (k : Nat → α) : α := match n with
  | 0 => k 0
  | m + 1 => k (m + 1)
def forceI {α : Type} (n : Int) (k : Int → α) : α := match n with
  | .ofNat m => forceN m fun m => k (.ofNat m)
  | .negSucc m => forceN m fun m => k (.negSucc m)
def forceC {α : Type} (x : C) (k : C → α) : α := match x with
  | .lit j n => forceI n fun n => k (.lit j n)
  | .ref id off => forceN id fun id => forceN off fun off => k (.ref id off)
  | .rw id sz kn => forceN id fun id => k (.rw id sz kn)
  | .mp id => forceN id fun id => k (.mp id)
  | x => k x
def forceL {α β : Type} (f : β → (β → α) → α) (l : List β) : (List β → α) → α := List.rec (fun k => k []) (fun x _ ih k => f x fun x => ih fun r => k (x :: r)) l
def forceV {α : Type} (v : V) (k : V → α) : α := match v with
  | .c x => forceC x fun x => k (.c x)
  | .agg cs => forceL forceC cs fun cs => k (.agg cs)
  | v => k v
def forceO {α : Type} (o : Option Obj) (k : Option Obj → α) : α := match o with
  | some (.box cs) => forceL forceC cs fun cs => k (some (.box cs))
  | o => k o
def forceP {α : Type} (p : Nat × V) (k : Nat × V → α) : α := forceN p.1 fun n => forceV p.2 fun v => k (n, v)
def forceSt {α : Type} (s : St) (k : St → α) : α := forceL forceP s.tm fun tm => forceL forceO s.hp fun hp => k { tm := tm, hp := hp }

inductive Ex where
  | norm | exit (id : Nat) | ret
  deriving DecidableEq

def iter {α : Type} (step : α → Tree (Ex × α)) : Nat → α → Tree (Ex × α)
  | 0, _ => .fail
  | n + 1, s => (step s).bind fun x => match x.1 with
    | .norm => iter step n x.2
    | e => .leaf (e, x.2)

/- what is made of a state behind a region -/
def looseC : C → C
  | .lit k n => .int k n
  | .tt => .sb true
  | .ff => .sb false
  | .rw id sz _ => .rw id sz false
  | x => x
def looseW : W → W
  | .c x => .c (looseC x)
  | .agg cs => .agg (cs.map looseC)
def looseV : V → V
  | .c x => .c (looseC x)
  | .agg cs => .agg (cs.map looseC)
  | .tup vs => .tup (vs.map looseW)
def looseO : Obj → Obj
  | .box cs => .box (cs.map looseC)
  | o => o
def idsW : W → List Nat
  | .c x => idsC x
  | .agg cs => cs.flatMap idsC
def idsV : V → List Nat
  | .c x => idsC x
  | .agg cs => cs.flatMap idsC
  | .tup vs => vs.flatMap idsW
/-- a value that names what is there no longer says nothing -/
def liveV (h : Heap) (v : V) : V := bif (idsV v).all (fun i => (h.at? i).isSome) then v else .c .any
/-- what is still named, numbered anew: behind the first ones, which stay -/
def gcSt (base : Nat) (h : Heap) (tm : List (Nat × V)) (s : St) : St :=
  match reach h 256 (tm.flatMap (fun p => idsV p.2) ++ (List.range base).flatMap fun i => match h.at? i with
    | some o => idsO o
    | none => []) (List.range base) with
  | none => s
  | some L => bif nodupB L && closedB h L && tm.all (fun p => (idsV p.2).all (hasN L)) && (List.range base).all (fun j => match L[j]? with
      | some q => Nat.beq q j
      | none => false) then match objsAt h (fun id => posOf id L 0) L with
      | some m => { tm := tm.map fun p => (p.1, renV (fun id => posOf id L 0) p.2), hp := m.map some }
      | none => s
    else s
inductive Nrm where
  /-- a temporary's number is supposed to be this one -/
  | fix (t : Nat) (r : St → Int)
  /-- nothing is held for known -/
  | loose
  | gc
  /-- only these temporaries stay -/
  | keep (m : Nat)
  /-- a temporary that is nil is a row of no elements; so a box's cell -/
  | row (t : Nat) (cs : Shs)
  | rowb (id off : Nat) (cs : Shs)
def nrm1 (base : Nat) (s : St) : Nrm → Tree St
  | .fix t r => match tget s.tm t with
    | .c (.int k e) => .hyp (decide (e = r s)) (.leaf { s with tm := tset s.tm t (.c (.lit k (r s))) })
    | _ => .leaf s
  | .loose => .leaf { tm := s.tm.map fun p => (p.1, looseV p.2), hp := s.hp.map fun o => o.map looseO }
  | .keep m => .leaf (keepSt m s)
  | .gc => .leaf (gcSt base s.hp (s.tm.map fun p => (p.1, liveV s.hp p.2)) s)
  | .row t cs => match tget s.tm t with
    | .c .nilsl => .leaf { tm := tset s.tm t (.c (.rw s.hp.length cs.len false)), hp := s.hp ++ [some (.row cs [] .own)] }
    | _ => .leaf s
  | .rowb id off cs => match s.hp.at? id with
    | some (.box c) => match c[off]? with
      | some .nilsl => .leaf { s with hp := s.hp.set id (some (.box (c.set off (.rw s.hp.length cs.len false)))) ++ [some (.row cs [] .own)] }
      | _ => .leaf s
    | _ => .leaf s
def nrmAll (base id : Nat) : List (Nat × Nrm) → St → Tree St
  | [], s => .leaf s
  | (i, x) :: l, s => bif Nat.beq i id then (nrm1 base s x).bind (nrmAll base id l) else nrmAll base id l s

/- branches of a region made one again -/
def eqNat2 (a b c d : Nat) : Bool := Nat.beq a b && Nat.beq c d
def eqCaps : List (Nat × Nat) → List (Nat × Nat) → Bool
  | [], [] => true
  | x :: r, y :: q => eqNat2 x.1 y.1 x.2 y.2 && eqCaps r q
  | _, _ => false
def joinB (b : Bool) (x y : Bool × Bool) : C := bif x.2 && y.2 && (x.1 == y.1) then mkB x.1 true else .sb (bif b then x.1 else y.1)
def joinI (b : Bool) (x y : IntKind × Int × Bool) : C := if x.1 = y.1 then (bif x.2.2 && y.2.2 then (if x.2.1 = y.2.1 then .lit x.1 x.2.1 else .int x.1 (bif b then x.2.1 else y.2.1)) else .int x.1 (bif b then x.2.1 else y.2.1)) else .any
def joinL (b : Bool) (cs : Shs) (l : List (Tup cs)) (cs' : Shs) (l' : List (Tup cs')) : C := match castL cs' cs l' with
  | some l' => .lst cs (bif b then l else l')
  | none => .any
def joinC1 (b : Bool) (x : C) : C → C := match x with
  | .str s => fun y => match y with
    | .str t => .str (bif b then s else t)
    | _ => .any
  | .lst cs l => fun y => match y with
    | .lst cs' l' => joinL b cs l cs' l'
    | .nilsl => .lst cs (bif b then l else [])
    | _ => .any
  | .nilsl => fun y => match y with
    | .nilsl => .nilsl
    | .lst cs l => .lst cs (bif b then [] else l)
    | _ => .any
  | .nilptr => fun y => match y with
    | .nilptr => .nilptr
    | _ => .any
  | .nilmap => fun y => match y with
    | .nilmap => .nilmap
    | _ => .any
  | .nilfn => fun y => match y with
    | .nilfn => .nilfn
    | _ => .any
  | .ref id off => fun y => match y with
    | .ref id' off' => bif eqNat2 id id' off off' then .ref id off else .any
    | _ => .any
  | .rw id sz k => fun y => match y with
    | .rw id' sz' k' => bif eqNat2 id id' sz sz' then .rw id sz (k && k') else .any
    | _ => .any
  | .mp id => fun y => match y with
    | .mp id' => bif Nat.beq id id' then .mp id else .any
    | _ => .any
  | .fn k caps => fun y => match y with
    | .fn k' caps' => bif Nat.beq k k' && eqCaps caps caps' then .fn k caps else .any
    | _ => .any
  | _ => fun _ => .any
def joinC (b : Bool) (x y : C) : C := match asB x, asB y with
  | some p, some q => joinB b p q
  | _, _ => match asI x, asI y with
    | some p, some q => joinI b p q
    | _, _ => joinC1 b x y
def joinCs (b : Bool) : List C → List C → List C
  | x :: r, y :: q => joinC b x y :: joinCs b r q
  | _, _ => []
def sameLen : List C → List C → Bool
  | [], [] => true
  | _ :: r, _ :: q => sameLen r q
  | _, _ => false
def joinV (b : Bool) (x y : V) : V := match x with
  | .c x => match y with
    | .c y => .c (joinC b x y)
    | _ => .c .any
  | .agg xs => match y with
    | .agg ys => bif sameLen xs ys then .agg (joinCs b xs ys) else .c .any
    | _ => .c .any
  | .tup _ => .c .any
def eqOwn : Own → Own → Bool
  | .own, .own => true
  | .imm, .imm => true
  | _, _ => false
def joinO (b : Bool) (x y : Option Obj) : Option Obj := match x with
  | some (.box xs) => match y with
    | some (.box ys) => bif sameLen xs ys then some (.box (joinCs b xs ys)) else none
    | _ => none
  | some (.row cs l o) => match y with
    | some (.row cs' l' o') => bif eqOwn o o' then (match castL cs' cs l' with
      | some l' => some (.row cs (bif b then l else l') o)
      | none => none) else none
    | _ => none
  | some (.map ag cs es) => match y with
    | some (.map ag' cs' es') => if ag = ag' then (if h : cs' = cs then some (.map ag cs (bif b then es else h ▸ es')) else none) else none
    | _ => none
  | none => none
def joinH (b : Bool) : Heap → Heap → Heap
  | x :: r, y :: q => joinO b x y :: joinH b r q
  | [], q => q.map fun _ => none
  | r, [] => r.map fun _ => none
def joinSt (q b : Bool) (ds : List Nat) (s1 s2 : St) : St :=
  { tm := s1.tm.map fun p => (p.1, bif hasN ds p.1 then joinV b p.2 (tget s2.tm p.1) else p.2), hp := bif q then s1.hp else joinH b s1.hp s2.hp }
/-- all branches that do not fail as one; the truth that it needs -/
def joinT (q : Bool) (ds : List Nat) : Tree St → Option (Option (Option Bool × St))
  | .leaf s => some (some (none, s))
  | .fail => some none
  | .hyp _ _ => none
  | .node b t f => match joinT q ds t, joinT q ds f with
    | some none, some none => some none
    | some none, some (some (c, s)) => some (some (some (match c with
      | none => !b
      | some c => !b && c), s))
    | some (some (c, s)), some none => some (some (some (match c with
      | none => b
      | some c => b && c), s))
    | some (some (c1, s1)), some (some (c2, s2)) => some (some (match c1, c2 with
      | none, none => none
      | some c1, none => some (!b || c1)
      | none, some c2 => some (b || c2)
      | some c1, some c2 => some (bif b then c1 else c2), joinSt q b ds s1 s2))
    | _, _ => none
def joined (q : Bool) (ds : List Nat) (t : Tree St) : Tree St := match joinT q ds t with
  | none => t
  | some none => .fail
  | some (some (none, s)) => .leaf s
  | some (some (some c, s)) => .node c (.leaf s) .fail
def dstsOf (ops : Array Oper) : List Nat := ops.toList.filterMap (·.dst)
/-- operations that turn no object and make none -/
def quietOp : Go.Op → Bool
  | .move _ | .assign _ | .pick .. | .load .. | .nilCheck _ | .binOp .. | .unOp .. | .convert .. | .fieldAddr .. | .field .. | .indexAddr .. | .index .. | .lookup .. | .extract .. | .slice .. | .makeFunc .. => true
  | .call c => match c.callee with
    | .builtin .len => true
    | _ => false
  | _ => false
def quietOps (ops : Array Oper) : Bool := ops.toList.all fun o => quietOp o.op

structure Ctx where
  P : Program
  E : Env
  keep : Nat
  lp : Nat → St → Option (Tree (Ex × St))
  fuel : Nat
  /-- what is made of the state behind a region -/
  fix : List (Nat × Nrm)
  /-- so many objects are the caller's -/
  base : Nat
  /-- the regions whose branches are made one again, as bits -/
  join : Nat
def Ctx.at (X : Ctx) (n : Nat) : Ctx := { X with base := n }

def evCode (X : Ctx) : Code → St → Tree (Ex × St)
  | .skip, s => .leaf (.norm, s)
  | .region id ops draw, s => ((bif bitOf X.join id then joined (quietOps ops) (dstsOf ops) ((evRegion X.P X.E ops draw s).bind fun s' => .leaf (keepSt X.keep s')) else (evRegion X.P X.E ops draw s).bind fun s' => .leaf (keepSt X.keep s')).bind fun s' => nrmAll X.base id X.fix s').bind fun s' => forceSt s' fun s' => .leaf (.norm, s')
  | .seq a b, s => (evCode X a s).bind fun x => match x.1 with
    | .norm => evCode X b x.2
    | e => .leaf (e, x.2)
  | .cond c a b, s => match valOf s.tm c with
    | .c .tt => evCode X a s
    | .c .ff => evCode X b s
    | .c (.sb t) => .node t (evCode X a s) (evCode X b s)
    | _ => .fail
  | .block id body, s => match X.lp id s with
    | some t => t
    | none => (evCode X body s).bind fun x => match x.1 with
      | .exit id' => .leaf (bif Nat.beq id' id then (.norm, x.2) else x)
      | _ => .leaf x
  | .loop body, s => iter (evCode X body) X.fuel s
  | .exit id, s => .leaf (.exit id, s)
  | .ret, s => .leaf (.ret, s)
  | _, _ => .fail

def resW (P : Program) (s : St) : List ResultVar → Option (List V)
  | [] => some []
  | .tmp t :: r => (resW P s r).map (tget s.tm t :: ·)
  | .cell a t :: r => match tget s.tm a with
    | .c (.ref id off) => match (loadO P s.hp t (.c (.ref id off))).run with
      | some out => (resW P s r).map (out.v :: ·)
      | none => none
    | _ => none
def resV (P : Program) (s : St) (rs : List ResultVar) : Option V :=
  match resW P s rs with
  | some [v] => some v
  | some vs => (vs.mapM V.toW).map V.tup
  | none => none

/-- do all operations name temporaries of the frame? -/
def dstOk (n : Nat) (o : Oper) : Bool := match o.dst with
  | some d => decide (d < n)
  | none => true
def codeOk (n : Nat) : Code → Bool
  | .region _ ops _ => ops.toList.all (dstOk n)
  | .seq a b => codeOk n a && codeOk n b
  | .cond _ a b => codeOk n a && codeOk n b
  | .block _ b => codeOk n b
  | .loop b => codeOk n b
  | .skip | .exit _ | .ret => true
  | _ => false

def initTm : Nat → List V → List (Nat × V)
  | _, [] => []
  | n, v :: r => (n, v) :: initTm (n + 1) r

def endV (P : Program) (rs : List ResultVar) (x : Ex × St) : Tree (V × Heap) := match x.1 with
  | .exit _ => .fail
  | _ => match resV P x.2 rs with
    | some v => .leaf (v, x.2.hp)
    | none => .fail
def evFn (X : Ctx) (fn : Func) (body : Code) (args : List V) (m : Heap) : Tree (V × Heap) :=
  (evCode (X.at m.length) body { tm := initTm 0 args, hp := m }).bind (endV X.P fn.results.toList)

end
end Go.Eng
