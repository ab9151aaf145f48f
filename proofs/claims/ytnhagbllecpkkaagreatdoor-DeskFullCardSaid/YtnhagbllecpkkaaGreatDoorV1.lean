/-
  The abstract machine: VaDef, VaRel, VaChk, VaDesk, VaOpsA, VaOpsB, VaOpsC, VaOpsD, VaMem, VaMem2.
-/
import Derived.Below
import Derived.Orders
import Derived.RangeFuncWrites
import Derived.RangeFuncLeaves
import Derived.RangeFuncCalls
import Derived.WalkKit
import Derived.Laws.StructEq
import Derived.Laws.Tables
import Derived.Laws.CopyRow
import Derived.Laws.NewBlocks
import Derived.Great.BuildSlice
import Derived.Deep.AppendSrc
set_option linter.unusedSimpArgs false
set_option linter.unusedVariables false
/-
  An abstract interpreter over the program's code: pure values, slices by value, few mutable blocks. Definitions only.
-/
namespace Go.VA
open Go

inductive Cap where | unk | exact | own
  deriving DecidableEq, Repr, Inhabited

structure Id where
  fr : Nat
  st : List Nat
  deriving DecidableEq, Repr, Inhabited

inductive AV where
  | undef
  | bool (b : Bool)
  | int (k : IntKind) (n : Int)
  | str (l : List UInt8)
  | nilp | nils | nili | nilf
  | agg (l : List AV)
  | tup (l : List AV)
  | slc (sz : Nat) (l : List AV) (c : Cap)
  | rptr (l : List AV)
  | ptr (id : Id) (off : Nat)
  | mslc (id : Id) (sz off len : Nat)
  | iface (t : TypeId) (v : AV)
  | fn (f : FuncId) (caps : List AV)
  | map (kv : List AV)
  deriving Inhabited

namespace AV
mutual
def beq : AV → AV → Bool
  | .undef, .undef => true
  | .bool a, .bool b => a == b
  | .int k n, .int k' n' => k == k' && n == n'
  | .str l, .str l' => l == l'
  | .nilp, .nilp => true
  | .nils, .nils => true
  | .nili, .nili => true
  | .nilf, .nilf => true
  | .agg l, .agg l' => beqs l l'
  | .tup l, .tup l' => beqs l l'
  | .slc s l c, .slc s' l' c' => s == s' && beqs l l' && c == c'
  | .rptr l, .rptr l' => beqs l l'
  | .ptr i o, .ptr i' o' => i == i' && o == o'
  | .mslc i s o n, .mslc i' s' o' n' => i == i' && s == s' && o == o' && n == n'
  | .iface t v, .iface t' v' => t == t' && beq v v'
  | .fn f c, .fn f' c' => f == f' && beqs c c'
  | .map l, .map l' => beqs l l'
  | _, _ => false
def beqs : List AV → List AV → Bool
  | [], [] => true
  | a :: l, b :: m => beq a b && beqs l m
  | _, _ => false
end

mutual
theorem eq_of_beq : ∀ (a b : AV), beq a b = true → a = b
  | a, b, h => by
    cases a <;> cases b <;> simp only [beq, Bool.and_eq_true, beq_iff_eq, Bool.false_eq_true] at h <;> first
      | rfl
      | (cases h; rfl)
      | (obtain ⟨h1, h2⟩ := h; subst h1; first | (subst h2; rfl) | rw [eqs_of_beqs _ _ h2] | rw [eq_of_beq _ _ h2])
      | (obtain ⟨⟨h1, h2⟩, h3⟩ := h; subst h1; subst h3; rw [eqs_of_beqs _ _ h2])
      | (obtain ⟨⟨⟨h1, h2⟩, h3⟩, h4⟩ := h; subst h1; subst h2; subst h3; subst h4; rfl)
      | rw [eqs_of_beqs _ _ h]
theorem eqs_of_beqs : ∀ (a b : List AV), beqs a b = true → a = b
  | [], [], _ => rfl
  | [], _ :: _, h => by simp [beqs] at h
  | _ :: _, [], h => by simp [beqs] at h
  | a :: l, b :: m, h => by
    simp only [beqs, Bool.and_eq_true] at h
    rw [eq_of_beq a b h.1, eqs_of_beqs l m h.2]
end

mutual
theorem beq_self : ∀ (a : AV), beq a a = true
  | .undef | .nilp | .nils | .nili | .nilf => rfl
  | .bool _ | .int _ _ | .str _ | .ptr _ _ | .mslc _ _ _ _ => by simp [beq]
  | .agg l | .tup l | .rptr l | .map l => by simp [beq, beqs_self l]
  | .slc _ l _ | .fn _ l => by simp [beq, beqs_self l]
  | .iface _ v => by simp [beq, beq_self v]
theorem beqs_self : ∀ (l : List AV), beqs l l = true
  | [] => rfl
  | a :: l => by simp [beqs, beq_self a, beqs_self l]
end

instance : DecidableEq AV := fun a b =>
  if h : beq a b = true then .isTrue (eq_of_beq a b h) else .isFalse fun e => h (by subst e; exact beq_self a)

/-- The cells of a value. -/
def cells : AV → List AV
  | .agg l => l
  | v => [v]

/-- A value without the right to append in place. -/
def strip : AV → AV
  | .slc s l .own => .slc s l .unk
  | v => v

/-- No reference to mutable memory, no right to append in place. -/
def pure : AV → Bool
  | .undef | .bool _ | .int _ _ | .str _ | .nilp | .nils | .nili | .nilf | .rptr _ | .map _ => true
  | .slc _ _ c => c != .own
  | .agg l => pures l
  | .tup l => pures l
  | .iface _ v => pure v
  | .fn _ l => pures l
  | .ptr _ _ | .mslc _ _ _ _ => false
where pures : List AV → Bool
  | [] => true
  | v :: l => pure v && pures l

/-- The value of one cell. -/
def one : AV → Bool
  | .undef | .agg _ | .tup _ => false
  | _ => true

/-- Is it a value at all? -/
def defd : AV → Bool
  | .undef => false
  | _ => true

/-- May this be a slice's element of so many cells? -/
def okElem (sz : Nat) (v : AV) : Bool := v.cells.length == sz && v.cells.all fun u => u.pure && u.one

/-- All references to mutable memory are to frames below n. -/
def under (n : Nat) : AV → Bool
  | .ptr i _ => i.fr < n
  | .mslc i _ _ _ => i.fr < n
  | .agg l => unders l
  | .tup l => unders l
  | .iface _ v => under n v
  | .fn _ l => unders l
  | _ => true
where unders : List AV → Bool
  | [] => true
  | v :: l => under n v && unders l

/-- There is a reference to this block. -/
def has (i : Id) : AV → Bool
  | .ptr j _ => i == j
  | .mslc j _ _ _ => i == j
  | .agg l => hass l
  | .tup l => hass l
  | .iface _ v => has i v
  | .fn _ l => hass l
  | _ => false
where hass : List AV → Bool
  | [] => false
  | v :: l => has i v || hass l

/-- Blocks of frame n become blocks of the frame below it, under j. -/
def renId (n j : Nat) (i : Id) : Id := if i.fr = n then ⟨n - 1, j :: i.st⟩ else i
def ren (n j : Nat) : AV → AV
  | .ptr i o => .ptr (renId n j i) o
  | .mslc i s o l => .mslc (renId n j i) s o l
  | .agg l => .agg (rens n j l)
  | .tup l => .tup (rens n j l)
  | .iface t v => .iface t (ren n j v)
  | .fn f l => .fn f (rens n j l)
  | v => v
where rens (n j : Nat) : List AV → List AV
  | [] => []
  | v :: l => ren n j v :: rens n j l

end AV

/-- One frame's blocks, by the place that made them. -/
abbrev Fr := List (List Nat × List AV)
abbrev Mem := List Fr

def Fr.get : Fr → List Nat → Option (List AV)
  | [], _ => none
  | (k, c) :: r, s => if s = k then some c else Fr.get r s
def Fr.set : Fr → List Nat → List AV → Fr
  | [], _, _ => []
  | (k, c) :: r, s, c' => if s = k then (k, c') :: r else (k, c) :: Fr.set r s c'

def Mem.get : Mem → Id → Option (List AV)
  | [], _ => none
  | f :: r, i => if i.fr = r.length then f.get i.st else Mem.get r i
def Mem.set : Mem → Id → List AV → Mem
  | [], _, _ => []
  | f :: r, i, c => if i.fr = r.length then f.set i.st c :: r else f :: Mem.set r i c
/-- The number of the uppermost frame. -/
def Mem.top (m : Mem) : Nat := m.length - 1
def Mem.new : Mem → List Nat → List AV → Option Mem
  | [], _, _ => none
  | f :: r, s, c => match f.get s with
    | some _ => none
    | none => some (((s, c) :: f) :: r)

/-- Cells written over, from a place on. -/
def over (c : List AV) (off : Nat) (x : List AV) : List AV := c.take off ++ x ++ c.drop (off + x.length)

inductive Opd where
  | tmp (t : Nat)
  | av (v : AV)
  deriving Inhabited

inductive SKind where
  | str
  | slc (sz : Nat)
  | arr (len sz : Nat)
  deriving Inhabited

inductive CKind where
  | int (k : IntKind)
  | same
  | toBytes
  | toStr
  deriving Inhabited

/-- The kind of a plain comparable cell. -/
inductive LK where
  | b | i | s
  deriving DecidableEq, Inhabited

inductive EKind where
  | bool | ptr | slc | iface | func | agg (ks : List LK)
  deriving DecidableEq, Inhabited

/-- Keys' last numbers from here on tell a block's type. -/
def typMark : Nat := 1152921504606846976

inductive AOp where
  | mv (x : Opd)
  | pick (c a b : Opd)
  | alloc (zero : List AV)
  /-- .. the block's type is remembered -/
  | allocT (t : TypeId) (zero : List AV)
  | box (imm : Bool) (x : Opd)
  | build (zero : List AV) (parts : List (Nat × Nat × Opd))
  | bslice (imm : Bool) (sz n : Nat) (zero : List AV) (parts : List (Nat × Opd))
  | load (agg take : Bool) (n : Nat) (a : Opd)
  | store (n : Nat) (a x : Opd)
  | nilchk (x : Opd)
  | bin (op : BinOp) (x y : Opd)
  | eq (k : EKind) (neg : Bool) (x y : Opd)
  | un (op : UnOp) (x : Opd)
  | conv (c : CKind) (x : Opd)
  | mkif (t : TypeId) (x : Opd)
  | mkfn (f : FuncId) (caps : List Opd)
  | mkslc (imm : Bool) (sz bytes : Nat) (zero : List AV) (n c : Opd)
  | slice (k : SKind) (x : Opd) (lo hi mx : Option Opd)
  | faddr (off : Nat) (x : Opd)
  | field (agg : Bool) (off n : Nat) (x : Opd)
  | iaddr (arr : Option Nat) (sz : Nat) (x i : Opd)
  | ixarr (agg : Bool) (len sz : Nat) (x i : Opd)
  | ixstr (x i : Opd)
  | lookup (zero : AV) (ok : Bool) (x i : Opd)
  | tassert (t : TypeId) (ok : Bool) (zero : AV) (x : Opd)
  | extract (x : Opd) (i : Nat)
  | call (f : Opd) (args : List Opd)
  | invoke (m : String) (x : Opd) (args : List Opd)
  | len (str : Bool) (x : Opd)
  | append (sz bytes : Nat) (x y : Opd)
  | min2 (x y : Opd)
  | max2 (x y : Opd)
  deriving Inhabited

structure AOper where
  dst : Option Nat
  op : AOp
  guard : Option (Nat × Bool) := none
  /-- temporaries whose right to append moves on -/
  take : List Nat := []
  /-- in a statement whose order is open: loads and stores ahead in the text that are held apart from this one as it runs -/
  apart : List Nat := []
  deriving Inhabited

inductive ACode where
  | skip
  | reg (draw : Bool) (ops : List AOper)
  | seq (a b : ACode)
  | cond (c : Opd) (a b : ACode)
  | block (id : Nat) (c : ACode)
  | loop (c : ACode)
  | exit (id : Nat)
  | ret
  /-- before c: all temporaries but these are forgotten; these blocks are let go -/
  | cut (keep : List Nat) (drop : List (List Nat)) (c : ACode)
  /-- a region (pre, t0 := f(x), t := t0: a copy in memory of its own), then one that writes two cells of t's element i; then c -/
  | cset (pre : List AOper) (f : FuncId) (x : Opd) (t0 t sz : Nat) (i : Opd) (o1 : Nat) (v1 : Opd) (o2 : Nat) (v2 : Opd) (ds : List Nat) (c : ACode)
  /-- a region (pre, then t := f(args): a call that makes an iterator), then, in block b, the range over what t holds -/
  | rangeI (b : Nat) (pre : List AOper) (f : FuncId) (args : List Opd) (t : Nat) (ps : List Nat) (asg body : ACode)
  deriving Inhabited

inductive ARes where
  | tmp (t : Nat)
  | cell (agg : Bool) (n : Nat) (t : Nat)
  deriving Inhabited

structure AFunc where
  ntmps : Nat
  body : ACode
  results : List ARes
  esc : Bool := false
  deriving Inhabited

inductive Ex where
  | normal | exit (id : Nat) | ret
  deriving DecidableEq, Inhabited

structure St where
  tm : List AV
  mem : Mem
  deriving Inhabited

structure Ctx where
  fn : FuncId → Option AFunc
  prim : FuncId → Option (List AV → Option AV)
  meth : TypeId → String → Option FuncId
  /-- functions that make iterators: what is yielded, round by round -/
  iter : FuncId → Option (List AV → Option (List (List AV))) := fun _ => none
  /-- functions that hand back a copy of a slice, with elements of so many cells, in memory of its own -/
  fresh : FuncId → Option Nat := fun _ => none
  /-- functions that work on the one block that their first argument points to: the block, the other arguments, its cells; the result and the cells behind it -/
  memp : FuncId → Option (Id → List AV → List AV → Option (AV × List AV)) := fun _ => none

def getT (tm : List AV) (t : Nat) : AV := tm.getD t .undef

/-- An operand's value; the right to append only where it moves on. -/
def rho (tm : List AV) (take : List Nat) : Opd → AV
  | .tmp t => if t ∈ take then getT tm t else (getT tm t).strip
  | .av v => v

def stripAll (tm : List AV) : List Nat → List AV
  | [] => tm
  | t :: r => stripAll (tm.set t (getT tm t).strip) r

def putT (tm : List AV) : Option Nat → AV → List AV
  | some d, v => tm.set d v
  | none, _ => tm

/-- 'part': a component of an aggregate's cells. -/
def part (agg : Bool) (c : List AV) (off n : Nat) : Option AV :=
  if agg then (if off + n ≤ c.length then some (.agg ((c.drop off).take n)) else none) else c[off]?

def bytesLess : List UInt8 → List UInt8 → Bool
  | _, [] => false
  | [], _ :: _ => true
  | a :: x, b :: y => a < b || (a == b && bytesLess x y)

/-- Are two rows of plain cells equal? -/
def flatEq : List LK → List AV → List AV → Option Bool
  | [], _, _ => some true
  | .i :: ks, .int k a :: l, .int k' b :: m => if k = k' then (flatEq ks l m).map ((a == b) && ·) else none
  | .s :: ks, .str a :: l, .str b :: m => (flatEq ks l m).map ((a == b) && ·)
  | .b :: ks, .bool a :: l, .bool b :: m => (flatEq ks l m).map ((a == b) && ·)
  | _, _, _ => none

def bits (op : BinOp) (k : IntKind) (x y : Int) : Option AV :=
  let a := BitVec.ofInt k.bits x
  let b := BitVec.ofInt k.bits y
  match op with
  | .and => some (.int k (k.wrap (a &&& b).toNat))
  | .or => some (.int k (k.wrap (a ||| b).toNat))
  | .xor => some (.int k (k.wrap (a ^^^ b).toNat))
  | .andNot => some (.int k (k.wrap (a &&& ~~~b).toNat))
  | _ => none

def binInt (op : BinOp) (k : IntKind) (a : Int) (k' : IntKind) (b : Int) : Option AV :=
  match op with
  | .shl => if b < 0 then none else some (.int k (k.wrap (a * 2 ^ (min b.toNat k.bits))))
  | .shr => if b < 0 then none else some (.int k (a.fdiv (2 ^ (min b.toNat k.bits))))
  | .add => if k = k' then some (.int k (k.wrap (a + b))) else none
  | .sub => if k = k' then some (.int k (k.wrap (a - b))) else none
  | .mul => if k = k' then some (.int k (k.wrap (a * b))) else none
  | .quo => if k = k' then (if b = 0 then none else some (.int k (k.wrap (a.tdiv b)))) else none
  | .rem => if k = k' then (if b = 0 then none else some (.int k (a.tmod b))) else none
  | .eql => if k = k' then some (.bool (a == b)) else none
  | .neq => if k = k' then some (.bool (a != b)) else none
  | .lss => if k = k' then some (.bool (decide (a < b))) else none
  | .leq => if k = k' then some (.bool (decide (a ≤ b))) else none
  | .gtr => if k = k' then some (.bool (decide (b < a))) else none
  | .geq => if k = k' then some (.bool (decide (b ≤ a))) else none
  | _ => if k = k' then bits op k a b else none

def binStr (op : BinOp) (a b : List UInt8) : Option AV :=
  match op with
  | .add => if a.length + b.length ≤ 9223372036854775807 then some (.str (a ++ b)) else none
  | .eql => some (.bool (a == b))
  | .neq => some (.bool !(a == b))
  | .lss => some (.bool (bytesLess a b))
  | .leq => some (.bool (bytesLess a b || a == b))
  | .gtr => some (.bool !(bytesLess a b || a == b))
  | .geq => some (.bool !(bytesLess a b))
  | _ => none

def eqv : EKind → AV → AV → Option Bool
  | .bool, .bool a, .bool b => some (a == b)
  | .ptr, .nilp, .nilp => some true
  | .ptr, .nilp, .ptr _ _ => some false
  | .ptr, .nilp, .rptr _ => some false
  | .ptr, .ptr _ _, .nilp => some false
  | .ptr, .rptr _, .nilp => some false
  | .slc, .nils, .nils => some true
  | .slc, .nils, .slc _ _ _ => some false
  | .slc, .slc _ _ _, .nils => some false
  | .iface, .nili, .nili => some true
  | .iface, .nili, .iface _ _ => some false
  | .iface, .iface _ _, .nili => some false
  | .func, .nilf, .nilf => some true
  | .func, .nilf, .fn _ _ => some false
  | .func, .fn _ _, .nilf => some false
  | .agg ks, .agg x, .agg y => flatEq ks x y
  | _, _, _ => none

def bin (op : BinOp) (x y : AV) : Option AV :=
  match x, y with
  | .int k a, .int k' b => binInt op k a k' b
  | .str a, .str b => binStr op a b
  | _, _ => none

def un (op : UnOp) (x : AV) : Option AV :=
  match op, x with
  | .neg, .int k n => some (.int k (k.wrap (0 - n)))
  | .not, .bool b => some (.bool !b)
  | _, _ => none

def u8s : List AV → Option (List UInt8)
  | [] => some []
  | .int .u8 n :: r => if 0 ≤ n ∧ n ≤ 255 then (u8s r).map (UInt8.ofNat n.toNat :: ·) else none
  | _ => none

def byteCells (l : List UInt8) : List AV := l.map fun b => .int .u8 b.toNat

def conv (c : CKind) (x : AV) : Option AV :=
  match c, x with
  | .int k, .int _ n => some (.int k (k.wrap n))
  | .same, .str l => some (.str l)
  | .toStr, .slc 1 l c => if c = .own then none else (u8s l).map .str
  | .toStr, .nils => some (.str [])
  | _, _ => none

/-- 'fill': parts laid over zero cells. -/
def fill (c : List AV) : List (Nat × Nat × AV) → Option (List AV)
  | [] => some c
  | (off, sz, v) :: r => if v.cells.length = sz ∧ off + sz ≤ c.length then fill (over c off v.cells) r else none

def toElems (sz : Nat) (zero : List AV) (n : Nat) : List AV := List.replicate n (match zero with | [v] => if sz = 1 then v else .agg [v] | l => .agg l)

/-- Elements put into a list. -/
def setElems (sz : Nat) : List AV → List (Nat × AV) → Option (List AV)
  | l, [] => some l
  | l, (i, v) :: r => if v.okElem sz ∧ i < l.length then setElems sz (l.set i v) r else none

def bounds (len cap : Nat) (hasCap : Bool) (lo hi mx : Option AV) : Option (Nat × Nat × Nat) :=
  -- low, high, max; cap: the greatest bound that is known to be allowed
  match mx, hi, lo with
  | none, none, none => some (0, len, cap)
  | none, none, some (.int _ l) => if 0 ≤ l ∧ l ≤ len then some (l.toNat, len, cap) else none
  | none, some (.int _ h), none => if 0 ≤ h ∧ h ≤ cap then some (0, h.toNat, cap) else none
  | none, some (.int _ h), some (.int _ l) => if 0 ≤ l ∧ l ≤ h ∧ h ≤ cap then some (l.toNat, h.toNat, cap) else none
  | some (.int _ m), some (.int _ h), none => if hasCap = true ∧ 0 ≤ h ∧ h ≤ m ∧ m ≤ cap then some (0, h.toNat, m.toNat) else none
  | some (.int _ m), some (.int _ h), some (.int _ l) => if hasCap = true ∧ 0 ≤ l ∧ l ≤ h ∧ h ≤ m ∧ m ≤ cap then some (l.toNat, h.toNat, m.toNat) else none
  | _, _, _ => none

def slice (k : SKind) (x : AV) (lo hi mx : Option AV) : Option AV :=
  match k, x with
  | .str, .str s => (bounds s.length s.length false lo hi mx).map fun (l, h, _) => .str ((s.take h).drop l)
  | .slc sz, .slc sz' v c =>
    if sz = sz' then (bounds v.length v.length true lo hi mx).map fun (l, h, m) =>
      .slc sz ((v.take h).drop l) (if mx.isSome && h == m then .exact else if c = .exact ∧ h = v.length then .exact else .unk)
    else none
  | .slc _, .nils => (bounds 0 0 true lo hi mx).map fun _ => .nils
  | .slc sz, .mslc i sz' off len => if sz = sz' then (bounds len len true lo hi mx).map fun (l, h, _) => .mslc i sz (off + l * sz) (h - l) else none
  | .arr len sz, .ptr i off => (bounds len len true lo hi mx).map fun (l, h, _) => .mslc i sz (off + l * sz) (h - l)
  | _, _ => none

def iaddr (arr : Option Nat) (sz : Nat) (x i : AV) : Option AV :=
  match i with
  | .int _ n =>
    match arr, x with
    | none, .slc sz' l _ => if sz' = sz ∧ 0 ≤ n then (l[n.toNat]?).map fun v => .rptr v.cells else none
    | none, .mslc id sz' off len => if sz' = sz ∧ 0 ≤ n ∧ n < len then some (.ptr id (off + n.toNat * sz)) else none
    | some len, .ptr id off => if 0 ≤ n ∧ n < len then some (.ptr id (off + n.toNat * sz)) else none
    | some len, .rptr l => if 0 ≤ n ∧ n < len then some (.rptr (l.drop (n.toNat * sz))) else none
    | _, _ => none
  | _ => none

def elemsOf (sz : Nat) : AV → Option (List AV)
  | .slc sz' l _ => if sz = sz' then some l else none
  | .nils => some []
  | .str s => if sz = 1 then some (byteCells s) else none
  | _ => none

/-- How many elements a slice may have behind an append. -/
def room : Nat := 4294967296

def append (sz bytes : Nat) (x y : AV) : Option AV :=
  match elemsOf sz y with
  | none => none
  | some new =>
    match x with
    | .nils => if new.length * bytes ≤ room then (if new = [] then some .nils else some (.slc sz new .own)) else none
    | .slc sz' l c =>
      if sz = sz' ∧ (l.length + new.length) * bytes ≤ room then
        (if new = [] then some (.slc sz l c) else if c = .unk then none else some (.slc sz (l ++ new) .own))
      else none
    | _ => none

/-- Is this entry of a map the one for a text? -/
def mapFind (s : List UInt8) (e : AV) : Option AV := match e with
  | .tup [.str k, v] => if k == s then some v else none
  | _ => none

/-- An operation that calls no function of the program. 'tm' is not read here but by 'ρ'. -/
def evOp (mem : Mem) (dst : Nat) (ρ : Opd → AV) : AOp → Option (AV × Mem)
  | .mv x => some (ρ x, mem)
  | .pick c a b => match ρ c with
    | .bool t => some (cond t (ρ a).strip (ρ b).strip, mem)
    | _ => none
  | .alloc zero => (mem.new [dst] zero).map fun m => (.ptr ⟨mem.top, [dst]⟩ 0, m)
  | .allocT t zero => (mem.new [dst, typMark + t] zero).map fun m => (.ptr ⟨mem.top, [dst, typMark + t]⟩ 0, m)
  | .box true x => if (ρ x).pure ∧ (ρ x).defd then some (.rptr (ρ x).cells, mem) else none
  | .box false x => if (ρ x).under mem.length ∧ (ρ x).defd then (mem.new [dst] (ρ x).strip.cells).map fun m => (.ptr ⟨mem.top, [dst]⟩ 0, m) else none
  | .build zero parts => if parts.all (fun p => (ρ p.2.2).defd) then (fill zero (parts.map fun (o, s, x) => (o, s, (ρ x).strip))).map fun c => (.agg c, mem) else none
  | .bslice true sz n zero parts => (setElems sz (toElems sz zero n) (parts.map fun (i, x) => (i, (ρ x).strip))).map fun l => (.slc sz l .exact, mem)
  | .bslice false sz n zero parts =>
    if parts.all (fun p => (ρ p.2).defd) then ((fill (List.replicate n zero).flatten (parts.map fun (i, x) => (i * sz, sz, (ρ x).strip))).bind fun c =>
      if AV.under.unders mem.length c then (mem.new [dst] c).map fun m => (.mslc ⟨mem.top, [dst]⟩ sz 0 n, m) else none) else none
  | .load agg take n a => match ρ a with
    | .rptr c => if agg then (if n ≤ c.length then some (.agg (c.take n), mem) else none) else (c[0]?).map (·, mem)
    | .ptr i off => (mem.get i).bind fun c =>
      if agg then (if off + n ≤ c.length then some (.agg (((c.drop off).take n).map AV.strip), mem) else none)
      else if take then (c[off]?).map fun v => (v, mem.set i (c.set off v.strip))
      else (c[off]?).map fun v => (v.strip, mem)
    | _ => none
  | .store n a x => match ρ a with
    | .ptr i off => (mem.get i).bind fun c =>
      if (ρ x).cells.length = n ∧ off + n ≤ c.length ∧ (ρ x).under (i.fr + 1) ∧ (ρ x).cells.all AV.one then some (.undef, mem.set i (over c off (ρ x).cells)) else none
    | _ => none
  | .nilchk x => match ρ x with
    | .rptr c => some (.rptr c, mem)
    | .ptr i o => some (.ptr i o, mem)
    | .fn f c => some (.fn f c, mem)
    | _ => none
  | .bin op x y => (bin op (ρ x) (ρ y)).map (·, mem)
  | .eq k neg x y => (eqv k (ρ x).strip (ρ y).strip).map fun b => (.bool (neg ^^ b), mem)
  | .un op x => (un op (ρ x)).map (·, mem)
  | .conv c x => (conv c (ρ x)).map (·, mem)
  | .mkif t x => some (.iface t (ρ x).strip, mem)
  | .mkfn f caps => some (.fn f (caps.map fun x => (ρ x).strip), mem)
  | .mkslc imm sz bytes zero n c => match ρ n, ρ c with
    | .int _ l, .int _ m =>
      if 0 ≤ l ∧ l ≤ m ∧ m * (max bytes 1 : Nat) ≤ room then
        (if imm then some (.slc sz (toElems sz zero l.toNat) (if l = m then .exact else .own), mem)
         else if l = m then (mem.new [dst] (List.replicate l.toNat zero).flatten).map fun w => (.mslc ⟨mem.top, [dst]⟩ sz 0 l.toNat, w) else none)
      else none
    | _, _ => none
  | .slice k x lo hi mx => (slice k (ρ x).strip (lo.map ρ) (hi.map ρ) (mx.map ρ)).map (·, mem)
  | .faddr off x => match ρ x with
    | .rptr c => some (.rptr (c.drop off), mem)
    | .ptr i o => some (.ptr i (o + off), mem)
    | _ => none
  | .field agg off n x => match ρ x with
    | .agg c => (part agg c off n).map (·, mem)
    | _ => none
  | .iaddr arr sz x i => (iaddr arr sz (ρ x) (ρ i)).map (·, mem)
  | .ixarr agg len sz x i => match ρ x, ρ i with
    | .agg c, .int _ n => if 0 ≤ n ∧ n < len then (part agg c (n.toNat * sz) sz).map (·, mem) else none
    | _, _ => none
  | .ixstr x i => match ρ x, ρ i with
    | .str s, .int _ n => if 0 ≤ n then (s[n.toNat]?).map fun b => (.int .u8 b.toNat, mem) else none
    | _, _ => none
  | .lookup zero ok x i => match ρ x, ρ i with
    | .map kv, .str s =>
      some (if ok then (match kv.findSome? (mapFind s) with | some v => .tup [v, .bool true] | none => .tup [zero, .bool false]) else (kv.findSome? (mapFind s)).getD zero, mem)
    | _, _ => none
  | .tassert t ok zero x => match ρ x with
    | .iface u v =>
      if u = t then some (if ok then .tup [v, .bool true] else v, mem)
      else if ok then some (.tup [zero, .bool false], mem) else none
    | .nili => if ok then some (.tup [zero, .bool false], mem) else none
    | _ => none
  | .extract x i => match ρ x with
    | .tup l => (l[i]?).map (·, mem)
    | _ => none
  | .len str x => match str, (ρ x).strip with
    | false, .slc _ l _ => some (.int .i64 l.length, mem)
    | false, .mslc _ _ _ n => some (.int .i64 n, mem)
    | false, .nils => some (.int .i64 0, mem)
    | true, .str s => some (.int .i64 s.length, mem)
    | _, _ => none
  | .append sz bytes x y => (append sz bytes (ρ x) (ρ y).strip).map (·, mem)
  | .min2 x y => match ρ x, ρ y with
    | .int k a, .int _ b => some (.int k (if b < a then b else a), mem)
    | _, _ => none
  | .max2 x y => match ρ x, ρ y with
    | .int k a, .int _ b => some (.int k (if a < b then b else a), mem)
    | _, _ => none
  | .call .. | .invoke .. => none

abbrev CallF := FuncId → List AV → Mem → Option (AV × Mem)

def evAny (C : Ctx) (call : CallF) (mem : Mem) (dst : Nat) (ρ : Opd → AV) (op : AOp) : Option (AV × Mem) :=
  match op with
  | .call f args => match ρ f with
    | .fn g caps => call g ((args.map fun x => (ρ x).strip) ++ caps) mem
    | _ => none
  | .invoke m x args => match ρ x with
    | .iface t v => match C.meth t m with
      | some g => call g (v :: args.map fun x => (ρ x).strip) mem
      | none => none
    | _ => none
  | op => evOp mem dst ρ op

def evOper (C : Ctx) (call : CallF) (o : AOper) (σ : St) : Option St :=
  let go : Option St := (evAny C call σ.mem (o.dst.getD 0) (rho σ.tm o.take) o.op).map fun (v, m) => ⟨putT (stripAll σ.tm o.take) o.dst v, m⟩
  match o.guard with
  | none => go
  | some (t, want) => match getT σ.tm t with
    | .bool b => cond (b == want) go (some ⟨putT σ.tm o.dst (.tup []), σ.mem⟩)
    | .tup [] => some ⟨putT σ.tm o.dst (.tup []), σ.mem⟩
    | _ => none

def evOps (C : Ctx) (call : CallF) : List AOper → St → Option St
  | [], σ => some σ
  | o :: r, σ => (evOper C call o σ).bind (evOps C call r)

/-- Places of the memory: a block, from where, how many cells. -/
abbrev Foot := Id × Nat × Nat
/-- The foot of a block that is laid: its key alone counts. -/
def newCells : Nat := 18446744073709551616
def footApart : Foot → Foot → Bool
  | (i, off, n), (i', off', n') => if n = newCells ∨ n' = newCells then i.st != i'.st else i != i' || decide (off + n ≤ off') || decide (off' + n' ≤ off)

/-- What a load or store touches. -/
def footOf (tm : List AV) (o : AOper) : Option Foot :=
  match o.op with
  | .load agg _ n a => match rho tm o.take a with
    | .ptr i off => some (i, off, if agg then n else 1)
    | _ => none
  | .store n a _ => match rho tm o.take a with
    | .ptr i off => some (i, off, n)
    | _ => none
  | .alloc _ => some (⟨0, [o.dst.getD 0]⟩, 0, newCells)
  | _ => none
def footApartO : Option Foot → Option Foot → Bool
  | some f, some g => footApart f g
  | _, _ => true

def AOp.isMem : AOp → Bool
  | .load _ _ _ _ | .store _ _ _ => true
  | _ => false

def AOp.isNew : AOp → Bool
  | .alloc _ => true
  | _ => false

/-- The operations of a statement whose order is open, in the text's order. 'apart': the loads and stores ahead that touch something else; its own place: a call that must leave the memory. -/
def evDraw (C : Ctx) (call : CallF) : List AOper → Nat → List (Option Foot) → St → Option St
  | [], _, _, σ => some σ
  | o :: r, k, fs, σ =>
    if o.apart.all fun i => i == k || footApartO (fs.getD i none) (footOf σ.tm o) then
      (evOper C call o σ).bind fun σ' =>
        if o.apart.contains k && !o.op.isMem then (if σ'.mem = σ.mem then evDraw C call r (k + 1) (fs ++ [footOf σ.tm o]) σ' else none)
        else evDraw C call r (k + 1) (fs ++ [footOf σ.tm o]) σ'
    else none

def keepT (keep : List Nat) : Nat → List AV → List AV
  | _, [] => []
  | i, v :: r => (if i ∈ keep then v else .undef) :: keepT keep (i + 1) r

def Fr.drop (f : Fr) : List (List Nat) → Fr
  | [] => f
  | s :: r => Fr.drop (f.filter fun e => e.1 ≠ s) r

/-- Nothing refers to these blocks of the uppermost frame. -/
def free (fr : Nat) (drop : List (List Nat)) (tm : List AV) (f : Fr) : Bool :=
  drop.all fun s => tm.all (fun v => !v.has ⟨fr, s⟩) && f.all fun e => e.2.all fun v => !v.has ⟨fr, s⟩

def evCut (keep : List Nat) (drop : List (List Nat)) (σ : St) : Option St :=
  match σ.mem with
  | [] => none
  | f :: r =>
    let tm := keepT keep 0 σ.tm
    let f' := f.drop drop
    if free r.length drop tm f' then some ⟨tm, f' :: r⟩ else none

def evRes (tm : List AV) (mem : Mem) : ARes → Option AV
  | .tmp t => some (getT tm t)
  | .cell agg n t => match getT tm t with
    | .ptr i off => (mem.get i).bind fun c =>
      if agg then (if off + n ≤ c.length then some (.agg (((c.drop off).take n).map AV.strip)) else none)
      else (c[off]?).map AV.strip
    | .rptr c => if agg then (if n ≤ c.length then some (.agg (c.take n)) else none) else c[0]?
    | _ => none

def evResults (tm : List AV) (mem : Mem) : List ARes → Option AV
  | [r] => evRes tm mem r
  | rs => (rs.foldr (fun r acc => (evRes tm mem r).bind fun v => acc.map (v.strip :: ·)) (some [])).map .tup

def mapO (f : AV → Option AV) : List AV → Option (List AV)
  | [] => some []
  | v :: r => (f v).bind fun u => (mapO f r).map (u :: ·)

def chunks (sz : Nat) : Nat → List AV → List AV
  | 0, _ => []
  | n + 1, l => (if sz = 1 then l.headD .undef else .agg (l.take sz)) :: chunks sz n (l.drop sz)

/-- References to blocks of frames from 'fr' on become copies of what lies there: nobody will write there again. -/
def freeze (mem : Mem) (fr : Nat) : Nat → AV → Option AV
  | 0, _ => none
  | n + 1, v => match v with
    | .ptr i off => if i.fr < fr then some (.ptr i off) else (mem.get i).bind fun c => (mapO (freeze mem fr n) (c.drop off)).bind fun l => if AV.pure.pures l then some (.rptr l) else none
    | .mslc i sz off len => if i.fr < fr then some (.mslc i sz off len) else (mem.get i).bind fun c => (mapO (freeze mem fr n) ((c.drop off).take (len * sz))).bind fun l =>
        if (chunks sz len l).all (AV.okElem sz) ∧ l.all AV.one ∧ l.length = len * sz then some (.slc sz (chunks sz len l) .unk) else none
    | .agg l => (mapO (freeze mem fr n) l).map .agg
    | .tup l => (mapO (freeze mem fr n) l).map .tup
    | .iface t u => (freeze mem fr n u).map (.iface t)
    | .fn f l => (mapO (freeze mem fr n) l).map (.fn f)
    | v => some v

/-- A number that begins no key of a frame. -/
def freshKey : Fr → Nat
  | [] => 0
  | e :: r => max (e.1.headD 0 + 1) (freshKey r)

/-- The uppermost frame's blocks go over to the frame below. -/
def promote (n : Nat) (m : Mem) (v : AV) : Option (AV × Mem) := match m with
  | fr :: f :: rest => if fr.isEmpty then none else some (v.strip.ren n (freshKey f), (fr.map (fun e => (freshKey f :: e.1, e.2.map (AV.ren n (freshKey f)))) ++ f) :: rest)
  | _ => none

/-- What a body's results come to behind the call. -/
def leave (esc : Bool) (n : Nat) (m : Mem) (v : AV) : Option (AV × Mem) :=
  if v.under n then some (v, m.tail)
  else if esc then (promote n m v).bind fun (u, m') => if u.under n then some (u, m') else none
  else (freeze m n 16 v).bind fun u => if u.under n then some (u, m.tail) else none

/-- A call that works on one block. -/
def memCall (q : Id → List AV → List AV → Option (AV × List AV)) : List AV → Mem → Option (AV × Mem)
  | .ptr i 0 :: rest, mem => (mem.get i).bind fun c => (q i rest c).bind fun p =>
      if AV.pure.pures rest ∧ p.1.pure = true ∧ p.2.length = c.length ∧ (p.2.all fun v => v.under (i.fr + 1)) = true then some (p.1, mem.set i p.2) else none
  | _, _ => none

/-- A call: the code is run by 'rec'. -/
def callWith (C : Ctx) (rec : ACode → St → Option (Ex × St)) : CallF := fun f args mem =>
  match C.prim f with
  | some g => if AV.pure.pures args then (g args).map (·, mem) else none
  | none => match C.memp f with
   | some q => memCall q args mem
   | none => match C.fn f with
    | none => none
    | some af =>
      match rec af.body ⟨args ++ List.replicate (af.ntmps - args.length) .undef, [] :: mem⟩ with
      | some (.normal, σ) | some (.ret, σ) =>
        (evResults σ.tm σ.mem af.results).bind (leave af.esc mem.length σ.mem)
      | _ => none

def setPs : List AV → List Nat → List AV → List AV
  | tm, p :: ps, v :: vs => setPs (tm.set p v) ps vs
  | tm, _, _ => tm

/-- The rounds of a range over a function. -/
def rounds (rec : ACode → St → Option (Ex × St)) (ps : List Nat) (asg body : ACode) (tm : List AV) : List (List AV) → Mem → Option (Ex × Mem)
  | [], m => some (.normal, m)
  | x :: xs, m => match rec asg ⟨setPs tm ps x, [] :: m⟩ with
    | some (.normal, σa) => match rec body σa with
      | some (.normal, σb) => rounds rec ps asg body tm xs σb.mem.tail
      | some (e, σb) => some (e, σb.mem.tail)
      | none => none
    | _ => none

def iterOf (C : Ctx) (f : FuncId) (args : List AV) (n : Nat) : Option (List (List AV)) := match C.iter f with
  | some q => if AV.pure.pures args then (q args).bind fun xs => if xs.all (fun x => x.length == n && AV.pure.pures x) then some xs else none else none
  | none => none

def overI (b : Nat) (tm : List AV) (r : Option (Ex × Mem)) : Option (Ex × St) := r.map fun (e, m) => (if e = .exit b then .normal else e, ⟨tm, m⟩)

/-- Two cells of a slice's element are written. -/
def csetAt (sz : Nat) (l : List AV) (n o1 : Nat) (v1 : AV) (o2 : Nat) (v2 : AV) : Option (List AV) := (l[n]?).bind fun u =>
  if (AV.agg ((u.cells.set o1 v1).set o2 v2)).okElem sz ∧ o1 < sz ∧ o2 < sz ∧ v1.one ∧ v2.one then some (l.set n (.agg ((u.cells.set o1 v1).set o2 v2))) else none

def clearT (tm : List AV) : List Nat → List AV
  | [] => tm
  | d :: r => clearT (tm.set d .undef) r

/-- .. the rest of 'cset', behind the operations ahead of the copy. -/
def csetIn (C : Ctx) (call : CallF) (f : FuncId) (x : Opd) (t0 t sz : Nat) (i : Opd) (o1 : Nat) (v1 : Opd) (o2 : Nat) (v2 : Opd) (ds : List Nat) (σ : St) : Option St :=
  if C.fresh f = some sz ∧ t < σ.tm.length ∧ t0 < σ.tm.length ∧ ds.all (fun d => d < σ.tm.length) then
    (call f [(rho σ.tm [] x).strip] σ.mem).bind fun r => match r.1, rho σ.tm [] i with
      | .slc sz' l _, .int _ n => if sz' = sz ∧ 0 ≤ n then (csetAt sz l n.toNat o1 (rho σ.tm [] v1).strip o2 (rho σ.tm [] v2).strip).map fun l' => ⟨(clearT σ.tm (t0 :: ds)).set t (.slc sz l' .own), r.2⟩ else none
      | _, _ => none
  else none

def stepC (C : Ctx) (rec : ACode → St → Option (Ex × St)) : ACode → St → Option (Ex × St)
  | .skip, σ => some (.normal, σ)
  | .reg false ops, σ => (evOps C (callWith C rec) ops σ).map (.normal, ·)
  | .reg true ops, σ => (evDraw C (callWith C rec) ops 0 [] σ).map (.normal, ·)
  | .seq a b, σ => match rec a σ with
    | some (.normal, σ') => rec b σ'
    | r => r
  | .cond c a b, σ => match rho σ.tm [] c with
    | .bool t => cond t (rec a σ) (rec b σ)
    | _ => none
  | .block id c, σ => match rec c σ with
    | some (.exit j, σ') => if j = id then some (.normal, σ') else some (.exit j, σ')
    | r => r
  | .loop c, σ => match rec c σ with
    | some (.normal, σ') => rec (.loop c) σ'
    | r => r
  | .exit id, σ => some (.exit id, σ)
  | .ret, σ => some (.ret, σ)
  | .cut keep drop c, σ => (evCut keep drop σ).bind (rec c)
  | .cset pre f x t0 t sz i o1 v1 o2 v2 ds c, σ => (evOps C (callWith C rec) pre σ).bind fun σ1 => (csetIn C (callWith C rec) f x t0 t sz i o1 v1 o2 v2 ds σ1).bind (rec c)
  | .rangeI b pre f args t ps asg body, σ => (evOps C (callWith C rec) pre σ).bind fun σ1 =>
      (iterOf C f (args.map fun x => (rho σ1.tm [] x).strip) ps.length).bind fun xs =>
        if t < σ1.tm.length then overI b ((σ1.tm.set t .undef).map AV.strip) (rounds rec ps asg body ((σ1.tm.set t .undef).map AV.strip) xs σ1.mem) else none

def ev (C : Ctx) : Nat → ACode → St → Option (Ex × St)
  | 0, _, _ => none
  | k + 1, c, σ => stepC C (ev C k) c σ

end Go.VA

/-
  How the abstract interpreter's values and memory stand to the machine's.
-/
namespace Go.VA
open Go Go.RowKit

inductive Loc where
  | tmp (i : Nat) | cell (i : Id) (j : Nat) | res | out
  deriving DecidableEq

structure G where
  imm : Addr → Option Value
  map : Nat → Option Obj
  blk : Id → Option Nat
  own : Nat → Option (Loc × Nat × Nat)

inductive RV (imm : Addr → Option Value) (map : Nat → Option Obj) (blk : Id → Option Nat) : AV → Value → Prop
  | undef (x : Value) : RV imm map blk .undef x
  | bool (b : Bool) : RV imm map blk (.bool b) (.bool b)
  | int (k : IntKind) (n : Int) : RV imm map blk (.int k n) (.int k n)
  | str (l : List UInt8) : RV imm map blk (.str l) (.string ⟨l.toArray⟩)
  | nilp : RV imm map blk .nilp (.pointer none)
  | nils : RV imm map blk .nils (.slice none 0 0)
  | nili : RV imm map blk .nili .nilIface
  | nilf : RV imm map blk .nilf .nilFunc
  | agg (l : List AV) (xs : Array Value) (hl : l.length = xs.size) (h : ∀ (i : Nat) u x, l[i]? = some u → xs[i]? = some x → RV imm map blk u x) : RV imm map blk (.agg l) (.agg xs)
  | tup (l : List AV) (xs : Array Value) (hl : l.length = xs.size) (h : ∀ (i : Nat) u x, l[i]? = some u → xs[i]? = some x → RV imm map blk u x) : RV imm map blk (.tup l) (.tuple xs)
  | iface (t : TypeId) (v : AV) (x : Value) (h : RV imm map blk v x) : RV imm map blk (.iface t v) (.iface t x)
  | fn (f : FuncId) (l : List AV) (xs : Array Value) (hl : l.length = xs.size) (h : ∀ (i : Nat) u x, l[i]? = some u → xs[i]? = some x → RV imm map blk u x) : RV imm map blk (.fn f l) (.func (.func f) #[] xs)
  | ptr (i : Id) (off b : Nat) (hb : blk i = some b) : RV imm map blk (.ptr i off) (.pointer (some ⟨b, off, none⟩))
  | mslc (i : Id) (sz off len b cap o : Nat) (hb : blk i = some b) (hc : len ≤ cap) (ho : 0 < len → o = off) : RV imm map blk (.mslc i sz off len) (.slice (some ⟨b, o, none⟩) len cap)
  | rptr (l : List AV) (b off : Nat) (vs : Nat → Value) (hp : ∀ u, u ∈ l → u.pure = true) (hi : ∀ j, j < l.length → imm ⟨b, off + j, none⟩ = some (vs j))
      (h : ∀ (j : Nat) u, l[j]? = some u → RV imm map blk u (vs j)) : RV imm map blk (.rptr l) (.pointer (some ⟨b, off, none⟩))
  | slc (sz : Nat) (l : List AV) (c : Cap) (b off cap : Nat) (vs : Nat → Nat → Value) (hc : c ≠ .own) (hle : l.length ≤ cap) (hx : c = .exact → cap = l.length)
      (hp : ∀ v, v ∈ l → v.okElem sz = true) (hi : ∀ i j, i < l.length → j < sz → imm ⟨b, off + (i * sz + j), none⟩ = some (vs i j))
      (h : ∀ (i : Nat) v (j : Nat) u, l[i]? = some v → v.cells[j]? = some u → RV imm map blk u (vs i j)) : RV imm map blk (.slc sz l c) (.slice (some ⟨b, off, none⟩) l.length cap)
  | map (kv : List AV) (r : Nat) (es : Array MapEntry) (cl : Nat) (hm : map r = some (.map es cl)) (ks : Nat → List UInt8) (vs : Nat → AV) (hl : kv.length = es.size)
      (hk : ∀ s, kv.findSome? (mapFind s) = ((List.range es.size).map fun i => AV.tup [.str (ks i), vs i]).findSome? (mapFind s)) (he : ∀ (i : Nat) e, es[i]? = some e → e.key = .string ⟨(ks i).toArray⟩)
      (hp : ∀ i, i < es.size → (vs i).pure = true) (h : ∀ (i : Nat) e, es[i]? = some e → RV imm map blk (vs i) e.val) : RV imm map blk (.map kv) (.map (some r))

variable {imm imm' : Addr → Option Value} {map map' : Nat → Option Obj} {blk blk' : Id → Option Nat}

theorem RV.mono (hi : ∀ a v, imm a = some v → imm' a = some v) (hm : ∀ r e, map r = some e → map' r = some e) (hb : ∀ i b, blk i = some b → blk' i = some b) {v : AV} {x : Value}
    (h : RV imm map blk v x) : RV imm' map' blk' v x := by
  induction h with
  | undef x => exact .undef x
  | bool b => exact .bool b
  | int k n => exact .int k n
  | str l => exact .str l
  | nilp => exact .nilp
  | nils => exact .nils
  | nili => exact .nili
  | nilf => exact .nilf
  | agg l xs hl h ih => exact .agg l xs hl ih
  | tup l xs hl h ih => exact .tup l xs hl ih
  | iface t v x h ih => exact .iface t v x ih
  | fn f l xs hl h ih => exact .fn f l xs hl ih
  | ptr i off b h => exact .ptr i off b (hb _ _ h)
  | mslc i sz off len b cap o h hc ho => exact .mslc i sz off len b cap o (hb _ _ h) hc ho
  | rptr l b off vs hp h1 h ih => exact .rptr l b off vs hp (fun j hj => hi _ _ (h1 j hj)) ih
  | slc sz l c b off cap vs hc hle hx hp h1 h ih => exact .slc sz l c b off cap vs hc hle hx hp (fun i j hi' hj => hi _ _ (h1 i j hi' hj)) ih
  | map kv r es cl h1 ks vs hl hk he hp h ih => exact .map kv r es cl (hm _ _ h1) ks vs hl hk he hp ih

theorem pures_iff {l : List AV} : AV.pure.pures l = true ↔ ∀ u, u ∈ l → u.pure = true := by
  induction l with
  | nil => simp [AV.pure.pures]
  | cons a l ih => simp [AV.pure.pures, ih]

theorem unders_iff {n : Nat} {l : List AV} : AV.under.unders n l = true ↔ ∀ u, u ∈ l → u.under n = true := by
  induction l with
  | nil => simp [AV.under.unders]
  | cons a l ih => simp [AV.under.unders, ih]

theorem hass_iff {i : Id} {l : List AV} : AV.has.hass i l = false ↔ ∀ u, u ∈ l → u.has i = false := by
  induction l with
  | nil => simp [AV.has.hass]
  | cons a l ih => simp [AV.has.hass, ih]

theorem okElem_spec {sz : Nat} {v : AV} (h : v.okElem sz = true) : v.cells.length = sz ∧ ∀ u, u ∈ v.cells → u.pure = true ∧ u.one = true := by
  simpa [AV.okElem] using h

theorem pure_cells {v : AV} (h : v.pure = true) : ∀ u, u ∈ v.cells → u.pure = true := by
  cases v with
  | agg l => intro u hu; exact pures_iff.1 (by simpa [AV.pure] using h) u (by simpa [AV.cells] using hu)
  | _ => intro u hu; simp only [AV.cells, List.mem_singleton] at hu; subst hu; exact h

/-- A pure value does not look at the blocks. -/
theorem RV.pure {v : AV} {x : Value} (h : RV imm map blk v x) (hp : v.pure = true) : RV imm map blk' v x := by
  induction h with
  | undef x => exact .undef x
  | bool b => exact .bool b
  | int k n => exact .int k n
  | str l => exact .str l
  | nilp => exact .nilp
  | nils => exact .nils
  | nili => exact .nili
  | nilf => exact .nilf
  | agg l xs hl h ih => exact .agg l xs hl fun i u x h1 h2 => ih i u x h1 h2 (pures_iff.1 (by simpa [AV.pure] using hp) u (List.mem_of_getElem? h1))
  | tup l xs hl h ih => exact .tup l xs hl fun i u x h1 h2 => ih i u x h1 h2 (pures_iff.1 (by simpa [AV.pure] using hp) u (List.mem_of_getElem? h1))
  | iface t v x h ih => exact .iface t v x (ih (by simpa [AV.pure] using hp))
  | fn f l xs hl h ih => exact .fn f l xs hl fun i u x h1 h2 => ih i u x h1 h2 (pures_iff.1 (by simpa [AV.pure] using hp) u (List.mem_of_getElem? h1))
  | ptr i off b h => simp [AV.pure] at hp
  | mslc i sz off len b cap o h hc ho => simp [AV.pure] at hp
  | rptr l b off vs hp' h1 h ih => exact .rptr l b off vs hp' h1 fun j u hu => ih j u hu (hp' u (List.mem_of_getElem? hu))
  | slc sz l c b off cap vs hc hle hx hp' h1 h ih =>
    exact .slc sz l c b off cap vs hc hle hx hp' h1 fun i v j u hv hu => ih i v j u hv hu ((okElem_spec (hp' v (List.mem_of_getElem? hv))).2 u (List.mem_of_getElem? hu)).1
  | map kv r es cl h1 ks vs hl hk he hp' h ih =>
    exact .map kv r es cl h1 ks vs hl hk he hp' fun i e hi => ih i e hi (hp' i (by have := (Array.getElem?_eq_some_iff.1 hi).1; omega))

/-- Only the blocks that a value names matter. -/
theorem RV.has {i : Id} {v : AV} {x : Value} (h : RV imm map blk v x) (hb : ∀ j b, j ≠ i → blk j = some b → blk' j = some b) (hp : v.has i = false) : RV imm map blk' v x := by
  induction h with
  | undef x => exact .undef x
  | bool b => exact .bool b
  | int k n => exact .int k n
  | str l => exact .str l
  | nilp => exact .nilp
  | nils => exact .nils
  | nili => exact .nili
  | nilf => exact .nilf
  | agg l xs hl h ih => exact .agg l xs hl fun i u x h1 h2 => ih i u x h1 h2 (hass_iff.1 (by simpa [AV.has] using hp) u (List.mem_of_getElem? h1))
  | tup l xs hl h ih => exact .tup l xs hl fun i u x h1 h2 => ih i u x h1 h2 (hass_iff.1 (by simpa [AV.has] using hp) u (List.mem_of_getElem? h1))
  | iface t v x h ih => exact .iface t v x (ih (by simpa [AV.has] using hp))
  | fn f l xs hl h ih => exact .fn f l xs hl fun i u x h1 h2 => ih i u x h1 h2 (hass_iff.1 (by simpa [AV.has] using hp) u (List.mem_of_getElem? h1))
  | ptr j off b h => exact .ptr j off b (hb _ _ (by intro e; subst e; simp [AV.has] at hp) h)
  | mslc j sz off len b cap o h hc ho => exact .mslc j sz off len b cap o (hb _ _ (by intro e; subst e; simp [AV.has] at hp) h) hc ho
  | rptr l b off vs hp' h1 h ih => exact .rptr l b off vs hp' h1 fun j u hu => (h j u hu).pure (hp' u (List.mem_of_getElem? hu))
  | slc sz l c b off cap vs hc hle hx hp' h1 h ih =>
    exact .slc sz l c b off cap vs hc hle hx hp' h1 fun i v j u hv hu => (h i v j u hv hu).pure ((okElem_spec (hp' v (List.mem_of_getElem? hv))).2 u (List.mem_of_getElem? hu)).1
  | map kv r es cl h1 ks vs hl hk he hp' h ih =>
    exact .map kv r es cl h1 ks vs hl hk he hp' fun i e hi => (h i e hi).pure (hp' i (by have := (Array.getElem?_eq_some_iff.1 hi).1; omega))

/-- Only the blocks of frames below n matter. -/
theorem RV.under {n : Nat} {v : AV} {x : Value} (h : RV imm map blk v x) (hb : ∀ j b, j.fr < n → blk j = some b → blk' j = some b) (hp : v.under n = true) : RV imm map blk' v x := by
  induction h with
  | undef x => exact .undef x
  | bool b => exact .bool b
  | int k n => exact .int k n
  | str l => exact .str l
  | nilp => exact .nilp
  | nils => exact .nils
  | nili => exact .nili
  | nilf => exact .nilf
  | agg l xs hl h ih => exact .agg l xs hl fun i u x h1 h2 => ih i u x h1 h2 (unders_iff.1 (by simpa [AV.under] using hp) u (List.mem_of_getElem? h1))
  | tup l xs hl h ih => exact .tup l xs hl fun i u x h1 h2 => ih i u x h1 h2 (unders_iff.1 (by simpa [AV.under] using hp) u (List.mem_of_getElem? h1))
  | iface t v x h ih => exact .iface t v x (ih (by simpa [AV.under] using hp))
  | fn f l xs hl h ih => exact .fn f l xs hl fun i u x h1 h2 => ih i u x h1 h2 (unders_iff.1 (by simpa [AV.under] using hp) u (List.mem_of_getElem? h1))
  | ptr j off b h => exact .ptr j off b (hb _ _ (by simpa [AV.under] using hp) h)
  | mslc j sz off len b cap o h hc ho => exact .mslc j sz off len b cap o (hb _ _ (by simpa [AV.under] using hp) h) hc ho
  | rptr l b off vs hp' h1 h ih => exact .rptr l b off vs hp' h1 fun j u hu => (h j u hu).pure (hp' u (List.mem_of_getElem? hu))
  | slc sz l c b off cap vs hc hle hx hp' h1 h ih =>
    exact .slc sz l c b off cap vs hc hle hx hp' h1 fun i v j u hv hu => (h i v j u hv hu).pure ((okElem_spec (hp' v (List.mem_of_getElem? hv))).2 u (List.mem_of_getElem? hu)).1
  | map kv r es cl h1 ks vs hl hk he hp' h ih =>
    exact .map kv r es cl h1 ks vs hl hk he hp' fun i e hi => (h i e hi).pure (hp' i (by have := (Array.getElem?_eq_some_iff.1 hi).1; omega))

/-- A value at a place that may have the right to append. -/
inductive RL (g : G) (loc : Loc) : AV → Value → Prop
  | val {v : AV} {x : Value} (h : RV g.imm g.map g.blk v x) : RL g loc v x
  | own (sz : Nat) (l : List AV) (b off cap size : Nat) (h : RV g.imm g.map g.blk (.slc sz l .unk) (.slice (some ⟨b, off, none⟩) l.length cap))
      (ho : g.own b = some (loc, off + l.length * sz, size)) (hs : off + cap * sz ≤ size) : RL g loc (.slc sz l .own) (.slice (some ⟨b, off, none⟩) l.length cap)

theorem RL.strip {g : G} {loc : Loc} {v : AV} {x : Value} (h : RL g loc v x) : RV g.imm g.map g.blk v.strip x := by
  cases h with
  | own sz l b off cap size h ho hs => exact h
  | val h =>
    cases h with
    | slc sz l c b off cap vs hc hle hx hp h1 h =>
      cases c with
      | own => exact absurd rfl hc
      | unk => exact .slc sz l .unk b off cap vs hc hle hx hp h1 h
      | exact => exact .slc sz l .exact b off cap vs hc hle hx hp h1 h
    | _ => first | constructor <;> assumption | (simp only [AV.strip]; constructor <;> assumption)

theorem RV.strip {v : AV} {x : Value} (h : RV imm map blk v x) : RV imm map blk v.strip x :=
  (RL.val (g := ⟨imm, map, blk, fun _ => none⟩) (loc := .res) h).strip

/-- What was there stays: how a later state of affairs stands to an elder one. -/
structure Ext (n : Nat) (g g' : G) : Prop where
  imm : ∀ a v, g.imm a = some v → g'.imm a = some v
  map : ∀ r e, g.map r = some e → g'.map r = some e
  blk : ∀ i, i.fr < n → g'.blk i = g.blk i
  own : ∀ b s, g.own b = some (.out, s) → g'.own b = some (.out, s)

theorem Ext.refl (n : Nat) (g : G) : Ext n g g := ⟨fun _ _ h => h, fun _ _ h => h, fun _ _ => rfl, fun _ _ h => h⟩
theorem Ext.trans {n : Nat} {g g' g'' : G} (h : Ext n g g') (k : Ext n g' g'') : Ext n g g'' :=
  ⟨fun a v e => k.imm a v (h.imm a v e), fun r e f => k.map r e (h.map r e f), fun i hi => (k.blk i hi).trans (h.blk i hi), fun b s e => k.own b s (h.own b s e)⟩
theorem Ext.mono {n m : Nat} {g g' : G} (h : Ext n g g') (hm : m ≤ n) : Ext m g g' := ⟨h.imm, h.map, fun i hi => h.blk i (Nat.lt_of_lt_of_le hi hm), h.own⟩

/-- Nothing that is written lies there. -/
structure Kept (g : G) (r : Nat) : Prop where
  blk : ∀ i, g.blk i ≠ some r
  own : g.own r = none
  imm : ∀ o s, g.imm ⟨r, o, s⟩ = none

/-- The memory. -/
structure WM (base : Nat) (w0 : World) (g : G) (w : World) (mem : Mem) : Prop where
  imm : ∀ a v, g.imm a = some v → w.cell? a = some v
  map : ∀ r e, g.map r = some e → w.heap[r]? = some e ∧ (e.isCells = true → Kept g r)
  get : ∀ i c, mem.get i = some c → ∃ b, g.blk i = some b
  blk : ∀ i b, g.blk i = some b → base ≤ b ∧ i.fr < mem.length ∧ ∃ c arr elem, mem.get i = some c ∧ w.heap[b]? = some (.cells arr elem (0, 0)) ∧ arr.size = c.length ∧
    ∀ (j : Nat) v x, c[j]? = some v → arr[j]? = some x → RL g (.cell i j) v x
  inj : ∀ i j b, g.blk i = some b → g.blk j = some b → i = j
  apart : ∀ i b o s, g.blk i = some b → g.imm ⟨b, o, s⟩ = none
  own : ∀ b l f s, g.own b = some (l, f, s) → base ≤ b ∧ (∃ arr elem, w.heap[b]? = some (.cells arr elem (0, 0)) ∧ arr.size = s) ∧ (∀ o s, f ≤ o → g.imm ⟨b, o, s⟩ = none) ∧ ∀ i, g.blk i ≠ some b
  old : Below base w0 w
  size : base ≤ w.heap.size
  /-- the key of a block ends in a number; one from 'typMark' on tells the block's type -/
  typ : ∀ i b, g.blk i = some b → ∃ d, i.st.getLast? = some d ∧ ∀ ty, d = typMark + ty → ∃ arr, w.heap[b]? = some (.cells arr ty (0, 0))

/-- The temporaries. -/
structure WT (g : G) (tm : List AV) (xs : Array Value) : Prop where
  size : tm.length = xs.size
  at' : ∀ (i : Nat) v x, tm[i]? = some v → xs[i]? = some x → RL g (.tmp i) v x

end Go.VA

/-
  The check that an abstract code is that of the program's code.
-/
namespace Go.VA
open Go

def constS : Value → Option AV
  | .bool b => some (.bool b)
  | .int k n => some (.int k n)
  | .string s => some (.str s.data.toList)
  | .pointer none => some .nilp
  | .slice none 0 0 => some .nils
  | .nilIface => some .nili
  | .nilFunc => some .nilf
  | _ => none

def constAVs : List Value → Option (List AV)
  | [] => some []
  | v :: r => match constS v, constAVs r with
    | some a, some l => some (a :: l)
    | _, _ => none

def constAV : Value → Option AV
  | .agg cs => (constAVs cs.toList).map .agg
  | v => constS v

/-- What the program's package-level variables hold. -/
abbrev Globs := Nat → Option (List AV)

def chkOpd (gl : Globs) : Operand → Opd → Bool
  | .tmp t, .tmp t' => t == t'
  | .const v, .av a => constAV v == some a
  | .func f, .av (.fn g []) => f == g
  | .global g, .av (.rptr c) => gl g == some c
  | _, _ => false

def chkOpds (gl : Globs) : List Operand → List Opd → Bool
  | [], [] => true
  | x :: l, y :: m => chkOpd gl x y && chkOpds gl l m
  | _, _ => false

def chkOpdO (gl : Globs) : Option Operand → Option Opd → Bool
  | none, none => true
  | some x, some y => chkOpd gl x y
  | _, _ => false

def isAggB (P : Program) (t : TypeId) : Bool := match P.underlying t with | some (.struct _) | some (.array _ _) => true | _ => false
def hasU (P : Program) (t : TypeId) : Bool := (P.underlying t).isSome
def szB (P : Program) (t : TypeId) (n : Nat) : Bool := match P.info? t with | some i => i.size == n | none => false
def zeroB (P : Program) (t : TypeId) (z : List AV) : Bool := match P.info? t with
  | some i => (match i.zero with | some v => constAVs v.cells.toList == some z | none => false)
  | none => false
def elemB (P : Program) (t e : TypeId) : Bool := match P.underlying t with | some (.slice e') => e == e' | _ => false

def chkParts (P : Program) (gl : Globs) (place : Nat → Option (Nat × Nat)) : List (Nat × Operand) → List (Nat × Nat × Opd) → Bool
  | [], [] => true
  | (i, x) :: l, (o, s, y) :: m => (match place i with | some (o', s') => o == o' && s == s' | none => false) && chkOpd gl x y && chkParts P gl place l m
  | _, _ => false

def chkElems (gl : Globs) : List (Nat × Operand) → List (Nat × Opd) → Bool
  | [], [] => true
  | (i, x) :: l, (j, y) :: m => i == j && chkOpd gl x y && chkElems gl l m
  | _, _ => false

def leafsF (P : Program) (rec : TypeId → Option (List LK)) : List Field → Nat → Option (List LK)
  | [], _ => some []
  | f :: r, o => (rec f.type).bind fun ks => if f.name != "_" && f.offset == o && szB P f.type ks.length then (leafsF P rec r (o + ks.length)).map (ks ++ ·) else none

/-- The kinds of the cells of a type of plain comparable values: no interface, no pointer, no float; the parts lie one behind the other. -/
def leafs (P : Program) : Nat → TypeId → Option (List LK)
  | 0, _ => none
  | d + 1, t => match P.underlying t with
    | some .bool => some [.b]
    | some (.int _) => some [.i]
    | some .string => some [.s]
    | some (.struct fs) => if P.stoodInHeld t then none else leafsF P (leafs P d) fs.toList 0
    | _ => none

def isConstB : Operand → Bool
  | .const _ => true
  | _ => false

def chkEq (P : Program) (t : TypeId) (x y : Operand) (k : EKind) : Bool :=
  match k, P.underlying t with
  | .bool, some .bool => true
  | .ptr, some (.pointer _) => true
  | .slc, some (.slice _) => true
  | .iface, some (.interface _) => isConstB x || isConstB y
  | .func, some (.func _ _ _) => true
  | .agg ks, some (.struct _) => leafs P 64 t == some ks && !P.eqGuardType P.depth t && szB P t ks.length
  | _, _ => false

def chkOp (P : Program) (gl : Globs) (op : Op) : AOp → Bool
  | .mv y => match op with
    | .move x | .assign x => chkOpd gl x y
    | _ => false
  | .pick c a b => match op with
    | .pick c' a' b' => chkOpd gl c' c && chkOpd gl a' a && chkOpd gl b' b
    | _ => false
  | .alloc z => match op with
    | .alloc t => zeroB P t z
    | _ => false
  | .allocT t z => match op with
    | .alloc t' => t' == t && zeroB P t' z
    | _ => false
  | .box _ y => match op with
    | .box _ x => chkOpd gl x y
    | _ => false
  | .build z ps => match op with
    | .build t parts => zeroB P t z && (match P.underlying t with
      | some (.struct fs) => fs.toList.all (fun f => (P.info? f.type).isSome) && chkParts P gl (fun i => (fs[i]?).map fun f => (f.offset, P.cellsOf f.type)) parts.toList ps
      | some (.array _ e) => (P.info? e).isSome && chkParts P gl (fun i => some (i * P.cellsOf e, P.cellsOf e)) parts.toList ps
      | _ => false)
    | _ => false
  | .bslice _ sz n z ps => match op with
    | .buildSlice t len parts => n == len && decide (len * sz ≤ 16777216) && (match P.underlying t with
      | some (.slice e) => szB P e sz && zeroB P e z && z.length == sz && decide (0 < sz) && z.all (fun u => u.pure && u.one) && chkElems gl parts.toList ps
      | _ => false)
    | _ => false
  | .load agg _ n b => match op with
    | .load t a => isAggB P t == agg && hasU P t && szB P t n && chkOpd gl a b
    | _ => false
  | .store n b y => match op with
    | .store t a x => szB P t n && chkOpd gl a b && chkOpd gl x y
    | _ => false
  | .nilchk y => match op with
    | .nilCheck x => chkOpd gl x y
    | _ => false
  | .bin b y1 y2 => match op with
    | .binOp b' t x1 x2 _ => b == b' && chkOpd gl x1 y1 && chkOpd gl x2 y2 
    | _ => false
  | .eq k neg y1 y2 => match op with
    | .binOp b t x1 x2 _ => chkOpd gl x1 y1 && chkOpd gl x2 y2 && chkEq P t x1 x2 k && (match b with | .eql => !neg | .neq => neg | _ => false)
    | _ => false
  | .un u y => match op with
    | .unOp u' _ x => u == u' && chkOpd gl x y
    | _ => false
  | .conv c y => match op with
    | .convert s d x => chkOpd gl x y && (match c, P.underlying s, P.underlying d with
      | .int k, some _, some (.int k') => k == k'
      | .same, some .string, some .string => true
      | .toStr, some (.slice e), some .string => (match P.underlying e with | some (.int .u8) => true | _ => false)
      | _, _, _ => false)
    | _ => false
  | .mkif t y => match op with
    | .makeInterface t' x => t == t' && chkOpd gl x y && (match P.underlying t with | some (.interface _) | none => false | _ => true)
    | _ => false
  | .mkfn f ys => match op with
    | .makeFunc (.func g) first caps => f == g && first.toList.length == 0 && chkOpds gl caps.toList ys
    | _ => false
  | .mkslc _ sz bytes z n c => match op with
    | .makeSlice t n' c' => chkOpd gl n' n && chkOpd gl c' c && (match P.underlying t with
      | some (.slice e) => (match P.info? e with | some i => i.size == sz && i.bytes == bytes | none => false) && zeroB P e z && z.length == sz && decide (0 < sz) && z.all (fun u => u.pure && u.one)
      | _ => false)
    | _ => false
  | .slice k y lo hi mx => match op with
    | .slice t x lo' hi' mx' => chkOpd gl x y && chkOpdO gl lo' lo && chkOpdO gl hi' hi && chkOpdO gl mx' mx && (match k, P.underlying t with
      | .str, some .string => true
      | .slc sz, some (.slice e) => szB P e sz
      | .arr len sz, some (.array n e) => len == n && szB P e sz
      | _, _ => false)
    | _ => false
  | .faddr off y => match op with
    | .fieldAddr t x i => chkOpd gl x y && (match P.underlying t with
      | some (.struct fs) => (match fs[i]? with | some f => f.offset == off && (match P.info? f.type with | some i => i.size != 0 | none => false) | none => false)
      | _ => false)
    | _ => false
  | .field agg off n y => match op with
    | .field t x i => chkOpd gl x y && (match P.underlying t with
      | some (.struct fs) => (match fs[i]? with | some f => f.offset == off && isAggB P f.type == agg && hasU P f.type && szB P f.type n | none => false)
      | _ => false)
    | _ => false
  | .iaddr arr sz y j => match op with
    | .indexAddr t x i => chkOpd gl x y && chkOpd gl i j && (match arr, P.underlying t with
      | none, some (.slice e) => szB P e sz
      | some n, some (.array n' e) => n == n' && szB P e sz
      | _, _ => false)
    | _ => false
  | .ixarr agg len sz y j => match op with
    | .index t x i => chkOpd gl x y && chkOpd gl i j && (match P.underlying t with
      | some (.array n e) => n == len && szB P e sz && isAggB P e == agg && hasU P e
      | _ => false)
    | _ => false
  | .ixstr y j => match op with
    | .index t x i => chkOpd gl x y && chkOpd gl i j && (match P.underlying t with | some .string => true | _ => false)
    | _ => false
  | .lookup z ok y j => match op with
    | .lookup t x i ok' => ok == ok' && chkOpd gl x y && chkOpd gl i j && (match P.underlying t with
      | some (.map k e) => (match P.underlying k with | some .string => true | _ => false) && (match P.info? e with | some i => (match i.zero with | some v => constAV v == some z | none => false) | none => false)
      | _ => false)
    | _ => false
  | .tassert t ok z y => match op with
    | .typeAssert x _ t' ok' => t == t' && ok == ok' && chkOpd gl x y && (match P.underlying t with | some (.interface _) | none => false | _ => true) &&
        (!ok || (match P.info? t with | some i => (match i.zero with | some v => constAV v == some z | none => false) | none => false))
    | _ => false
  | .extract y i => match op with
    | .extract x i' => i == i' && chkOpd gl x y
    | _ => false
  | .call f ys => match op with
    | .call { callee := .value g, args, .. } => chkOpd gl g f && chkOpds gl args.toList ys
    | _ => false
  | .invoke m y ys => match op with
    | .call { callee := .invoke r m', args, .. } => m == m' && chkOpd gl r y && chkOpds gl args.toList ys
    | _ => false
  | .len str y => match op with
    | .call { callee := .builtin .len, args, argTypes } => (match args.toList, argTypes.toList with
      | [x], [t] => chkOpd gl x y && (match str, P.underlying t with | true, some .string => true | false, some (.slice _) => true | _, _ => false)
      | _, _ => false)
    | _ => false
  | .append sz bytes y1 y2 => match op with
    | .call { callee := .builtin .append, args, argTypes } => (match args.toList, argTypes.toList with
      | [x1, x2], [t, u] => chkOpd gl x1 y1 && chkOpd gl x2 y2 &&
        (match P.underlying t with
          | some (.slice e) => (match P.info? e with | some i => i.size == sz && i.bytes == bytes && (match i.zero with | some z => z.cells.size == i.size | none => false) && decide (0 < i.bytes) && decide (0 < i.size) | none => false)
          | _ => false) &&
        (match P.underlying u with | some (.slice _) | some .string => true | _ => false)
      | _, _ => false)
    | _ => false
  | .min2 y1 y2 => match op with
    | .call { callee := .builtin .min, args, .. } => chkOpds gl args.toList [y1, y2]
    | _ => false
  | .max2 y1 y2 => match op with
    | .call { callee := .builtin .max, args, .. } => chkOpds gl args.toList [y1, y2]
    | _ => false

def chkGuard (ops : Array Oper) : Option (Nat × Bool) → Option (Nat × Bool) → Bool
  | none, none => true
  | some (j, want), some (t, want') => want == want' && ((ops[j]?).bind (·.dst)) == some t
  | _, _ => false

def chkOper (P : Program) (gl : Globs) (ops : Array Oper) (o : Oper) (ao : AOper) : Bool :=
  o.dst == ao.dst && chkOp P gl o.op ao.op && chkGuard ops o.guard ao.guard && decide (ao.dst.getD 0 < typMark)

def chkOps (P : Program) (gl : Globs) (ops : Array Oper) : List Oper → List AOper → Bool
  | [], [] => true
  | o :: l, ao :: m => chkOper P gl ops o ao && chkOps P gl ops l m
  | _, _ => false

/-- The temporaries that an operation reads or writes. -/
def opdT : Opd → List Nat
  | .tmp t => [t]
  | .av _ => []

def AOp.opds : AOp → List Opd
  | .mv x | .box _ x | .load _ _ _ x | .nilchk x | .un _ x | .conv _ x | .mkif _ x | .faddr _ x | .field _ _ _ x | .tassert _ _ _ x | .extract x _ | .len _ x => [x]
  | .pick c a b => [c, a, b]
  | .alloc _ | .allocT _ _ => []
  | .build _ ps => ps.map (·.2.2)
  | .bslice _ _ _ _ ps => ps.map (·.2)
  | .store _ a x | .bin _ a x | .eq _ _ a x | .mkslc _ _ _ _ a x | .iaddr _ _ a x | .ixarr _ _ _ a x | .ixstr a x | .lookup _ _ a x | .append _ _ a x | .min2 a x | .max2 a x => [a, x]
  | .mkfn _ l => l
  | .slice _ x lo hi mx => x :: (lo.toList ++ hi.toList ++ mx.toList)
  | .call f l => f :: l
  | .invoke _ x l => x :: l

def AOper.reads (o : AOper) : List Nat := o.op.opds.flatMap opdT ++ (o.guard.map (·.1)).toList
def AOper.names (o : AOper) : List Nat := o.dst.toList ++ o.reads

/-- Does an operation not look at the memory? -/
def AOp.still : AOp → Bool
  | .alloc _ | .allocT _ _ | .box false _ | .bslice false _ _ _ _ | .load _ _ _ _ | .store _ _ _ | .mkslc false _ _ _ _ _ | .call _ _ | .invoke _ _ _ => false
  | _ => true

def direct (o : Oper) : List Nat := (o.after.toList.filter fun e => Region.binds .any e).map (·.on)

/-- Is operation i always ahead of j? -/
def path (ops : Array Oper) (i : Nat) : Nat → Nat → Bool
  | 0, _ => false
  | n + 1, j => match ops[j]? with
    | some o => (direct o).any fun e => e == i || path ops i n e
    | none => false

/-- Does an operation leave the memory, as it is run at place k? -/
def AOper.quiet (k : Nat) (o : AOper) : Bool := o.op.still || (match o.op with | .load _ t _ _ => !t | op => o.apart.contains k && !op.isMem)

def AOper.writes (o : AOper) : List Nat := o.dst.toList ++ o.take
def AOper.names' (o : AOper) : List Nat := o.dst.toList ++ (o.reads ++ o.take)

/-- What y writes, what it is guarded by, whose right it takes. -/
def AOper.hard (o : AOper) : List Nat := o.dst.toList ++ ((o.guard.map (·.1)).toList ++ o.take)
/-- Does x leave y's names alone? Where x takes a right to append alone, y may still read. -/
def AOper.free (x y : AOper) : Bool := (x.dst.toList.all fun t => !y.names'.contains t) && (x.take.all fun t => !y.hard.contains t)

/-- May these two (the first one, at place i, ahead in the text) be left without order? -/
def mayMix (i j : Nat) (x y : AOper) : Bool :=
  x.free y && y.free x &&
  (x.op.still || y.op.still || (x.quiet i && y.quiet j) || (y.apart.contains i && (x.op.isMem || x.op.isNew) && (y.op.isMem || y.op.isNew) && !(x.op.isNew && y.op.isNew) && (x.op.isMem || !x.apart.contains i) && (y.op.isMem || !y.apart.contains j)) ||
    (x.apart.contains i && !x.op.isMem && y.op.isNew && !y.apart.contains j))

def drawOk (ops : Array Oper) (aops : List AOper) : Bool :=
  (ops.toList.zipIdx.all fun (o, j) => (direct o).all fun e => e < j) &&
  (aops.zipIdx.all fun (x, i) => aops.zipIdx.all fun (y, j) => !(i < j) || mayMix i j x y || path ops i ops.size j)

/-- No range over a function in it. -/
def ACode.flat : ACode → Bool
  | .rangeI .. => false
  | .seq a b => a.flat && b.flat
  | .cond _ a b => a.flat && b.flat
  | .block _ c | .loop c | .cut _ _ c => c.flat
  | .cset _ _ _ _ _ _ _ _ _ _ _ _ c => c.flat
  | _ => true

def chkMaker (gl : Globs) (o : Oper) (f : FuncId) (args : List Opd) (t : Nat) : Bool :=
  o.dst == some t && o.guard.isNone && (match o.op with
    | .call { callee := .value (.func g), args := as, .. } => g == f && chkOpds gl as.toList args
    | _ => false)

def chkMv (gl : Globs) (o : Oper) (d : Nat) (y : Opd) : Bool := o.dst == some d && o.guard.isNone && (match o.op with | .move x | .assign x => chkOpd gl x y | _ => false)
def chkPl (P : Program) (gl : Globs) (o : Oper) (d : Nat) (a : AOp) : Bool := o.dst == some d && o.guard.isNone && chkOp P gl o.op a
def chkSt (P : Program) (gl : Globs) (o : Oper) (a x : Nat) : Bool := o.dst.isNone && o.guard.isNone && chkOp P gl o.op (.store 1 (.tmp a) (.tmp x))

/-- The region that writes two cells of t's element. -/
def chkSet (P : Program) (gl : Globs) (ops : List Oper) (t sz : Nat) (i : Opd) (o1 : Nat) (v1 : Opd) (o2 : Nat) (v2 : Opd) (ds : List Nat) : Bool :=
  match ops, ds with
  | [m1, m2, m3, m4, m5, m6, a1, f1, s1, a2, f2, s2], [d1, d2, d3, d4, d5, d6, p1, q1, p2, q2] =>
    chkMv gl m1 d1 (.tmp t) && chkMv gl m2 d2 i && chkMv gl m3 d3 (.tmp t) && chkMv gl m4 d4 i && chkMv gl m5 d5 v1 && chkMv gl m6 d6 v2 &&
    chkPl P gl a1 p1 (.iaddr none sz (.tmp d1) (.tmp d2)) && chkPl P gl f1 q1 (.faddr o1 (.tmp p1)) && chkSt P gl s1 q1 d5 &&
    chkPl P gl a2 p2 (.iaddr none sz (.tmp d3) (.tmp d4)) && chkPl P gl f2 q2 (.faddr o2 (.tmp p2)) && chkSt P gl s2 q2 d6
  | _, _ => false

/-- The region's head: the copy. -/
def chkCopy (gl : Globs) (ops : List Oper) (f : FuncId) (x : Opd) (t0 t : Nat) : Bool :=
  match ops with
  | [oc, om] => oc.dst == some t0 && oc.guard.isNone && (match oc.op with | .call { callee := .value (.func g), args := as, .. } => g == f && chkOpds gl as.toList [x] | _ => false) && chkMv gl om t (.tmp t0)
  | _ => false

def chkCode (P : Program) (gl : Globs) : Code → ACode → Bool
  | c, .cut _ _ ac => chkCode P gl c ac
  | .skip, .skip => true
  | .region _ ops draw, .reg draw' aops => draw == draw' && chkOps P gl ops ops.toList aops && (!draw || drawOk ops aops)
  | .seq a b, .seq a' b' => chkCode P gl a a' && chkCode P gl b b'
  | .cond c a b, .cond c' a' b' => chkOpd gl c c' && chkCode P gl a a' && chkCode P gl b b'
  | .block id c, .block id' c' => id == id' && chkCode P gl c c'
  | .loop c, .loop c' => chkCode P gl c c'
  | .exit id, .exit id' => id == id'
  | .ret, .ret => true
  | .seq (.region _ ops1 false) (.seq (.region _ ops2 false) c'), .cset pre f x t0 t sz i o1 v1 o2 v2 ds c =>
      chkOps P gl ops1 (ops1.toList.take (ops1.size - 2)) pre && chkCopy gl (ops1.toList.drop (ops1.size - 2)) f x t0 t && chkSet P gl ops2.toList t sz i o1 v1 o2 v2 ds &&
      decide ((t :: t0 :: ds).Nodup) && ([i, v1, v2].all fun y => (opdT y).all fun k => !(t :: t0 :: ds).contains k) && chkCode P gl c' c
  | .seq (.region _ ops false) (.block b' (.rangeFunc (.tmp t') ps' asg' body')), .rangeI b pre f args t ps asg body =>
      b == b' && t == t' && ps'.toList == ps && chkOps P gl ops ops.toList.dropLast pre && (match ops.toList.getLast? with | some o => chkMaker gl o f args t | none => false) &&
      asg.flat && body.flat && chkCode P gl asg' asg && chkCode P gl body' body
  | _, _ => false

def chkRes (P : Program) : ResultVar → ARes → Bool
  | .tmp t, .tmp t' => t == t'
  | .cell a t, .cell agg n t' => a == t' && isAggB P t == agg && hasU P t && szB P t n
  | _, _ => false

def chkRess (P : Program) : List ResultVar → List ARes → Bool
  | [], [] => true
  | x :: l, y :: m => chkRes P x y && chkRess P l m
  | _, _ => false

def chkFunc (P : Program) (gl : Globs) (f : FuncId) (af : AFunc) : Bool :=
  match P.funcs[f]? with
  | some fn => fn.ntmps == af.ntmps && fn.name != "runtime.NumGoroutine" && chkRess P fn.results.toList af.results && (match fn.body with | some c => chkCode P gl c af.body | none => false)
  | none => false

end Go.VA

/-
  What the desk's package variables hold.
-/
namespace Go.VA
open Go

/-- The roles for which the words of entries are not. -/
def rolesAV : List AV := [.map [.tup [.str [100,105,118,101], .nils], .tup [.str [102,105,108,108], .slc 1 [.int .i64 1] .unk], .tup [.str [102,105,120], .slc 1 [.int .i64 1, .int .i64 2] .unk],
  .tup [.str [107,105,116], .slc 1 [.int .i64 1] .unk], .tup [.str [112,108,97,110], .nils], .tup [.str [114,101,99,111,114,100], .nils], .tup [.str [115,105,103,110], .nils]]]

end Go.VA

/-
  Operations that leave the memory alone: the machine's result is the abstract one.
-/
namespace Go.VA
open Go Go.RowKit

/-- What the variables hold is there. -/
def GlobOK (gl : Globs) (g : G) : Prop := ∀ n c, gl n = some c → RV g.imm g.map (fun _ => none) (.rptr c) (.pointer (some ⟨n, 0, none⟩))

section
variable {P : Program} {gl : Globs} {g : G} {tm : List AV} {a : Act} {take : List Nat} {base : Nat} {w0 w : World} {mem mem' : Mem}

theorem constS_rv {imm : Addr → Option Value} {map : Nat → Option Obj} {blk : Id → Option Nat} (x : Value) {v : AV} (h : constS x = some v) : RV imm map blk v x := by
  unfold constS at h
  split at h <;> first
    | (cases h; done)
    | (simp only [Option.some.injEq] at h; subst h; constructor)
theorem constAVs_rv {imm : Addr → Option Value} {map : Nat → Option Obj} {blk : Id → Option Nat} : ∀ (xs : List Value) {l : List AV}, constAVs xs = some l →
    l.length = xs.length ∧ ∀ (i : Nat) u x, l[i]? = some u → xs[i]? = some x → RV imm map blk u x
  | [], l, h => by simp only [constAVs, Option.some.injEq] at h; subst h; simp
  | v :: r, l, h => by
    simp only [constAVs] at h
    split at h
    · rename_i a m h1 h2
      simp only [Option.some.injEq] at h
      subst h
      obtain ⟨h3, h4⟩ := constAVs_rv r h2
      refine ⟨by simp [h3], fun i u x hu hx => ?_⟩
      cases i with
      | zero =>
        simp only [List.length_cons, Nat.zero_lt_succ, List.getElem?_eq_getElem, List.getElem_cons_zero, Option.some.injEq] at hu hx
        subst hu; subst hx
        exact constS_rv v h1
      | succ i => exact h4 i u x (by simpa using hu) (by simpa using hx)
    · cases h
theorem constAV_rv {imm : Addr → Option Value} {map : Nat → Option Obj} {blk : Id → Option Nat} (x : Value) {v : AV} (h : constAV x = some v) : RV imm map blk v x := by
  unfold constAV at h
  split at h
  · rename_i cs
    simp only [Option.map_eq_some_iff] at h
    obtain ⟨l, hl, rfl⟩ := h
    obtain ⟨h1, h2⟩ := constAVs_rv cs.toList hl
    exact .agg l cs (by simpa using h1) fun i u x hu hx => h2 i u x hu (by simpa using hx)
  · exact constS_rv x h

theorem WT.get (hT : WT g tm a.tmps) (t : Nat) : RL g (.tmp t) (getT tm t) (a.tmps.getD t undef) := by
  unfold getT
  by_cases h : t < tm.length
  · have h' : t < a.tmps.size := hT.size ▸ h
    exact hT.at' t _ _ (by simp [List.getD, h]) (by simp [Array.getD, h'])
  · have h' : ¬ t < a.tmps.size := hT.size ▸ h
    rw [show tm.getD t .undef = .undef by simp [List.getD, List.getElem?_eq_none (by omega : tm.length ≤ t)]]
    exact .val (.undef _)

theorem rv_opd (hT : WT g tm a.tmps) (hgl : GlobOK gl g) {x : Operand} {y : Opd} (h : chkOpd gl x y = true) : RV g.imm g.map g.blk (rho tm take y).strip (a.eval x) := by
  cases x with
  | tmp t =>
    cases y with
    | tmp t' =>
      obtain rfl : t = t' := by simpa [chkOpd] using h
      have h1 := (hT.get t).strip
      show RV g.imm g.map g.blk (if t ∈ take then getT tm t else (getT tm t).strip).strip (a.tmps.getD t undef)
      split
      · exact h1
      · exact h1.strip
    | av v => simp [chkOpd] at h
  | const v =>
    cases y with
    | tmp t => simp [chkOpd] at h
    | av u => exact (constAV_rv v (show constAV v = some u by simpa [chkOpd] using h)).strip
  | global n =>
    cases y with
    | tmp t => simp [chkOpd] at h
    | av u =>
      cases u with
      | rptr c => exact ((hgl n c (by simpa [chkOpd] using h)).mono (fun _ _ h => h) (fun _ _ h => h) (by simp)).strip
      | _ => simp [chkOpd] at h
  | func f =>
    cases y with
    | tmp t => simp [chkOpd] at h
    | av u =>
      cases u with
      | fn f' l =>
        cases l with
        | nil =>
          obtain rfl : f = f' := by simpa [chkOpd] using h
          exact .fn f [] #[] rfl (by simp)
        | cons _ _ => simp [chkOpd] at h
      | _ => simp [chkOpd] at h

/-- An operand of a form that bears no right to append. -/
theorem rv_at (hT : WT g tm a.tmps) (hgl : GlobOK gl g) {x : Operand} {y : Opd} {v : AV} (h : chkOpd gl x y = true) (hv : rho tm take y = v) (hs : v.strip = v) : RV g.imm g.map g.blk v (a.eval x) := by
  have := rv_opd (take := take) hT hgl h
  rwa [hv, hs] at this

theorem rv_opds (take : List Nat) (hT : WT g tm a.tmps) (hgl : GlobOK gl g) : ∀ {xs : List Operand} {ys : List Opd}, chkOpds gl xs ys = true →
    xs.length = ys.length ∧ ∀ (i : Nat) u x, (ys.map fun y => (rho tm take y).strip)[i]? = some u → (xs.map a.eval)[i]? = some x → RV g.imm g.map g.blk u x
  | [], [], _ => ⟨rfl, fun i u x h => by simp at h⟩
  | [], _ :: _, h => by simp [chkOpds] at h
  | _ :: _, [], h => by simp [chkOpds] at h
  | x :: l, y :: m, h => by
    simp only [chkOpds, Bool.and_eq_true] at h
    obtain ⟨h1, h2⟩ := rv_opds take hT hgl h.2
    refine ⟨by simp [h1], fun i u v hu hv => ?_⟩
    cases i with
    | zero =>
      simp only [List.map_cons, List.length_cons, Nat.zero_lt_succ, List.getElem?_eq_getElem, List.getElem_cons_zero, Option.some.injEq] at hu hv
      subst hu; subst hv
      exact rv_opd hT hgl h.1
    | succ i => exact h2 i u v (by simpa using hu) (by simpa using hv)

theorem szB_spec {t : TypeId} {n : Nat} (h : szB P t n = true) : ∃ i, P.info? t = some i ∧ i.size = n := by
  unfold szB at h
  split at h
  · rename_i i hi; exact ⟨i, hi, by simpa using h⟩
  · cases h

theorem isAgg_run {t : TypeId} (h : hasU P t = true) (w : World) : (isAgg t).run P w = .ok (isAggB P t) w := by
  obtain ⟨d, hd⟩ := Option.isSome_iff_exists.1 h
  unfold isAgg isAggB
  simp only [hd]
  cases d <;> simp [run_underlying hd]

theorem sizeOf_run {t : TypeId} {n : Nat} (h : szB P t n = true) (w : World) : (sizeOf t).run P w = .ok n w := by
  obtain ⟨i, hi, rfl⟩ := szB_spec h
  simp [sizeOf, typeInfo, hi]

/-- 'part'. -/
theorem part_run {t : TypeId} {agg : Bool} {off n : Nat} (hu : hasU P t = true) (ha : isAggB P t = agg) (hn : szB P t n = true) {imm : Addr → Option Value} {map : Nat → Option Obj} {blk : Id → Option Nat}
    {c : List AV} {cs : Array Value} (h : RV imm map blk (.agg c) (.agg cs)) {v : AV} (he : VA.part agg c off n = some v) (w : World) :
    ∃ x, (Go.part t cs off).run P w = .ok x w ∧ RV imm map blk v x := by
  cases h with
  | agg _ _ hl h =>
  unfold VA.part at he
  unfold Go.part
  subst ha
  cases hb : isAggB P t with
  | false =>
    simp only [hb, Bool.false_eq_true, if_false] at he
    have ho : off < cs.size := by have := (List.getElem?_eq_some_iff.1 he).1; omega
    refine ⟨cs[off], ?_, h off v _ he (by simp [ho])⟩
    simp [isAgg_run hu, hb, ho]
  | true =>
    simp only [hb, if_true] at he
    split at he
    · rename_i hle
      simp only [Option.some.injEq] at he
      subst he
      refine ⟨.agg (cs.extract off (off + n)), by simp [isAgg_run hu, hb, sizeOf_run hn], .agg _ _ (by simp; omega) fun i u x hi hx => ?_⟩
      have hin : i < n := by have := (List.getElem?_eq_some_iff.1 hi).1; simp at this; omega
      refine h (off + i) u x ?_ ?_
      · rw [List.getElem?_take_of_lt hin, List.getElem?_drop] at hi; exact hi
      · rw [Array.getElem?_extract] at hx
        split at hx
        · exact hx
        · cases hx
    · cases he

end
end Go.VA

/-
  Operations that leave the memory alone, one by one.
-/
namespace Go.VA
open Go Go.RowKit

def Plain (P : Program) (g : G) (a : Act) (w : World) (mem : Mem) (op : Op) (r : AV × Mem) : Prop :=
  r.2 = mem ∧ ∃ x, (∀ dst ty pos after guard, (execOp a.eval ⟨dst, op, ty, pos, after, guard⟩).run P w = .ok (.value x) w) ∧ RV g.imm g.map g.blk r.1 x

section
variable {P : Program} {gl : Globs} {g : G} {tm : List AV} {a : Act} {take : List Nat} {base : Nat} {w0 w : World} {mem : Mem} {d : Nat} {r : AV × Mem} {op : Op}

theorem op_pick (hT : WT g tm a.tmps) (hgl : GlobOK gl g) {c x y : Opd} (hc : chkOp P gl op (.pick c x y) = true) (he : evOp mem d (rho tm take) (.pick c x y) = some r) : Plain P g a w mem op r := by
  cases op <;> simp only [chkOp, Bool.false_eq_true] at hc
  rename_i c' x' y'
  simp only [Bool.and_eq_true] at hc
  simp only [evOp] at he
  split at he
  · rename_i t ht
    cases he
    have h1 := rv_at hT hgl hc.1.1 ht rfl
    have h2 := rv_opd (take := take) hT hgl hc.1.2
    have h3 := rv_opd (take := take) hT hgl hc.2
    generalize hz : a.eval c' = z at h1
    cases h1
    refine ⟨rfl, if t then a.eval x' else a.eval y', fun _ _ _ _ _ => by simp [execOp, hz, asBool], ?_⟩
    cases t
    · exact h3
    · exact h2
  · cases he

theorem op_nilchk (hT : WT g tm a.tmps) (hgl : GlobOK gl g) {y : Opd} (hc : chkOp P gl op (.nilchk y) = true) (he : evOp mem d (rho tm take) (.nilchk y) = some r) : Plain P g a w mem op r := by
  cases op <;> simp only [chkOp, Bool.false_eq_true] at hc
  rename_i x'
  simp only [evOp] at he
  split at he
  · rename_i l hl
    cases he
    have h1 := rv_at hT hgl hc hl rfl
    refine ⟨rfl, a.eval x', fun _ _ _ _ _ => ?_, h1⟩
    generalize hz : a.eval x' = z at h1
    cases h1
    simp [execOp, hz]
  · rename_i i o hl
    cases he
    have h1 := rv_at hT hgl hc hl rfl
    refine ⟨rfl, a.eval x', fun _ _ _ _ _ => ?_, h1⟩
    generalize hz : a.eval x' = z at h1
    cases h1
    simp [execOp, hz]
  · rename_i f c hl
    cases he
    have h1 := rv_at hT hgl hc hl rfl
    refine ⟨rfl, a.eval x', fun _ _ _ _ _ => ?_, h1⟩
    generalize hz : a.eval x' = z at h1
    cases h1
    simp [execOp, hz]
  · cases he

theorem op_mkif (hT : WT g tm a.tmps) (hgl : GlobOK gl g) {t : TypeId} {y : Opd} (hc : chkOp P gl op (.mkif t y) = true) (he : evOp mem d (rho tm take) (.mkif t y) = some r) : Plain P g a w mem op r := by
  cases op <;> simp only [chkOp, Bool.false_eq_true] at hc
  rename_i t' x'
  simp only [Bool.and_eq_true, beq_iff_eq] at hc
  obtain ⟨⟨rfl, h1⟩, h2⟩ := hc
  simp only [evOp, Option.some.injEq] at he
  subst he
  refine ⟨rfl, .iface t (a.eval x'), fun _ _ _ _ _ => ?_, .iface _ _ _ (rv_opd hT hgl h1)⟩
  simp only [execOp, Instr.makeInterface]
  cases hu : P.underlying t with
  | none => simp [hu] at h2
  | some d => cases d <;> first | (simp [hu] at h2; done) | simp [run_underlying hu]

theorem op_mkfn (hT : WT g tm a.tmps) (hgl : GlobOK gl g) {f : FuncId} {ys : List Opd} (hc : chkOp P gl op (.mkfn f ys) = true) (he : evOp mem d (rho tm take) (.mkfn f ys) = some r) : Plain P g a w mem op r := by
  cases op <;> simp only [chkOp, Bool.false_eq_true] at hc
  rename_i fn first caps
  cases fn <;> simp only [Bool.false_eq_true] at hc
  rename_i f'
  simp only [Bool.and_eq_true, beq_iff_eq] at hc
  obtain ⟨⟨rfl, h1⟩, h2⟩ := hc
  simp only [evOp, Option.some.injEq] at he
  subst he
  obtain ⟨h3, h4⟩ := rv_opds take hT hgl h2
  have hf : first = #[] := by cases first; simpa using h1
  subst hf
  refine ⟨rfl, .func (.func f) #[] (caps.map a.eval), fun _ _ _ _ _ => by simp [execOp, Instr.makeFunc], .fn _ _ _ (by simpa using h3.symm) fun i u x hu hx => h4 i u x hu ?_⟩
  rw [← hx, ← Array.getElem?_toList]; simp

theorem op_faddr (hT : WT g tm a.tmps) (hgl : GlobOK gl g) {off : Nat} {y : Opd} (hc : chkOp P gl op (.faddr off y) = true) (he : evOp mem d (rho tm take) (.faddr off y) = some r) : Plain P g a w mem op r := by
  cases op <;> simp only [chkOp, Bool.false_eq_true] at hc
  rename_i t x' i
  simp only [Bool.and_eq_true] at hc
  obtain ⟨h1, h2⟩ := hc
  have key : ∃ fs f j, P.underlying t = some (.struct fs) ∧ fs[i]? = some f ∧ f.offset = off ∧ P.info? f.type = some j ∧ j.size ≠ 0 := by
    split at h2
    · rename_i fs hfs
      split at h2
      · rename_i f hf
        simp only [Bool.and_eq_true, beq_iff_eq] at h2
        obtain ⟨h3, h4⟩ := h2
        split at h4
        · rename_i j hj
          exact ⟨fs, f, j, hfs, hf, h3, hj, by simpa using h4⟩
        · cases h4
      · cases h2
    · cases h2
  obtain ⟨fs, f, j, hfs, hf, rfl, hj, hj0⟩ := key
  have run : ∀ b o, a.eval x' = .pointer (some ⟨b, o, none⟩) → ∀ dst ty pos after guard,
      (execOp a.eval ⟨dst, .fieldAddr t x' i, ty, pos, after, guard⟩).run P w = .ok (.value (.pointer (some ⟨b, o + f.offset, none⟩))) w := by
    intro b o hz _ _ _ _ _
    simp [execOp, Instr.fieldAt, run_underlying hfs, hf, hz, Instr.sureAddr, fieldPlace, sizeOf, typeInfo, hj, hj0, Addr.add_lit]
  simp only [evOp] at he
  split at he
  · rename_i l hl
    cases he
    have h1 := rv_at hT hgl h1 hl rfl
    generalize hz : a.eval x' = z at h1
    cases h1 with
    | rptr _ b o vs hp hi h =>
    exact ⟨rfl, _, run b o hz, .rptr _ b _ (fun k => vs (f.offset + k)) (fun u hu => hp u (List.mem_of_mem_drop hu))
      (fun k hk => by rw [Nat.add_assoc]; exact hi _ (by simp at hk; omega)) (fun k u hu => h _ u (by rw [List.getElem?_drop] at hu; exact hu))⟩
  · rename_i i' o' hl
    cases he
    have h1 := rv_at hT hgl h1 hl rfl
    generalize hz : a.eval x' = z at h1
    cases h1 with
    | ptr _ _ b hb => exact ⟨rfl, _, run b _ hz, .ptr _ _ b hb⟩
  · cases he

theorem op_field (hT : WT g tm a.tmps) (hgl : GlobOK gl g) {agg : Bool} {off n : Nat} {y : Opd} (hc : chkOp P gl op (.field agg off n y) = true) (he : evOp mem d (rho tm take) (.field agg off n y) = some r) : Plain P g a w mem op r := by
  cases op <;> simp only [chkOp, Bool.false_eq_true] at hc
  rename_i t x' i
  simp only [Bool.and_eq_true] at hc
  obtain ⟨h1, h2⟩ := hc
  simp only [evOp] at he
  split at he
  · rename_i c hl
    simp only [Option.map_eq_some_iff] at he
    obtain ⟨v, hv, rfl⟩ := he
    have h3 := rv_at hT hgl h1 hl rfl
    generalize hz : a.eval x' = z at h3
    cases h3 with
    | agg _ cs hl' h' =>
    split at h2
    · rename_i fs hfs
      split at h2
      · rename_i f hf
        simp only [Bool.and_eq_true, beq_iff_eq] at h2
        obtain ⟨⟨⟨rfl, h5⟩, h6⟩, h7⟩ := h2
        obtain ⟨x, hx, hr⟩ := part_run h6 h5 h7 (.agg _ cs hl' h') hv w
        exact ⟨rfl, x, fun _ _ _ _ _ => by simp [execOp, Instr.field, run_underlying hfs, hf, hz, asAgg, hx], hr⟩
      · cases h2
    · cases h2
  · cases he

theorem op_extract (hT : WT g tm a.tmps) (hgl : GlobOK gl g) {y : Opd} {i : Nat} (hc : chkOp P gl op (.extract y i) = true) (he : evOp mem d (rho tm take) (.extract y i) = some r) : Plain P g a w mem op r := by
  cases op <;> simp only [chkOp, Bool.false_eq_true] at hc
  rename_i x' i'
  simp only [Bool.and_eq_true, beq_iff_eq] at hc
  obtain ⟨rfl, h1⟩ := hc
  simp only [evOp] at he
  split at he
  · rename_i c hl
    simp only [Option.map_eq_some_iff] at he
    obtain ⟨v, hv, rfl⟩ := he
    have h3 := rv_at hT hgl h1 hl rfl
    generalize hz : a.eval x' = z at h3
    cases h3 with
    | tup _ xs hl' h' =>
    have ho : i < xs.size := by have := (List.getElem?_eq_some_iff.1 hv).1; omega
    exact ⟨rfl, xs[i], fun _ _ _ _ _ => by simp [execOp, Instr.extract, hz, ho], h' i v _ hv (by simp [ho])⟩
  · cases he

theorem op_ixarr (hT : WT g tm a.tmps) (hgl : GlobOK gl g) {agg : Bool} {len sz : Nat} {y j : Opd} (hc : chkOp P gl op (.ixarr agg len sz y j) = true) (he : evOp mem d (rho tm take) (.ixarr agg len sz y j) = some r) : Plain P g a w mem op r := by
  cases op <;> simp only [chkOp, Bool.false_eq_true] at hc
  rename_i t x' i'
  simp only [Bool.and_eq_true] at hc
  obtain ⟨⟨h1, h2⟩, h3⟩ := hc
  simp only [evOp] at he
  split at he
  · rename_i c k n hx hi
    split at he
    · rename_i hn
      simp only [Option.map_eq_some_iff] at he
      obtain ⟨v, hv, rfl⟩ := he
      have h4 := rv_at hT hgl h1 hx rfl
      have h5 := rv_at hT hgl h2 hi rfl
      generalize hz : a.eval x' = z at h4
      generalize hz2 : a.eval i' = z2 at h5
      cases h4 with
      | agg _ cs hl' h' =>
      cases h5
      split at h3
      · rename_i m e he'
        simp only [Bool.and_eq_true, beq_iff_eq] at h3
        obtain ⟨⟨⟨rfl, h6⟩, h7⟩, h8⟩ := h3
        obtain ⟨x, hx, hr⟩ := part_run h8 h7 h6 (.agg _ cs hl' h') hv w
        exact ⟨rfl, x, fun _ _ _ _ _ => by simp [execOp, Instr.index, hz, hz2, asIntOf, run_underlying he', hn, sizeOf_run h6, hx], hr⟩
      · cases h3
    · cases he
  · cases he

theorem op_ixstr (hT : WT g tm a.tmps) (hgl : GlobOK gl g) {y j : Opd} (hc : chkOp P gl op (.ixstr y j) = true) (he : evOp mem d (rho tm take) (.ixstr y j) = some r) : Plain P g a w mem op r := by
  cases op <;> simp only [chkOp, Bool.false_eq_true] at hc
  rename_i t x' i'
  simp only [Bool.and_eq_true] at hc
  obtain ⟨⟨h1, h2⟩, h3⟩ := hc
  simp only [evOp] at he
  split at he
  · rename_i s k n hx hi
    split at he
    · rename_i hn
      simp only [Option.map_eq_some_iff] at he
      obtain ⟨v, hv, rfl⟩ := he
      have h4 := rv_at hT hgl h1 hx rfl
      have h5 := rv_at hT hgl h2 hi rfl
      generalize hz : a.eval x' = z at h4
      generalize hz2 : a.eval i' = z2 at h5
      cases h4
      cases h5
      split at h3
      · rename_i he'
        obtain ⟨ho, rfl⟩ := List.getElem?_eq_some_iff.1 hv
        have ho' : n.toNat < (ByteArray.mk s.toArray).size := by simpa [ByteArray.size] using ho
        refine ⟨rfl, _, fun _ _ _ _ _ => ?_, .int .u8 _⟩
        have hg : (ByteArray.mk s.toArray)[n.toNat]? = some s[n.toNat] := by
          rw [getElem?_pos (ByteArray.mk s.toArray) n.toNat ho']; rfl
        simp [execOp, Instr.index, hz, hz2, asIntOf, run_underlying he', hn, hg]
      · cases h3
    · cases he
  · cases he

end
end Go.VA

/-
  Operations that leave the memory alone: arithmetic, comparisons, slices, addresses.
-/
namespace Go.VA
open Go Go.RowKit

theorem bytes_toList (l : List UInt8) : (ByteArray.mk l.toArray).toList = l := by
  rw [ByteArray.toList_eq]

theorem bytesLess_eq : ∀ (a b : List UInt8), Op.bytesLess a b = VA.bytesLess a b
  | _, [] => by simp [Op.bytesLess, VA.bytesLess]
  | [], _ :: _ => by simp [Op.bytesLess, VA.bytesLess]
  | a :: x, b :: y => by simp [Op.bytesLess, VA.bytesLess, bytesLess_eq x y]

section
variable {P : Program} {gl : Globs} {g : G} {tm : List AV} {a : Act} {take : List Nat} {base : Nat} {w0 w : World} {mem : Mem} {d : Nat} {r : AV × Mem} {op : Op}
variable {imm : Addr → Option Value} {map : Nat → Option Obj} {blk : Id → Option Nat}

theorem binInt_run {op : BinOp} {t : TypeId} {k k' : IntKind} {x y : Int} {v : AV} (h : binInt op k x k' y = some v) (w : World) :
    ∃ z, (binOp op t (.int k x) (.int k' y)).run P w = .ok z w ∧ RV imm map blk v z := by
  cases op <;> simp only [binInt] at h
  case shl =>
    split at h
    · cases h
    · rename_i hy
      cases h
      exact ⟨_, by simp [binOp, Op.shift, hy], .int _ _⟩
  case shr =>
    split at h
    · cases h
    · rename_i hy
      cases h
      exact ⟨_, by simp [binOp, Op.shift, hy], .int _ _⟩
  case quo =>
    split at h
    · split at h
      · cases h
      · rename_i hk hy
        cases h; subst hk
        exact ⟨_, by simp [binOp, Op.intDiv, hy], .int _ _⟩
    · cases h
  case rem =>
    split at h
    · split at h
      · cases h
      · rename_i hk hy
        cases h; subst hk
        exact ⟨_, by simp [binOp, Op.intDiv, hy], .int _ _⟩
    · cases h
  case and | or | xor | andNot =>
    split at h
    · rename_i hk
      subst hk
      simp only [VA.bits] at h
      cases h
      exact ⟨_, by simp only [binOp, ne_eq, not_true_eq_false, if_false, Op.intBits]; rfl, .int _ _⟩
    · cases h
  all_goals
    split at h
    · rename_i hk
      subst hk
      cases h
      first
        | exact ⟨_, by simp [binOp, Op.intArith], .int _ _⟩
        | exact ⟨_, by simp [binOp, Op.intCmp], .bool _⟩
    · cases h

theorem binStr_run {op : BinOp} {t : TypeId} {x y : List UInt8} {v : AV} (h : binStr op x y = some v) (w : World) :
    ∃ z, (binOp op t (.string ⟨x.toArray⟩) (.string ⟨y.toArray⟩)).run P w = .ok z w ∧ RV imm map blk v z := by
  cases op <;> simp only [binStr, reduceCtorEq] at h
  case add =>
    split at h
    · rename_i hl
      cases h
      refine ⟨.string (⟨x.toArray⟩ ++ ⟨y.toArray⟩), ?_, ?_⟩
      · have h2 : ¬ ((((ByteArray.mk x.toArray).size + (ByteArray.mk y.toArray).size : Nat) : Int) > IntKind.i64.max) := by
          simp [ByteArray.size]; omega
        simp only [binOp, Op.stringOp, if_neg h2]
        rfl
      · have : (ByteArray.mk x.toArray ++ ByteArray.mk y.toArray) = ⟨(x ++ y).toArray⟩ := by
          apply ByteArray.ext
          simp
        rw [this]
        exact .str _
    · cases h
  all_goals
    cases h
    exact ⟨_, by simp only [binOp, Op.stringOp, bytes_toList, bytesLess_eq]; rfl, .bool _⟩

theorem op_bin (hT : WT g tm a.tmps) (hgl : GlobOK gl g) {b : BinOp} {y1 y2 : Opd} (hc : chkOp P gl op (.bin b y1 y2) = true) (he : evOp mem d (rho tm take) (.bin b y1 y2) = some r) : Plain P g a w mem op r := by
  cases op <;> simp only [chkOp, Bool.false_eq_true] at hc
  rename_i b' t x1 x2 t2
  simp only [Bool.and_eq_true, beq_iff_eq] at hc
  obtain ⟨⟨rfl, h1⟩, h2⟩ := hc
  simp only [evOp, Option.map_eq_some_iff] at he
  obtain ⟨v, hv, rfl⟩ := he
  unfold VA.bin at hv
  split at hv
  · rename_i k n k' n' e1 e2
    have h3 := rv_at hT hgl h1 e1 rfl
    have h4 := rv_at hT hgl h2 e2 rfl
    generalize hz : a.eval x1 = z at h3
    generalize hz2 : a.eval x2 = z2 at h4
    cases h3; cases h4
    obtain ⟨x, hx, hr⟩ := binInt_run (P := P) (t := t) (imm := g.imm) (map := g.map) (blk := g.blk) hv w
    exact ⟨rfl, x, fun _ _ _ _ _ => by simp [execOp, hz, hz2, eqGuard_at_int, hx], hr⟩
  · rename_i l l' e1 e2
    have h3 := rv_at hT hgl h1 e1 rfl
    have h4 := rv_at hT hgl h2 e2 rfl
    generalize hz : a.eval x1 = z at h3
    generalize hz2 : a.eval x2 = z2 at h4
    cases h3; cases h4
    obtain ⟨x, hx, hr⟩ := binStr_run (P := P) (t := t) (imm := g.imm) (map := g.map) (blk := g.blk) hv w
    exact ⟨rfl, x, fun _ _ _ _ _ => by simp [execOp, hz, hz2, eqGuard_at_string, hx], hr⟩
  · cases hv

theorem op_un (hT : WT g tm a.tmps) (hgl : GlobOK gl g) {u : UnOp} {y : Opd} (hc : chkOp P gl op (.un u y) = true) (he : evOp mem d (rho tm take) (.un u y) = some r) : Plain P g a w mem op r := by
  cases op <;> simp only [chkOp, Bool.false_eq_true] at hc
  rename_i u' t x
  simp only [Bool.and_eq_true, beq_iff_eq] at hc
  obtain ⟨rfl, h1⟩ := hc
  simp only [evOp, Option.map_eq_some_iff] at he
  obtain ⟨v, hv, rfl⟩ := he
  unfold VA.un at hv
  split at hv
  · rename_i k n e1
    cases hv
    have h3 := rv_at hT hgl h1 e1 rfl
    generalize hz : a.eval x = z at h3
    cases h3
    exact ⟨rfl, _, fun _ _ _ _ _ => by simp [execOp, hz, Op.unary, Op.intArith], .int _ _⟩
  · rename_i b e1
    cases hv
    have h3 := rv_at hT hgl h1 e1 rfl
    generalize hz : a.eval x = z at h3
    cases h3
    exact ⟨rfl, _, fun _ _ _ _ _ => by simp [execOp, hz, Op.unary], .bool _⟩
  · cases hv

theorem op_len (hT : WT g tm a.tmps) (hgl : GlobOK gl g) {str : Bool} {y : Opd} (hc : chkOp P gl op (.len str y) = true) (he : evOp mem d (rho tm take) (.len str y) = some r) : Plain P g a w mem op r := by
  cases op <;> simp only [chkOp, Bool.false_eq_true] at hc
  rename_i c
  obtain ⟨callee, args, argTypes⟩ := c
  cases callee with
  | value _ => simp at hc
  | invoke _ _ => simp at hc
  | builtin b =>
  cases b <;> first | (simp at hc; done) | skip
  simp only at hc
  split at hc
  · rename_i x t ha ht
    simp only [Bool.and_eq_true] at hc
    obtain ⟨h1, h2⟩ := hc
    obtain rfl : args = #[x] := Array.toList_inj.1 ha
    obtain rfl : argTypes = #[t] := Array.toList_inj.1 ht
    have h3 := rv_opd (take := take) hT hgl h1
    simp only [evOp] at he
    have key : ∀ e n (ad : Option Addr) cap, P.underlying t = some (.slice e) → a.eval x = .slice ad n cap → r = (.int .i64 n, mem) → Plain P g a w mem (.call ⟨.builtin .len, #[x], #[t]⟩) r := by
      intro e n ad cap hu hz hr
      subst hr
      exact ⟨rfl, _, fun _ _ _ _ _ => by simp [execOp, resolve, invoke, builtin, Builtin.len_, hz, run_underlying hu, goInt], .int _ _⟩
    split at he
    · rename_i sz l c hl
      rw [hl] at h3
      generalize hz : a.eval x = z at h3
      cases h3
      cases hu : P.underlying t with
      | none => simp [hu] at h2
      | some dd => cases dd <;> first | (simp [hu] at h2; done) | exact key _ _ _ _ hu hz (by simpa using he.symm)
    · rename_i i sz o n hl
      rw [hl] at h3
      generalize hz : a.eval x = z at h3
      cases h3
      cases hu : P.underlying t with
      | none => simp [hu] at h2
      | some dd => cases dd <;> first | (simp [hu] at h2; done) | exact key _ _ _ _ hu hz (by simpa using he.symm)
    · rename_i hl
      rw [hl] at h3
      generalize hz : a.eval x = z at h3
      cases h3
      cases hu : P.underlying t with
      | none => simp [hu] at h2
      | some dd => cases dd <;> first | (simp [hu] at h2; done) | exact key _ _ _ _ hu hz (by simpa using he.symm)
    · rename_i s hl
      rw [hl] at h3
      generalize hz : a.eval x = z at h3
      cases h3
      cases he
      cases hu : P.underlying t with
      | none => simp [hu] at h2
      | some dd =>
        cases dd <;> first | (simp [hu] at h2; done) | exact ⟨rfl, .int .i64 s.length, fun _ _ _ _ _ => by show _ = Result.ok (Next.value (goInt (ByteArray.mk s.toArray).size)) w; simp [execOp, resolve, invoke, builtin, Builtin.len_, hz, run_underlying hu], .int _ _⟩
    · cases he
  · cases hc

theorem op_min2 (hT : WT g tm a.tmps) (hgl : GlobOK gl g) {y1 y2 : Opd} (hc : chkOp P gl op (.min2 y1 y2) = true) (he : evOp mem d (rho tm take) (.min2 y1 y2) = some r) : Plain P g a w mem op r := by
  cases op <;> simp only [chkOp, Bool.false_eq_true] at hc
  rename_i c
  obtain ⟨callee, args, argTypes⟩ := c
  cases callee with
  | value _ => simp at hc
  | invoke _ _ => simp at hc
  | builtin b =>
  cases b <;> first | (simp at hc; done) | skip
  simp only at hc
  cases hl : args.toList with
  | nil => rw [hl] at hc; simp [chkOpds] at hc
  | cons x1 l =>
  cases l with
  | nil => rw [hl] at hc; simp [chkOpds] at hc
  | cons x2 l =>
  cases l with
  | cons _ _ => rw [hl] at hc; simp [chkOpds] at hc
  | nil =>
  rw [hl] at hc
  obtain rfl : args = #[x1, x2] := Array.toList_inj.1 hl
  simp only [chkOpds, Bool.and_eq_true, and_true] at hc
  simp only [evOp] at he
  split at he
  · rename_i k n k' n' e1 e2
    cases he
    have h3 := rv_at hT hgl hc.1 e1 rfl
    have h4 := rv_at hT hgl hc.2 e2 rfl
    generalize hz : a.eval x1 = z at h3
    generalize hz2 : a.eval x2 = z2 at h4
    cases h3; cases h4
    exact ⟨rfl, _, fun _ _ _ _ _ => by simp [execOp, resolve, invoke, builtin, Builtin.min_, Builtin.min2, hz, hz2], .int _ _⟩
  · cases he

theorem op_max2 (hT : WT g tm a.tmps) (hgl : GlobOK gl g) {y1 y2 : Opd} (hc : chkOp P gl op (.max2 y1 y2) = true) (he : evOp mem d (rho tm take) (.max2 y1 y2) = some r) : Plain P g a w mem op r := by
  cases op <;> simp only [chkOp, Bool.false_eq_true] at hc
  rename_i c
  obtain ⟨callee, args, argTypes⟩ := c
  cases callee with
  | value _ => simp at hc
  | invoke _ _ => simp at hc
  | builtin b =>
  cases b <;> first | (simp at hc; done) | skip
  simp only at hc
  cases hl : args.toList with
  | nil => rw [hl] at hc; simp [chkOpds] at hc
  | cons x1 l =>
  cases l with
  | nil => rw [hl] at hc; simp [chkOpds] at hc
  | cons x2 l =>
  cases l with
  | cons _ _ => rw [hl] at hc; simp [chkOpds] at hc
  | nil =>
  rw [hl] at hc
  obtain rfl : args = #[x1, x2] := Array.toList_inj.1 hl
  simp only [chkOpds, Bool.and_eq_true, and_true] at hc
  simp only [evOp] at he
  split at he
  · rename_i k n k' n' e1 e2
    cases he
    have h3 := rv_at hT hgl hc.1 e1 rfl
    have h4 := rv_at hT hgl hc.2 e2 rfl
    generalize hz : a.eval x1 = z at h3
    generalize hz2 : a.eval x2 = z2 at h4
    cases h3; cases h4
    exact ⟨rfl, _, fun _ _ _ _ _ => by simp [execOp, resolve, invoke, builtin, Builtin.max_, Builtin.max2, hz, hz2], .int _ _⟩
  · cases he

theorem u8s_spec : ∀ {l : List AV} {s : List UInt8}, u8s l = some s → l = byteCells s
  | [], s, h => by simp only [u8s, Option.some.injEq] at h; subst h; rfl
  | v :: r, s, h => by
    unfold u8s at h
    split at h
    · rename_i e; cases e
    · rename_i n r' e
      cases e
      split at h
      · rename_i hn
        simp only [Option.map_eq_some_iff] at h
        obtain ⟨s', hs', rfl⟩ := h
        rw [u8s_spec hs']
        simp only [byteCells, List.map_cons, List.cons.injEq, AV.int.injEq, true_and, and_true]
        have : (UInt8.ofNat n.toNat).toNat = n.toNat := by rw [UInt8.toNat_ofNat']; omega
        omega
      · cases h
    · cases h

theorem op_tassert (hT : WT g tm a.tmps) (hgl : GlobOK gl g) {t : TypeId} {ok : Bool} {z : AV} {y : Opd} (hc : chkOp P gl op (.tassert t ok z y) = true) (he : evOp mem d (rho tm take) (.tassert t ok z y) = some r) : Plain P g a w mem op r := by
  cases op <;> simp only [chkOp, Bool.false_eq_true] at hc
  rename_i x xt t' ok'
  simp only [Bool.and_eq_true, beq_iff_eq] at hc
  obtain ⟨⟨⟨⟨rfl, rfl⟩, h1⟩, h2⟩, h3⟩ := hc
  have hu : ∃ dd, P.underlying t = some dd ∧ ∀ ms, dd ≠ .interface ms := by
    cases hu : P.underlying t with
    | none => simp [hu] at h2
    | some dd => exact ⟨dd, rfl, fun ms e => by subst e; simp [hu] at h2⟩
  obtain ⟨dd, hu, hni⟩ := hu
  have hz : ok = true → ∃ i zv, P.info? t = some i ∧ i.zero = some zv ∧ constAV zv = some z := by
    intro e
    subst e
    simp only [Bool.not_true, Bool.false_or] at h3
    split at h3
    · rename_i i hi
      split at h3
      · rename_i zv hzv
        exact ⟨i, zv, hi, hzv, by simpa using h3⟩
      · cases h3
    · cases h3
  simp only [evOp] at he
  split at he
  · rename_i u v hv
    have h4 := rv_at hT hgl h1 hv rfl
    generalize hx : a.eval x = xv at h4
    cases h4 with
    | iface _ _ x' hr =>
    split at he
    · rename_i e
      subst e
      cases he
      cases ok with
      | true =>
        refine ⟨rfl, .tuple #[x', .bool true], fun _ _ _ _ _ => ?_, .tup _ _ rfl fun i u x hu' hx' => ?_⟩
        · cases dd <;> first | exact absurd rfl (hni _) | simp [execOp, Instr.typeAssert, hx, run_underlying hu]
        · rcases i with _ | _ | i <;> simp at hu' hx'
          · subst hu'; subst hx'; exact hr
          · subst hu'; subst hx'; exact .bool _
      | false =>
        refine ⟨rfl, x', fun _ _ _ _ _ => ?_, hr⟩
        cases dd <;> first | exact absurd rfl (hni _) | simp [execOp, Instr.typeAssert, hx, run_underlying hu]
    · rename_i hne
      split at he
      · rename_i e
        cases he
        subst e
        obtain ⟨i, zv, hi, hzv, hcz⟩ := hz rfl
        refine ⟨rfl, .tuple #[zv, .bool false], fun _ _ _ _ _ => ?_, .tup _ _ rfl fun i u x hu' hx' => ?_⟩
        · cases dd <;> first | exact absurd rfl (hni _) | simp [execOp, Instr.typeAssert, hx, run_underlying hu, hne, zeroValue, typeInfo, hi, hzv]
        · rcases i with _ | _ | i <;> simp at hu' hx'
          · subst hu'; subst hx'; exact constAV_rv _ hcz
          · subst hu'; subst hx'; exact .bool _
      · cases he
  · rename_i hv
    have h4 := rv_at hT hgl h1 hv rfl
    generalize hx : a.eval x = xv at h4
    cases h4
    split at he
    · rename_i e
      cases he
      subst e
      obtain ⟨i, zv, hi, hzv, hcz⟩ := hz rfl
      refine ⟨rfl, .tuple #[zv, .bool false], fun _ _ _ _ _ => ?_, .tup _ _ rfl fun i u x hu' hx' => ?_⟩
      · cases dd <;> first | exact absurd rfl (hni _) | simp [execOp, Instr.typeAssert, hx, run_underlying hu, zeroValue, typeInfo, hi, hzv]
      · rcases i with _ | _ | i <;> simp at hu' hx'
        · subst hu'; subst hx'; exact constAV_rv _ hcz
        · subst hu'; subst hx'; exact .bool _
    · cases he
  · cases he

end
end Go.VA

/-
  Operations that leave the memory alone: conversions, slices, addresses of elements, comparisons with nil, aggregates built.
-/
namespace Go.VA
open Go Go.RowKit

section
variable {P : Program} {gl : Globs} {g : G} {tm : List AV} {a : Act} {take : List Nat} {base : Nat} {w0 w : World} {mem : Mem} {d : Nat} {r : AV × Mem} {op : Op}
variable {imm : Addr → Option Value} {map : Nat → Option Obj} {blk : Id → Option Nat}

theorem op_iaddr (hT : WT g tm a.tmps) (hgl : GlobOK gl g) {arr : Option Nat} {sz : Nat} {y j : Opd} (hc : chkOp P gl op (.iaddr arr sz y j) = true) (he : evOp mem d (rho tm take) (.iaddr arr sz y j) = some r) : Plain P g a w mem op r := by
  cases op <;> simp only [chkOp, Bool.false_eq_true] at hc
  rename_i t x i
  simp only [Bool.and_eq_true] at hc
  obtain ⟨⟨h1, h2⟩, h3⟩ := hc
  simp only [evOp, Option.map_eq_some_iff] at he
  obtain ⟨v, hv, rfl⟩ := he
  unfold VA.iaddr at hv
  split at hv
  · rename_i k n hi
    have h5 := rv_at hT hgl h2 hi rfl
    generalize hz2 : a.eval i = z2 at h5
    cases h5
    have h6 := rv_opd (take := take) hT hgl h1
    generalize hz : a.eval x = z at h6
    split at hv
    · rename_i sz' l c hx
      split at hv
      · rename_i hn
        obtain ⟨rfl, hn⟩ := hn
        simp only [Option.map_eq_some_iff] at hv
        obtain ⟨u, hu, rfl⟩ := hv
        rw [hx] at h6
        have key : ∀ c', RV g.imm g.map g.blk (.slc sz' l c') z → Plain P g a w mem (.indexAddr t x i) (.rptr u.cells, mem) := by
          intro c' h6
          cases h6 with
          | slc _ _ _ b off cap vs hc' hle hx' hp hi' h' =>
          have hlt : n.toNat < l.length := (List.getElem?_eq_some_iff.1 hu).1
          have hlt' : n < (l.length : Int) := by omega
          cases hut : P.underlying t with
          | none => simp [hut] at h3
          | some dd =>
          cases dd <;> first | (simp [hut] at h3; done) | skip
          rename_i e
          simp only [hut] at h3
          have hok := okElem_spec (hp u (List.mem_of_getElem? hu))
          refine ⟨rfl, .pointer (some ⟨b, off + n.toNat * sz', none⟩), fun _ _ _ _ _ => ?_, .rptr _ b _ (vs n.toNat) (fun w hw => (hok.2 w hw).1) (fun j hj => ?_) (fun j w hw => h' _ _ _ _ hu hw)⟩
          · simp [execOp, Instr.indexAt, hz, hz2, asIntOf, run_underlying hut, hn, hlt', sizeOf_run h3, Addr.add_lit]
          · rw [Nat.add_assoc]; exact hi' _ _ hlt (by rw [hok.1] at hj; exact hj)
        cases c with
        | own => exact key .unk h6
        | unk => exact key .unk h6
        | exact => exact key .exact h6
      · cases hv
    · rename_i id sz' off len hx
      split at hv
      · rename_i hn
        obtain ⟨rfl, hn, hlt⟩ := hn
        cases hv
        rw [hx] at h6
        cases h6 with
        | mslc _ _ _ _ b cap o hb hcap ho =>
        obtain rfl := ho (by omega)
        cases hut : P.underlying t with
        | none => simp [hut] at h3
        | some dd =>
        cases dd <;> first | (simp [hut] at h3; done) | skip
        simp only [hut] at h3
        exact ⟨rfl, .pointer (some ⟨b, o + n.toNat * sz', none⟩), fun _ _ _ _ _ => by
          simp [execOp, Instr.indexAt, hz, hz2, asIntOf, run_underlying hut, hn, hlt, sizeOf_run h3, Addr.add_lit], .ptr _ _ _ hb⟩
      · cases hv
    · rename_i len id off hx
      split at hv
      · rename_i hn
        cases hv
        rw [hx] at h6
        cases h6 with
        | ptr _ _ b hb =>
        cases hut : P.underlying t with
        | none => simp [hut] at h3
        | some dd =>
        cases dd <;> first | (simp [hut] at h3; done) | skip
        simp only [hut, Bool.and_eq_true, beq_iff_eq] at h3
        obtain ⟨rfl, h3⟩ := h3
        exact ⟨rfl, .pointer (some ⟨b, off + n.toNat * sz, none⟩), fun _ _ _ _ _ => by
          simp [execOp, Instr.indexAt, Instr.sureAddr, hz, hz2, asIntOf, run_underlying hut, hn, sizeOf_run h3, Addr.add_lit], .ptr _ _ _ hb⟩
      · cases hv
    · rename_i len l hx
      split at hv
      · rename_i hn
        cases hv
        rw [hx] at h6
        cases h6 with
        | rptr _ b off vs hp hi' h' =>
        cases hut : P.underlying t with
        | none => simp [hut] at h3
        | some dd =>
        cases dd <;> first | (simp [hut] at h3; done) | skip
        simp only [hut, Bool.and_eq_true, beq_iff_eq] at h3
        obtain ⟨rfl, h3⟩ := h3
        exact ⟨rfl, .pointer (some ⟨b, off + n.toNat * sz, none⟩), fun _ _ _ _ _ => by
          simp [execOp, Instr.indexAt, Instr.sureAddr, hz, hz2, asIntOf, run_underlying hut, hn, sizeOf_run h3, Addr.add_lit],
          .rptr _ b _ (fun q => vs (n.toNat * sz + q)) (fun u hu => hp u (List.mem_of_mem_drop hu))
          (fun q hq => by rw [Nat.add_assoc]; exact hi' _ (by simp at hq; omega)) (fun q u hu => h' _ u (by rw [List.getElem?_drop] at hu; exact hu))⟩
      · cases hv
    · cases hv
  · cases hv

theorem equal_of {t : TypeId} {x y : Value} {v : Bool} (h : ∀ d, (Op.equalIn (d + 1) t x y).run P w = .ok v w) : (Op.equal t x y).run P w = .ok v w := h 9999

theorem op_eq_nil (hT : WT g tm a.tmps) (hgl : GlobOK gl g) {k : EKind} (hk : ∀ ks, k ≠ .agg ks) {neg : Bool} {y1 y2 : Opd} (hc : chkOp P gl op (.eq k neg y1 y2) = true)
    (he : evOp mem d (rho tm take) (.eq k neg y1 y2) = some r) : Plain P g a w mem op r := by
  cases op <;> simp only [chkOp, Bool.false_eq_true] at hc
  rename_i b t x1 x2 t2
  simp only [Bool.and_eq_true] at hc
  obtain ⟨⟨⟨h1, h2⟩, h3⟩, h4⟩ := hc
  simp only [evOp, Option.map_eq_some_iff] at he
  obtain ⟨v, hv, rfl⟩ := he
  have h5 := rv_opd (take := take) hT hgl h1
  have h6 := rv_opd (take := take) hT hgl h2
  generalize hz : a.eval x1 = z at h5
  generalize hz2 : a.eval x2 = z2 at h6
  have key : (∀ op', (eqGuard op' t x1 x2 z z2).run P w = .ok () w) → (Op.equal t z z2).run P w = .ok v w → (binOp .eql t z z2 = (do pure (.bool (← Op.equal t z z2)))) → (binOp .neq t z z2 = (do pure (.bool (!(← Op.equal t z z2))))) →
      Plain P g a w mem (.binOp b t x1 x2 t2) (.bool (neg ^^ v), mem) := by
    intro hg hq hb1 hb2
    cases b <;> first | (simp at h4; done) | skip
    · have : neg = false := by simpa using h4
      subst this
      exact ⟨rfl, .bool v, fun _ _ _ _ _ => by simp [execOp, hz, hz2, hg, hb1, hq], by rw [Bool.false_xor]; exact .bool v⟩
    · have : neg = true := by simpa using h4
      subst this
      exact ⟨rfl, .bool (!v), fun _ _ _ _ _ => by simp [execOp, hz, hz2, hg, hb2, hq], by rw [Bool.true_xor]; exact .bool (!v)⟩
  cases k with
  | agg ks => exact absurd rfl (hk ks)
  | bool =>
    have hu : P.underlying t = some .bool := by
      cases hu : P.underlying t with
      | none => simp [chkEq, hu] at h3
      | some dd => cases dd <;> first | rfl | simp [chkEq, hu] at h3
    generalize e1 : (rho tm take y1).strip = u1 at hv h5
    generalize e2 : (rho tm take y2).strip = u2 at hv h6
    cases u1 <;> first | (simp [eqv] at hv; done) | skip
    cases u2 <;> first | (simp [eqv] at hv; done) | skip
    cases h5; cases h6
    simp only [eqv, Option.some.injEq] at hv
    subst hv
    exact key (fun op' => by cases op' <;> simp [eqGuard]) (equal_of fun d => by simp [Op.equalIn, run_underlying hu]) rfl rfl
  | ptr =>
    obtain ⟨e, hu⟩ : ∃ e, P.underlying t = some (.pointer e) := by
      cases hu : P.underlying t with
      | none => simp [chkEq, hu] at h3
      | some dd => cases dd <;> first | exact ⟨_, rfl⟩ | simp [chkEq, hu] at h3
    generalize e1 : (rho tm take y1).strip = u1 at hv h5
    generalize e2 : (rho tm take y2).strip = u2 at hv h6
    cases u1 <;> first | (simp [eqv] at hv; done) | skip
    all_goals
      cases u2 <;> first | (simp [eqv] at hv; done) | skip
      all_goals
        cases h5; cases h6
        simp only [eqv, Option.some.injEq] at hv
        subst hv
        exact key (fun op' => by cases op' <;> simp [eqGuard]) (equal_of fun d => by simp [Op.equalIn, run_underlying hu]) rfl rfl
  | slc =>
    obtain ⟨e, hu⟩ : ∃ e, P.underlying t = some (.slice e) := by
      cases hu : P.underlying t with
      | none => simp [chkEq, hu] at h3
      | some dd => cases dd <;> first | exact ⟨_, rfl⟩ | simp [chkEq, hu] at h3
    generalize e1 : (rho tm take y1).strip = u1 at hv h5
    generalize e2 : (rho tm take y2).strip = u2 at hv h6
    cases u1 <;> first | (simp [eqv] at hv; done) | skip
    all_goals
      cases u2 <;> first | (simp [eqv] at hv; done) | skip
      all_goals
        cases h5; cases h6
        simp only [eqv, Option.some.injEq] at hv
        subst hv
        exact key (fun op' => by cases op' <;> simp [eqGuard]) (equal_of fun d => by simp [Op.equalIn, run_underlying hu]) rfl rfl
  | func =>
    obtain ⟨e, e', e'', hu⟩ : ∃ e e' e'', P.underlying t = some (.func e e' e'') := by
      cases hu : P.underlying t with
      | none => simp [chkEq, hu] at h3
      | some dd => cases dd <;> first | exact ⟨_, _, _, rfl⟩ | simp [chkEq, hu] at h3
    generalize e1 : (rho tm take y1).strip = u1 at hv h5
    generalize e2 : (rho tm take y2).strip = u2 at hv h6
    cases u1 <;> first | (simp [eqv] at hv; done) | skip
    all_goals
      cases u2 <;> first | (simp [eqv] at hv; done) | skip
      all_goals
        cases h5; cases h6
        simp only [eqv, Option.some.injEq] at hv
        subst hv
        exact key (fun op' => by cases op' <;> simp [eqGuard]) (equal_of fun d => by simp [Op.equalIn, run_underlying hu]) rfl rfl
  | iface =>
    obtain ⟨e, hu⟩ : ∃ e, P.underlying t = some (.interface e) := by
      cases hu : P.underlying t with
      | none => simp [chkEq, hu] at h3
      | some dd => cases dd <;> first | exact ⟨_, rfl⟩ | simp [chkEq, hu] at h3
    have hconst : (isConstB x1 || isConstB x2) = true := by simpa [chkEq, hu] using h3
    have hg : ∀ op', (eqGuard op' t x1 x2 .nilIface .nilIface).run P w = .ok () w := by
      intro op'
      cases x1 <;> cases x2 <;> first | (simp [isConstB] at hconst; done) | (cases op' <;> simp [eqGuard])
    generalize e1 : (rho tm take y1).strip = u1 at hv h5
    generalize e2 : (rho tm take y2).strip = u2 at hv h6
    cases u1 <;> first | (simp [eqv] at hv; done) | skip
    all_goals
      cases u2 <;> first | (simp [eqv] at hv; done) | skip
      all_goals
        cases h5; cases h6
        simp only [eqv, Option.some.injEq] at hv
        subst hv
        exact key (fun op' => by first | exact hg op' | (cases op' <;> simp [eqGuard])) (equal_of fun d => by simp [Op.equalIn, run_underlying hu]) rfl rfl

end
end Go.VA

/-
  What a new block, a store and a draw do to the memory's relation.
-/
namespace Go.VA
open Go Go.RowKit

section
variable {imm imm' : Addr → Option Value} {map map' : Nat → Option Obj} {blk blk' : Id → Option Nat}

def RVs (imm : Addr → Option Value) (map : Nat → Option Obj) (blk : Id → Option Nat) (l : List AV) (xs : List Value) : Prop :=
  l.length = xs.length ∧ ∀ (i : Nat) u x, l[i]? = some u → xs[i]? = some x → RV imm map blk u x

theorem RVs.mono (hi : ∀ a v, imm a = some v → imm' a = some v) (hm : ∀ r e, map r = some e → map' r = some e) (hb : ∀ i b, blk i = some b → blk' i = some b) {l : List AV} {xs : List Value}
    (h : RVs imm map blk l xs) : RVs imm' map' blk' l xs := ⟨h.1, fun i u x hu hx => (h.2 i u x hu hx).mono hi hm hb⟩

theorem RVs.nil : RVs imm map blk [] [] := ⟨rfl, by simp⟩

theorem RVs.append {l m : List AV} {xs ys : List Value} (h : RVs imm map blk l xs) (k : RVs imm map blk m ys) : RVs imm map blk (l ++ m) (xs ++ ys) := by
  refine ⟨by simp [h.1, k.1], fun i u x hu hx => ?_⟩
  rw [List.getElem?_append] at hu hx
  rw [h.1] at hu
  split at hu
  · rename_i hlt
    rw [if_pos hlt] at hx
    exact h.2 i u x hu hx
  · rename_i hlt
    rw [if_neg hlt] at hx
    exact k.2 _ u x hu hx

theorem RVs.take {l : List AV} {xs : List Value} (n : Nat) (h : RVs imm map blk l xs) : RVs imm map blk (l.take n) (xs.take n) := by
  refine ⟨by simp [h.1], fun i u x hu hx => ?_⟩
  rw [List.getElem?_take] at hu hx
  split at hu
  · rename_i hlt
    rw [if_pos hlt] at hx
    exact h.2 i u x hu hx
  · cases hu

theorem RVs.drop {l : List AV} {xs : List Value} (n : Nat) (h : RVs imm map blk l xs) : RVs imm map blk (l.drop n) (xs.drop n) := by
  refine ⟨by simp [h.1], fun i u x hu hx => ?_⟩
  rw [List.getElem?_drop] at hu hx
  exact h.2 _ u x hu hx

theorem RVs.strip {l : List AV} {xs : List Value} (h : RVs imm map blk l xs) : RVs imm map blk (l.map AV.strip) xs := by
  refine ⟨by simp [h.1], fun i u x hu hx => ?_⟩
  rw [List.getElem?_map, Option.map_eq_some_iff] at hu
  obtain ⟨v, hv, rfl⟩ := hu
  exact (h.2 i v x hv hx).strip

def splice (xs : List Value) (off : Nat) (ys : List Value) : List Value := xs.take off ++ ys ++ xs.drop (off + ys.length)

theorem RVs.over {c d : List AV} {xs ys : List Value} (off : Nat) (h : RVs imm map blk c xs) (k : RVs imm map blk d ys) : RVs imm map blk (over c off d) (splice xs off ys) := by
  unfold VA.over splice
  rw [k.1]
  exact ((h.take off).append k).append (h.drop _)

theorem over_length {c d : List AV} {off : Nat} (h : off + d.length ≤ c.length) : (over c off d).length = c.length := by
  simp [over]; omega

/-- The cells of related values. -/
theorem RV.cells {v : AV} {x : Value} (h : RV imm map blk v x) (hu : v ≠ .undef) : RVs imm map blk v.cells x.cells.toList := by
  have one : ∀ {v x}, RV imm map blk v x → v.cells = [v] → x.cells = #[x] → RVs imm map blk v.cells x.cells.toList := by
    intro v x h e1 e2
    rw [e1, e2]
    refine ⟨rfl, fun i u y hu hy => ?_⟩
    rcases i with _ | i
    · simp at hu hy; subst hu; subst hy; exact h
    · simp at hu
  cases h with
  | undef => exact absurd rfl hu
  | agg l xs hl h' =>
    refine ⟨?_, fun i u x h1 h2 => h' i u x h1 ?_⟩
    · simpa [AV.cells, Value.cells] using hl
    · simpa [Value.cells] using h2
  | bool b => exact one (.bool b) rfl rfl
  | int k n => exact one (.int k n) rfl rfl
  | str l => exact one (.str l) rfl rfl
  | nilp => exact one .nilp rfl rfl
  | nils => exact one .nils rfl rfl
  | nili => exact one .nili rfl rfl
  | nilf => exact one .nilf rfl rfl
  | tup l xs hl h' => exact one (.tup l xs hl h') rfl rfl
  | iface t v x h' => exact one (.iface t v x h') rfl rfl
  | fn f l xs hl h' => exact one (.fn f l xs hl h') rfl rfl
  | ptr i off b hb => exact one (.ptr i off b hb) rfl rfl
  | mslc i sz off len b cap o hb hc ho => exact one (.mslc i sz off len b cap o hb hc ho) rfl rfl
  | rptr l b off vs hp hi h' => exact one (.rptr l b off vs hp hi h') rfl rfl
  | slc sz l c b off cap vs hc hle hx hp hi h' => exact one (.slc sz l c b off cap vs hc hle hx hp hi h') rfl rfl
  | map kv r es cl hm ks vs hl hk he hp h' => exact one (.map kv r es cl hm ks vs hl hk he hp h') rfl rfl

/-- A row of cells that a composite literal fills. -/
theorem fold_set (off : Nat) : ∀ (vs : List Value) (k : Nat) (cs : Array Value), off + k + vs.length ≤ cs.size →
    ((vs.zipIdx k).foldl (fun cs (p : Value × Nat) => cs.setIfInBounds (off + p.2) p.1) cs).toList = cs.toList.take (off + k) ++ vs ++ cs.toList.drop (off + k + vs.length)
  | [], k, cs, _ => by simp
  | v :: r, k, cs, h => by
    simp only [List.zipIdx_cons, List.foldl_cons]
    rw [fold_set off r (k + 1) _ (by simp at h ⊢; omega)]
    have e := list_seg_step cs.toList (off + k) v r (by simp at h ⊢; omega)
    simpa [Array.toList_setIfInBounds, Nat.add_assoc] using e

theorem fill_rv (place : Nat → Option (Nat × Nat)) : ∀ (ps : List (Nat × Nat × AV)) (qs : List (Nat × Value)) (c : List AV) (xs : Array Value) (c' : List AV),
    ps.length = qs.length → (∀ (i : Nat) p q, ps[i]? = some p → qs[i]? = some q → place q.1 = some (p.1, p.2.1) ∧ p.2.2 ≠ .undef ∧ RV imm map blk p.2.2 q.2) →
    RVs imm map blk c xs.toList → fill c ps = some c' → ∃ xs', Instr.fill place xs qs = some xs' ∧ RVs imm map blk c' xs'.toList ∧ c'.length = c.length
  | [], [], c, xs, c', _, _, hc, h => by
    simp only [fill, Option.some.injEq] at h
    subst h
    exact ⟨xs, rfl, hc, rfl⟩
  | [], _ :: _, _, _, _, hl, _, _, _ => by simp at hl
  | _ :: _, [], _, _, _, hl, _, _, _ => by simp at hl
  | (off, sz, v) :: ps, (i, x) :: qs, c, xs, c', hl, hp, hc, h => by
    simp only [fill] at h
    split at h
    · rename_i hcond
      obtain ⟨h1, h2⟩ := hcond
      have h0 := hp 0 _ _ rfl rfl
      dsimp only at h0
      have hcells := h0.2.2.cells h0.2.1
      have hxs : x.cells.size = sz := by have := hcells.1; simp at this; omega
      have hsz : xs.size = c.length := by have := hc.1; simp at this; omega
      have hstep := fold_set off x.cells.toList 0 xs (by simp; omega)
      obtain ⟨xs', e1, e2, e3⟩ := fill_rv place ps qs (over c off v.cells) (x.cells.zipIdx.foldl (fun cs (p : Value × Nat) => cs.setIfInBounds (off + p.2) p.1) xs) c' (by simpa using hl)
        (fun j p q hj hq => hp (j + 1) p q (by simpa using hj) (by simpa using hq))
        (by
          have he : (x.cells.zipIdx.foldl (fun cs (p : Value × Nat) => cs.setIfInBounds (off + p.2) p.1) xs).toList = splice xs.toList off x.cells.toList := by
            rw [← Array.foldl_toList, Array.toList_zipIdx, hstep]
            simp [splice]
          rw [he]
          exact hc.over off hcells) h
      refine ⟨xs', ?_, e2, by rw [e3, over_length (by omega)]⟩
      simp only [Instr.fill, h0.1]
      rw [if_neg (by simp [hxs]; omega)]
      exact e1
    · cases h

theorem RL.mono {g g' : G} {loc : Loc} {v : AV} {x : Value} (h : RL g loc v x) (hi : ∀ a v, g.imm a = some v → g'.imm a = some v) (hm : ∀ r e, g.map r = some e → g'.map r = some e)
    (hb : ∀ i b, g.blk i = some b → g'.blk i = some b) (ho : ∀ b s, g.own b = some (loc, s) → g'.own b = some (loc, s)) : RL g' loc v x := by
  cases h with
  | val h => exact .val (h.mono hi hm hb)
  | own sz l b off cap size h h1 h2 => exact .own sz l b off cap size (h.mono hi hm hb) (ho _ _ h1) h2

def G.addBlk (g : G) (i : Id) (b : Nat) : G := { g with blk := fun j => if j = i then some b else g.blk j }
def G.addImm (g : G) (b : Nat) (arr : Array Value) : G := { g with imm := fun a => if a.block = b then (if a.spot.isSome then none else arr[a.off]?) else g.imm a }
def G.move (g : G) (from' to : Loc) : G := { g with own := fun b => match g.own b with | some (l, s) => if l = from' then some (to, s) else some (l, s) | none => none }

variable {base : Nat} {w0 w : World} {g : G} {mem mem' : Mem}

theorem new_spec {s : List Nat} {c : List AV} (h : mem.new s c = some mem') : ∃ f r, mem = f :: r ∧ f.get s = none ∧ mem' = ((s, c) :: f) :: r := by
  cases mem with
  | nil => simp [Mem.new] at h
  | cons f r =>
    simp only [Mem.new] at h
    split at h
    · cases h
    · rename_i hf
      exact ⟨f, r, rfl, hf, by simpa using h.symm⟩

theorem new_get {s : List Nat} {c : List AV} (h : mem.new s c = some mem') (i : Id) : mem'.get i = if i = ⟨mem.top, s⟩ then some c else mem.get i := by
  obtain ⟨f, r, rfl, hf, rfl⟩ := new_spec h
  obtain ⟨n, st⟩ := i
  simp only [Mem.get, Mem.top, List.length_cons, Nat.add_sub_cancel, Id.mk.injEq]
  by_cases hn : n = r.length
  · simp only [hn, if_true, true_and, Fr.get]
  · simp only [hn, if_false, false_and]

theorem get_under {i : Id} {c : List AV} : ∀ {m : Mem}, m.get i = some c → i.fr < m.length
  | [], h => by simp [Mem.get] at h
  | f :: r, h => by
    simp only [Mem.get] at h
    split at h
    · rename_i e; simp [e]
    · have := get_under h; simp; omega

theorem WM.cell_lt (hM : WM base w0 g w mem) {a : Addr} {v : Value} (h : g.imm a = some v) : a.block < w.heap.size := by
  exact World.block_lt_of_cell? w a (hM.imm a v h)

theorem WM.heap (hM : WM base w0 g w mem) {w' : World} (hh : w'.heap = w.heap) (hB : Below base w0 w') : WM base w0 g w' mem := by
  have hc : ∀ a, w'.cell? a = w.cell? a := fun a => by simp [World.cell?, hh]
  exact ⟨fun a v h => (hc a).trans (hM.imm a v h), fun r e h => hh ▸ hM.map r e h, hM.get, fun i b h => by rw [hh]; exact hM.blk i b h, hM.inj, hM.apart,
    fun b l f s h => by rw [hh]; exact hM.own b l f s h, hB, hh ▸ hM.size, fun i b h => by rw [hh]; exact hM.typ i b h⟩

theorem alloc_heap (w : World) (o : Obj) (k : Nat) : (w.alloc o).heap[k]? = if k = w.heap.size then some o else w.heap[k]? := by
  show (w.heap.push o)[k]? = _
  rw [Array.getElem?_push]

theorem alloc_size (w : World) (o : Obj) : (w.alloc o).heap.size = w.heap.size + 1 := by
  show (w.heap.push o).size = _
  simp

theorem alloc_cell (w : World) (o : Obj) (a : Addr) (h : a.block < w.heap.size) : (w.alloc o).cell? a = w.cell? a := World.cell?_alloc_lt w o a h

/-- A new block that is written later on. -/
theorem WM.newBlk (hM : WM base w0 g w mem) {s : List Nat} {c : List AV} {arr : Array Value} {e : TypeId} (hn : mem.new s c = some mem') (hc : RVs g.imm g.map g.blk c arr.toList)
    (hs : ∃ d, s.getLast? = some d ∧ ∀ ty, d = typMark + ty → e = ty) :
    WM base w0 (g.addBlk ⟨mem.top, s⟩ w.heap.size) (w.alloc (.cells arr e)) mem' ∧ g.blk ⟨mem.top, s⟩ = none ∧ mem'.length = mem.length := by
  have hnone : mem.get ⟨mem.top, s⟩ = none := by
    obtain ⟨f, r, rfl, hf, rfl⟩ := new_spec hn
    simp [Mem.get, Mem.top, hf]
  have hb : g.blk ⟨mem.top, s⟩ = none := by
    cases h : g.blk ⟨mem.top, s⟩ with
    | none => rfl
    | some b =>
      obtain ⟨_, _, c', _, _, h1, _⟩ := hM.blk _ _ h
      rw [hnone] at h1; cases h1
  have hlen : mem'.length = mem.length := by obtain ⟨f, r, rfl, hf, rfl⟩ := new_spec hn; simp
  have hpos : 0 < mem.length := by obtain ⟨f, r, rfl, hf, rfl⟩ := new_spec hn; simp
  have hmono : ∀ j b, g.blk j = some b → (g.addBlk ⟨mem.top, s⟩ w.heap.size).blk j = some b := by
    intro j b h
    show (if j = _ then _ else _) = _
    rw [if_neg (by intro e; subst e; rw [hb] at h; cases h)]
    exact h
  have blt : ∀ i b, g.blk i = some b → b < w.heap.size := fun i b h => by
    obtain ⟨_, _, _, _, _, _, h2, _⟩ := hM.blk i b h
    exact (Array.getElem?_eq_some_iff.1 h2).1
  refine ⟨⟨?_, ?_, ?_, ?_, ?_, ?_, ?_, ?_, ?_, ?_⟩, hb, hlen⟩
  · intro a v h
    rw [alloc_cell w _ a (hM.cell_lt h)]
    exact hM.imm a v h
  · intro r es h
    obtain ⟨h1, cl⟩ := hM.map r es h
    have := (Array.getElem?_eq_some_iff.1 h1).1
    exact ⟨by rw [alloc_heap, if_neg (by omega)]; exact h1, fun hc => ⟨fun i h => by
      change (if i = _ then _ else _) = some r at h
      split at h
      · cases h; omega
      · exact (cl hc).blk i h, (cl hc).own, (cl hc).imm⟩⟩
  · intro i c' h
    rw [new_get hn] at h
    show ∃ b, (if i = _ then _ else _) = some b
    split
    · exact ⟨_, rfl⟩
    · rename_i hne
      rw [if_neg hne] at h
      exact hM.get i c' h
  · intro i b h
    change (if i = _ then _ else _) = some b at h
    by_cases hi : i = ⟨mem.top, s⟩
    · subst hi
      rw [if_pos rfl] at h
      cases h
      refine ⟨hM.size, by simp only [Mem.top, hlen]; omega, c, arr, e, by rw [new_get hn, if_pos rfl], by rw [alloc_heap, if_pos rfl], by have := hc.1; simp at this; omega, fun j v x hv hx => .val ?_⟩
      exact (hc.2 j v x hv (by simpa using hx)).mono (fun _ _ h => h) (fun _ _ h => h) hmono
    · rw [if_neg hi] at h
      obtain ⟨h1, h2, c', arr', e', h3, h4, h5, h6⟩ := hM.blk i b h
      have := blt i b h
      refine ⟨h1, by omega, c', arr', e', by rw [new_get hn, if_neg hi]; exact h3, by rw [alloc_heap, if_neg (by omega)]; exact h4, h5, fun j v x hv hx => (h6 j v x hv hx).mono (fun _ _ h => h) (fun _ _ h => h) hmono (fun _ _ h => h)⟩
  · intro i j b h k
    change (if i = _ then _ else _) = some b at h
    change (if j = _ then _ else _) = some b at k
    split at h <;> split at k
    · rename_i e1 e2; rw [e1, e2]
    · cases h
      have := blt j _ k
      omega
    · cases k
      have := blt i _ h
      omega
    · exact hM.inj i j b h k
  · intro i b o sp h
    change (if i = _ then _ else _) = some b at h
    show g.imm _ = none
    split at h
    · cases h
      cases hq : g.imm ⟨w.heap.size, o, sp⟩ with
      | none => rfl
      | some v => have := hM.cell_lt hq; simp at this
    · exact hM.apart i b o sp h
  · intro b l f sz h
    obtain ⟨h1, ⟨arr', e', h2, h3⟩, h4, h5⟩ := hM.own b l f sz h
    have hb' : b < w.heap.size := (Array.getElem?_eq_some_iff.1 h2).1
    refine ⟨h1, ⟨arr', e', by rw [alloc_heap, if_neg (by omega)]; exact h2, h3⟩, h4, fun i h => ?_⟩
    change (if i = _ then _ else _) = some b at h
    split at h
    · cases h; omega
    · exact h5 i h
  · exact hM.old.alloc hM.size _
  · rw [alloc_size]; have := hM.size; omega
  · intro i b h
    change (if i = _ then _ else _) = some b at h
    split at h
    · rename_i hi
      subst hi
      cases h
      obtain ⟨d, h1, h2⟩ := hs
      exact ⟨d, h1, fun ty e' => by obtain rfl := h2 ty e'; exact ⟨arr, by rw [alloc_heap, if_pos rfl]⟩⟩
    · obtain ⟨d, h1, h2⟩ := hM.typ i b h
      exact ⟨d, h1, fun ty e' => by
        obtain ⟨arr', k⟩ := h2 ty e'
        exact ⟨arr', by rw [alloc_heap, if_neg (by have := blt i b h; omega)]; exact k⟩⟩

/-- A new block that is never written again. -/
theorem WM.newImm (hM : WM base w0 g w mem) {arr : Array Value} {e : TypeId} : WM base w0 (g.addImm w.heap.size arr) (w.alloc (.cells arr e)) mem ∧ ∀ a v, g.imm a = some v → (g.addImm w.heap.size arr).imm a = some v := by
  have hmono : ∀ a v, g.imm a = some v → (g.addImm w.heap.size arr).imm a = some v := by
    intro a v h
    have := hM.cell_lt h
    show (if a.block = _ then _ else _) = _
    rw [if_neg (by omega)]
    exact h
  refine ⟨⟨?_, ?_, hM.get, ?_, hM.inj, ?_, ?_, hM.old.alloc hM.size _, by rw [alloc_size]; have := hM.size; omega, fun i b h => by
    obtain ⟨d, h1, h2⟩ := hM.typ i b h
    exact ⟨d, h1, fun ty e' => by
      obtain ⟨arr', k⟩ := h2 ty e'
      have := (Array.getElem?_eq_some_iff.1 k).1
      exact ⟨arr', by rw [alloc_heap, if_neg (by omega)]; exact k⟩⟩⟩, hmono⟩
  · intro a v h
    change (if a.block = _ then _ else _) = _ at h
    split at h
    · rename_i hb
      split at h
      · cases h
      · rename_i hs
        unfold World.cell?
        rw [alloc_heap, if_pos hb]
        simp only [hs]
        exact h
    · rw [alloc_cell w _ a (hM.cell_lt h)]
      exact hM.imm a v h
  · intro r es h
    obtain ⟨h1, cl⟩ := hM.map r es h
    have := (Array.getElem?_eq_some_iff.1 h1).1
    exact ⟨by rw [alloc_heap, if_neg (by omega)]; exact h1, fun hc => ⟨(cl hc).blk, (cl hc).own, fun o sp => by
      show (if r = _ then _ else _) = none
      rw [if_neg (by omega)]
      exact (cl hc).imm o sp⟩⟩
  · intro i b h
    obtain ⟨h1, h2, c', arr', e', h3, h4, h5, h6⟩ := hM.blk i b h
    have := (Array.getElem?_eq_some_iff.1 h4).1
    exact ⟨h1, h2, c', arr', e', h3, by rw [alloc_heap, if_neg (by omega)]; exact h4, h5, fun j v x hv hx => (h6 j v x hv hx).mono hmono (fun _ _ h => h) (fun _ _ h => h) (fun _ _ h => h)⟩
  · intro i b o sp h
    obtain ⟨_, _, _, _, _, _, h4, _⟩ := hM.blk i b h
    have := (Array.getElem?_eq_some_iff.1 h4).1
    show (if b = _ then _ else _) = none
    rw [if_neg (by omega)]
    exact hM.apart i b o sp h
  · intro b l f sz h
    obtain ⟨h1, ⟨arr', e', h2, h3⟩, h4, h5⟩ := hM.own b l f sz h
    have hb' : b < w.heap.size := (Array.getElem?_eq_some_iff.1 h2).1
    refine ⟨h1, ⟨arr', e', by rw [alloc_heap, if_neg (by omega)]; exact h2, h3⟩, fun o s ho => ?_, h5⟩
    show (if b = _ then _ else _) = none
    rw [if_neg (by omega)]
    exact h4 o s ho

end
end Go.VA

/-
  Stores, rights that move on, and what an append leaves.
-/
namespace Go.VA
open Go Go.RowKit

section
variable {base : Nat} {w0 w : World} {g g' : G} {mem mem' : Mem}

theorem fset_get (s : List Nat) (c' : List AV) : ∀ (f : Fr) (t : List Nat), (f.set s c').get t = if t = s then (f.get s).map fun _ => c' else f.get t
  | [], t => by simp [Fr.set, Fr.get]
  | (k, c) :: r, t => by
    simp only [Fr.set, Fr.get]
    by_cases h : s = k
    · subst h
      by_cases ht : t = s <;> simp [Fr.get, ht]
    · simp only [h, if_false, Fr.get, fset_get s c' r t]
      by_cases ht : t = k
      · subst ht
        simp only [if_true]
        rw [if_neg (fun e => h e.symm)]
      · simp only [ht, if_false]

theorem mset_get (i : Id) (c' : List AV) : ∀ (m : Mem) (j : Id), (m.set i c').get j = if j = i then (m.get i).map fun _ => c' else m.get j
  | [], j => by simp [Mem.set, Mem.get]
  | f :: r, ⟨n, st⟩ => by
    obtain ⟨n', st'⟩ := i
    have hlen : ∀ m : Mem, (Mem.set m ⟨n', st'⟩ c').length = m.length := by
      intro m
      induction m with
      | nil => rfl
      | cons f r ih => simp only [Mem.set]; split <;> simp [ih]
    simp only [Mem.set]
    by_cases h : n' = r.length
    · subst h
      simp only [if_true, Mem.get]
      by_cases hn : n = r.length
      · subst hn
        simp only [if_true, fset_get, Id.mk.injEq, true_and]
      · simp only [hn, if_false, Id.mk.injEq, false_and]
    · simp only [h, if_false, Mem.get, hlen]
      by_cases hn : n = r.length
      · subst hn
        simp only [if_true, Id.mk.injEq]
        rw [if_neg (by rintro ⟨e, _⟩; exact h e.symm)]
      · simp only [hn, if_false]
        exact mset_get ⟨n', st'⟩ c' r ⟨n, st⟩

theorem mset_length (i : Id) (c' : List AV) : ∀ (m : Mem), (m.set i c').length = m.length
  | [] => rfl
  | f :: r => by simp only [Mem.set]; split <;> simp [mset_length i c' r]

theorem mset_tail (i : Id) (c' : List AV) (m : Mem) (h : i.fr < m.length - 1) : (Mem.set m i c').tail = Mem.set m.tail i c' := by
  cases m with
  | nil => rfl
  | cons f r =>
    simp only [Mem.set]
    rw [if_neg (by simp at h; omega)]
    rfl

/-- The cells of one block are replaced, in the machine and in the abstract. -/
theorem WM.row (hM : WM base w0 g w mem) {i : Id} {b : Nat} {c c' : List AV} {arr arr' : Array Value} {e : TypeId} {w' : World} (hb : g.blk i = some b) (hget : mem.get i = some c)
    (hrow : w.heap[b]? = some (.cells arr e (0, 0))) (hsize : arr'.size = c'.length) (hh : ∀ k, w'.heap[k]? = if k = b then some (.cells arr' e (0, 0)) else w.heap[k]?) (hB : Below base w0 w') (hs : base ≤ w'.heap.size)
    (hc : ∀ (j : Nat) v x, c'[j]? = some v → arr'[j]? = some x → RL g (.cell i j) v x) : WM base w0 g w' (mem.set i c') := by
  have hcell : ∀ a : Addr, a.block ≠ b → w'.cell? a = w.cell? a := by
    intro a ha
    simp only [World.cell?, hh, if_neg ha]
  refine ⟨?_, ?_, ?_, ?_, hM.inj, hM.apart, ?_, hB, hs, fun j b' h => by
    obtain ⟨d, h1, h2⟩ := hM.typ j b' h
    exact ⟨d, h1, fun ty e' => by
      obtain ⟨arr2, k⟩ := h2 ty e'
      by_cases hb' : b' = b
      · subst hb'
        rw [hrow] at k
        cases k
        exact ⟨arr', by rw [hh, if_pos rfl]⟩
      · exact ⟨arr2, by rw [hh, if_neg hb']; exact k⟩⟩⟩
  · intro a v h
    rw [hcell a (fun e => by have := hM.apart i b a.off a.spot hb; rw [← e, h] at this; cases this)]
    exact hM.imm a v h
  · intro r es h
    obtain ⟨h1, cl⟩ := hM.map r es h
    exact ⟨by rw [hh, if_neg (by intro e'; subst e'; rw [hrow] at h1; cases h1; exact (cl rfl).blk i hb)]; exact h1, cl⟩
  · intro j cj h
    rw [mset_get] at h
    split at h
    · rename_i e'; subst e'; exact ⟨b, hb⟩
    · exact hM.get j cj h
  · intro j b' h
    obtain ⟨h1, h2, c2, arr2, e2, h3, h4, h5, h6⟩ := hM.blk j b' h
    by_cases hj : j = i
    · subst hj
      obtain rfl : b = b' := Option.some.inj (hb.symm.trans h)
      exact ⟨h1, by rw [mset_length]; exact h2, c', arr', e, by rw [mset_get, if_pos rfl, hget]; rfl, by rw [hh, if_pos rfl], hsize, hc⟩
    · have hne : b' ≠ b := fun e' => hj (hM.inj _ _ _ h (e' ▸ hb))
      exact ⟨h1, by rw [mset_length]; exact h2, c2, arr2, e2, by rw [mset_get, if_neg hj]; exact h3, by rw [hh, if_neg hne]; exact h4, h5, h6⟩
  · intro b' l f sz h
    obtain ⟨h1, ⟨arr2, e2, h2, h3⟩, h4, h5⟩ := hM.own b' l f sz h
    exact ⟨h1, ⟨arr2, e2, by rw [hh, if_neg (by intro e'; subst e'; exact h5 i hb)]; exact h2, h3⟩, h4, h5⟩

theorem setRow_at (w : World) (b : Nat) (arr arr' : Array Value) (e : TypeId) (hrow : w.heap[b]? = some (.cells arr e (0, 0))) (k : Nat) :
    (w.setRow b arr').heap[k]? = if k = b then some (.cells arr' e (0, 0)) else w.heap[k]? := by
  by_cases hk : k = b
  · subst hk
    rw [if_pos rfl]
    exact setRow_heap w k arr arr' e (0, 0) hrow
  · rw [if_neg hk]
    simp only [World.setRow, Array.getElem?_modify]
    rw [if_neg (fun e => hk e.symm)]

theorem setRow_size (w : World) (b : Nat) (arr : Array Value) : (w.setRow b arr).heap.size = w.heap.size := by simp [World.setRow]

theorem below_setRow {w : World} {b : Nat} {arr : Array Value} (h : Below base w0 w) (hb : base ≤ b) : Below base w0 (w.setRow b arr) := by
  refine ⟨h.os, h.tape, h.output, by rw [setRow_size]; exact h.size, fun k hk => ?_⟩
  rw [← h.block k hk]
  simp only [World.setRow, Array.getElem?_modify]
  rw [if_neg (by omega)]

theorem move_own {l to : Loc} {b : Nat} {s : Nat × Nat} (h : g.own b = some (l, s)) : (g.move l to).own b = some (to, s) := by
  show (match g.own b with | some (l', s') => if l' = l then some (to, s') else some (l', s') | none => none) = _
  rw [h]
  simp

theorem move_other {l l' to : Loc} {b : Nat} {s : Nat × Nat} (h : g.own b = some (l', s)) (hne : l' ≠ l) : (g.move l to).own b = some (l', s) := by
  show (match g.own b with | some (l', s') => if l' = l then some (to, s') else some (l', s') | none => none) = _
  rw [h]
  simp [hne]

theorem RL.moved {l to : Loc} {v : AV} {x : Value} (h : RL g l v x) : RL (g.move l to) to v x := by
  cases h with
  | val h => exact .val h
  | own sz ls b off cap size h h1 h2 => exact .own sz ls b off cap size h (move_own h1) h2

theorem RL.stay {l l' to : Loc} {v : AV} {x : Value} (h : RL g l' v x) (hne : l' ≠ l) : RL (g.move l to) l' v x := by
  cases h with
  | val h => exact .val h
  | own sz ls b off cap size h h1 h2 => exact .own sz ls b off cap size h (move_other h1 hne) h2

theorem RL.plain {l : Loc} {v : AV} {x : Value} (h : RL g l v x) (hs : v.strip = v) : RV g.imm g.map g.blk v x := hs ▸ h.strip

/-- A right to append moves on. -/
theorem WM.move (hM : WM base w0 g w mem) {l to : Loc} (hl : ∀ i j c v, l = .cell i j → mem.get i = some c → c[j]? = some v → v.strip = v) : WM base w0 (g.move l to) w mem := by
  refine ⟨hM.imm, fun r e h => ⟨(hM.map r e h).1, fun hc => ⟨((hM.map r e h).2 hc).blk, by show (match g.own r with | some (l', s') => if l' = l then some (to, s') else some (l', s') | none => none) = none; rw [((hM.map r e h).2 hc).own], ((hM.map r e h).2 hc).imm⟩⟩, hM.get, ?_, hM.inj, hM.apart, ?_, hM.old, hM.size, hM.typ⟩
  · intro i b h
    obtain ⟨h1, h2, c2, arr2, e2, h3, h4, h5, h6⟩ := hM.blk i b h
    refine ⟨h1, h2, c2, arr2, e2, h3, h4, h5, fun j v x hv hx => ?_⟩
    by_cases he : (Loc.cell i j) = l
    · exact .val ((h6 j v x hv hx).plain (hl i j c2 v he.symm h3 hv))
    · exact (h6 j v x hv hx).stay he
  · intro b l' f s h
    change (match g.own b with | some (l', s') => if l' = l then some (to, s') else some (l', s') | none => none) = _ at h
    split at h
    · rename_i l2 s2 h2
      split at h <;> (simp only [Option.some.injEq, Prod.mk.injEq] at h; obtain ⟨_, rfl⟩ := h; exact hM.own _ _ _ _ h2)
    · cases h

/-- A cell's right to append is given up. -/
theorem WM.stripCell (hM : WM base w0 g w mem) {i : Id} {c : List AV} {off : Nat} {v : AV} (hget : mem.get i = some c) (hv : c[off]? = some v) : WM base w0 g w (mem.set i (c.set off v.strip)) := by
  obtain ⟨b, hb⟩ := hM.get i c hget
  obtain ⟨h1, h2, c2, arr2, e2, h3, h4, h5, h6⟩ := hM.blk i b hb
  obtain rfl : c = c2 := Option.some.inj (hget.symm.trans h3)
  refine hM.row hb hget h4 (by rw [h5, List.length_set]) (fun k => ?_) hM.old hM.size (fun j u x hu hx => ?_)
  · by_cases hk : k = b
    · subst hk; rw [if_pos rfl]; exact h4
    · rw [if_neg hk]
  · rw [List.getElem?_set] at hu
    split at hu
    · rename_i e
      subst e
      split at hu
      · cases hu
        exact .val (h6 _ _ _ hv hx).strip
      · cases hu
    · exact h6 j u x hu hx

/-- Behind an append that had room. -/
def G.grow (g : G) (to : Loc) (b f : Nat) (ys : List Value) (size : Nat) : G :=
  { g with
    imm := fun a => if a.block = b ∧ a.spot = none ∧ f ≤ a.off ∧ a.off < f + ys.length then ys[a.off - f]? else g.imm a
    own := fun k => if k = b then some (to, f + ys.length, size) else g.own k }

theorem WM.grow (hM : WM base w0 g w mem) {l to : Loc} (hl : ∀ i j, l ≠ .cell i j) {b f size : Nat} {ys : List Value} (ho : g.own b = some (l, f, size)) (hf : f + ys.length ≤ size) {arr : Array Value} {e : TypeId}
    (hrow : w.heap[b]? = some (.cells arr e (0, 0))) :
    WM base w0 (g.grow to b f ys size) (w.setRow b (splice arr.toList f ys).toArray) mem ∧ (∀ a v, g.imm a = some v → (g.grow to b f ys size).imm a = some v) := by
  obtain ⟨o1, ⟨arr', e', o2, o3⟩, o4, o5⟩ := hM.own b l f size ho
  obtain ⟨rfl, rfl⟩ : arr = arr' ∧ e = e' := by rw [hrow] at o2; simpa using o2
  have hmono : ∀ a v, g.imm a = some v → (g.grow to b f ys size).imm a = some v := by
    intro a v h
    show (if _ then _ else _) = _
    rw [if_neg]
    · exact h
    · rintro ⟨rfl, hs, h1, h2⟩
      have := o4 a.off a.spot h1
      rw [h] at this; cases this
  have hh := setRow_at w b arr (splice arr.toList f ys).toArray e hrow
  have hcell : ∀ a : Addr, a.block ≠ b → (w.setRow b (splice arr.toList f ys).toArray).cell? a = w.cell? a := by
    intro a ha
    simp only [World.cell?, hh, if_neg ha]
  refine ⟨⟨?_, ?_, hM.get, ?_, hM.inj, ?_, ?_, below_setRow hM.old o1, by rw [setRow_size]; exact hM.size, fun i b' h => by
    obtain ⟨d, h1, h2⟩ := hM.typ i b' h
    exact ⟨d, h1, fun ty e' => by
      obtain ⟨arr2, k⟩ := h2 ty e'
      by_cases hb' : b' = b
      · subst hb'
        rw [hrow] at k
        cases k
        exact ⟨_, by rw [hh, if_pos rfl]⟩
      · exact ⟨arr2, by rw [hh, if_neg hb']; exact k⟩⟩⟩, hmono⟩
  · intro a v h
    change (if _ then _ else _) = _ at h
    by_cases hb : a.block = b
    · have hcv : (w.setRow b (splice arr.toList f ys).toArray).cell? a = if a.spot.isSome then none else (splice arr.toList f ys)[a.off]? := by
        unfold World.cell?
        rw [hh, if_pos hb]
        simp
      rw [hcv]
      split at h
      · rename_i hc
        obtain ⟨_, hs, h1, h2⟩ := hc
        rw [hs]
        simp only [Option.isSome_none, Bool.false_eq_true, if_false, splice]
        rw [List.append_assoc, List.getElem?_append_right (by simp; omega), List.getElem?_append_left (by simp; omega)]
        simp only [List.length_take, Array.length_toList]
        rw [Nat.min_eq_left (by omega)]
        exact h
      · have hlt : a.off < f := by
          cases Nat.lt_or_ge a.off f with
          | inl hlt => exact hlt
          | inr hge => have := o4 a.off a.spot hge; rw [← hb, h] at this; cases this
        have hold := hM.imm a v h
        unfold World.cell? at hold
        rw [hb, hrow] at hold
        simp only at hold
        split at hold
        · cases hold
        · rename_i hsp
          simp only [hsp, Bool.false_eq_true, if_false, splice]
          rw [List.append_assoc, List.getElem?_append_left (by simp; omega), List.getElem?_take_of_lt hlt]
          simpa using hold
    · rw [if_neg (fun hc => hb hc.1)] at h
      rw [hcell a hb]
      exact hM.imm a v h
  · intro r es h
    obtain ⟨h1, cl⟩ := hM.map r es h
    have hne : r ≠ b := by
      intro e'
      subst e'
      rw [hrow] at h1
      cases h1
      rw [(cl rfl).own] at ho
      cases ho
    exact ⟨by rw [hh, if_neg hne]; exact h1, fun hc => ⟨(cl hc).blk, by show (if _ then _ else _) = none; rw [if_neg hne]; exact (cl hc).own, fun o sp => by
      show (if _ then _ else _) = none
      rw [if_neg (fun h => hne h.1)]
      exact (cl hc).imm o sp⟩⟩
  · intro i b' h
    obtain ⟨h1, h2, c2, arr2, e2, h3, h4, h5, h6⟩ := hM.blk i b' h
    have hne : b' ≠ b := fun e' => o5 i (e' ▸ h)
    refine ⟨h1, h2, c2, arr2, e2, h3, by rw [hh, if_neg hne]; exact h4, h5, fun j v x hv hx => ?_⟩
    have hr := h6 j v x hv hx
    cases hr with
    | val hr => exact .val (hr.mono hmono (fun _ _ h => h) (fun _ _ h => h))
    | own sz ls b2 off cap size2 hr k1 k2 =>
      by_cases hb2 : b2 = b
      · subst hb2
        rw [k1] at ho
        simp only [Option.some.injEq, Prod.mk.injEq] at ho
        exact absurd ho.1.symm (hl i j)
      · exact .own sz ls b2 off cap size2 (hr.mono hmono (fun _ _ h => h) (fun _ _ h => h)) (by show (if _ then _ else _) = _; rw [if_neg hb2]; exact k1) k2
  · intro i b' o s h
    have hne : b' ≠ b := fun e' => o5 i (e' ▸ h)
    show (if _ then _ else _) = _
    rw [if_neg (fun hc => hne hc.1)]
    exact hM.apart i b' o s h
  · intro b' l' f' s' h
    change (if b' = b then _ else _) = _ at h
    split at h
    · rename_i hb
      subst hb
      cases h
      refine ⟨o1, ⟨(splice arr.toList f ys).toArray, e, by rw [hh, if_pos rfl], by simp [splice]; omega⟩, fun o s h1 => ?_, o5⟩
      show (if _ then _ else _) = _
      rw [if_neg (by rintro ⟨_, _, _, h2⟩; simp at h2; omega)]
      exact o4 o s (by omega)
    · rename_i hb
      obtain ⟨h1, ⟨arr2, e2, h2, h3⟩, h4, h5⟩ := hM.own b' l' f' s' h
      refine ⟨h1, ⟨arr2, e2, by rw [hh, if_neg hb]; exact h2, h3⟩, fun o s h6 => ?_, h5⟩
      show (if _ then _ else _) = _
      rw [if_neg (fun hc => hb hc.1)]
      exact h4 o s h6

end
end Go.VA
