/-
  An abstract interpreter over the program's code: pure values, slices by value, few mutable blocks. Definitions only.
-/
import Derived.Below
import Derived.Orders
set_option linter.unusedSimpArgs false
set_option linter.unusedVariables false
namespace Go.VA
open Go

inductive Cap where | unk | exact | own
  deriving DecidableEq, Repr, Inhabited

structure Id where
  fr : Nat
  st : List Nat
  deriving DecidableEq, Repr, Inhabited

inductive AV where
  | undef
  | bool (b : Bool)
  | int (k : IntKind) (n : Int)
  | str (l : List UInt8)
  | nilp | nils | nili | nilf
  | agg (l : List AV)
  | tup (l : List AV)
  | slc (sz : Nat) (l : List AV) (c : Cap)
  | rptr (l : List AV)
  | ptr (id : Id) (off : Nat)
  | mslc (id : Id) (sz off len : Nat)
  | iface (t : TypeId) (v : AV)
  | fn (f : FuncId) (caps : List AV)
  | map (kv : List AV)
  deriving Inhabited

namespace AV
mutual
def beq : AV → AV → Bool
  | .undef, .undef => true
  | .bool a, .bool b => a == b
  | .int k n, .int k' n' => k == k' && n == n'
  | .str l, .str l' => l == l'
  | .nilp, .nilp => true
  | .nils, .nils => true
  | .nili, .nili => true
  | .nilf, .nilf => true
  | .agg l, .agg l' => beqs l l'
  | .tup l, .tup l' => beqs l l'
  | .slc s l c, .slc s' l' c' => s == s' && beqs l l' && c == c'
  | .rptr l, .rptr l' => beqs l l'
  | .ptr i o, .ptr i' o' => i == i' && o == o'
  | .mslc i s o n, .mslc i' s' o' n' => i == i' && s == s' && o == o' && n == n'
  | .iface t v, .iface t' v' => t == t' && beq v v'
  | .fn f c, .fn f' c' => f == f' && beqs c c'
  | .map l, .map l' => beqs l l'
  | _, _ => false
def beqs : List AV → List AV → Bool
  | [], [] => true
  | a :: l, b :: m => beq a b && beqs l m
  | _, _ => false
end

mutual
theorem eq_of_beq : ∀ (a b : AV), beq a b = true → a = b
  | a, b, h => by
    cases a <;> cases b <;> simp only [beq, Bool.and_eq_true, beq_iff_eq, Bool.false_eq_true] at h <;> first
      | rfl
      | (cases h; rfl)
      | (obtain ⟨h1, h2⟩ := h; subst h1; first | (subst h2; rfl) | rw [eqs_of_beqs _ _ h2] | rw [eq_of_beq _ _ h2])
      | (obtain ⟨⟨h1, h2⟩, h3⟩ := h; subst h1; subst h3; rw [eqs_of_beqs _ _ h2])
      | (obtain ⟨⟨⟨h1, h2⟩, h3⟩, h4⟩ := h; subst h1; subst h2; subst h3; subst h4; rfl)
      | rw [eqs_of_beqs _ _ h]
theorem eqs_of_beqs : ∀ (a b : List AV), beqs a b = true → a = b
  | [], [], _ => rfl
  | [], _ :: _, h => by simp [beqs] at h
  | _ :: _, [], h => by simp [beqs] at h
  | a :: l, b :: m, h => by
    simp only [beqs, Bool.and_eq_true] at h
    rw [eq_of_beq a b h.1, eqs_of_beqs l m h.2]
end

mutual
theorem beq_self : ∀ (a : AV), beq a a = true
  | .undef | .nilp | .nils | .nili | .nilf => rfl
  | .bool _ | .int _ _ | .str _ | .ptr _ _ | .mslc _ _ _ _ => by simp [beq]
  | .agg l | .tup l | .rptr l | .map l => by simp [beq, beqs_self l]
  | .slc _ l _ | .fn _ l => by simp [beq, beqs_self l]
  | .iface _ v => by simp [beq, beq_self v]
theorem beqs_self : ∀ (l : List AV), beqs l l = true
  | [] => rfl
  | a :: l => by simp [beqs, beq_self a, beqs_self l]
end

instance : DecidableEq AV := fun a b =>
  if h : beq a b = true then .isTrue (eq_of_beq a b h) else .isFalse fun e => h (by subst e; exact beq_self a)

/-- The cells of a value. -/
def cells : AV → List AV
  | .agg l => l
  | v => [v]

/-- A value without the right to append in place. -/
def strip : AV → AV
  | .slc s l .own => .slc s l .unk
  | v => v

/-- No reference to mutable memory, no right to append in place. -/
def pure : AV → Bool
  | .undef | .bool _ | .int _ _ | .str _ | .nilp | .nils | .nili | .nilf | .rptr _ | .map _ => true
  | .slc _ _ c => c != .own
  | .agg l => pures l
  | .tup l => pures l
  | .iface _ v => pure v
  | .fn _ l => pures l
  | .ptr _ _ | .mslc _ _ _ _ => false
where pures : List AV → Bool
  | [] => true
  | v :: l => pure v && pures l

/-- The value of one cell. -/
def one : AV → Bool
  | .undef | .agg _ | .tup _ => false
  | _ => true

/-- Is it a value at all? -/
def defd : AV → Bool
  | .undef => false
  | _ => true

/-- May this be a slice's element of so many cells? -/
def okElem (sz : Nat) (v : AV) : Bool := v.cells.length == sz && v.cells.all fun u => u.pure && u.one

/-- All references to mutable memory are to frames below n. -/
def under (n : Nat) : AV → Bool
  | .ptr i _ => i.fr < n
  | .mslc i _ _ _ => i.fr < n
  | .agg l => unders l
  | .tup l => unders l
  | .iface _ v => under n v
  | .fn _ l => unders l
  | _ => true
where unders : List AV → Bool
  | [] => true
  | v :: l => under n v && unders l

/-- There is a reference to this block. -/
def has (i : Id) : AV → Bool
  | .ptr j _ => i == j
  | .mslc j _ _ _ => i == j
  | .agg l => hass l
  | .tup l => hass l
  | .iface _ v => has i v
  | .fn _ l => hass l
  | _ => false
where hass : List AV → Bool
  | [] => false
  | v :: l => has i v || hass l

end AV

/-- One frame's blocks, by the place that made them. -/
abbrev Fr := List (List Nat × List AV)
abbrev Mem := List Fr

def Fr.get : Fr → List Nat → Option (List AV)
  | [], _ => none
  | (k, c) :: r, s => if s = k then some c else Fr.get r s
def Fr.set : Fr → List Nat → List AV → Fr
  | [], _, _ => []
  | (k, c) :: r, s, c' => if s = k then (k, c') :: r else (k, c) :: Fr.set r s c'

def Mem.get : Mem → Id → Option (List AV)
  | [], _ => none
  | f :: r, i => if i.fr = r.length then f.get i.st else Mem.get r i
def Mem.set : Mem → Id → List AV → Mem
  | [], _, _ => []
  | f :: r, i, c => if i.fr = r.length then f.set i.st c :: r else f :: Mem.set r i c
/-- The number of the uppermost frame. -/
def Mem.top (m : Mem) : Nat := m.length - 1
def Mem.new : Mem → List Nat → List AV → Option Mem
  | [], _, _ => none
  | f :: r, s, c => match f.get s with
    | some _ => none
    | none => some (((s, c) :: f) :: r)

/-- Cells written over, from a place on. -/
def over (c : List AV) (off : Nat) (x : List AV) : List AV := c.take off ++ x ++ c.drop (off + x.length)

inductive Opd where
  | tmp (t : Nat)
  | av (v : AV)
  deriving Inhabited

inductive SKind where
  | str
  | slc (sz : Nat)
  | arr (len sz : Nat)
  deriving Inhabited

inductive CKind where
  | int (k : IntKind)
  | same
  | toBytes
  | toStr
  deriving Inhabited

/-- The kind of a plain comparable cell. -/
inductive LK where
  | b | i | s
  deriving DecidableEq, Inhabited

inductive EKind where
  | bool | ptr | slc | iface | func | agg (ks : List LK)
  deriving DecidableEq, Inhabited

inductive AOp where
  | mv (x : Opd)
  | pick (c a b : Opd)
  | alloc (zero : List AV)
  | box (imm : Bool) (x : Opd)
  | build (zero : List AV) (parts : List (Nat × Nat × Opd))
  | bslice (imm : Bool) (sz n : Nat) (zero : List AV) (parts : List (Nat × Opd))
  | load (agg take : Bool) (n : Nat) (a : Opd)
  | store (n : Nat) (a x : Opd)
  | nilchk (x : Opd)
  | bin (op : BinOp) (x y : Opd)
  | eq (k : EKind) (neg : Bool) (x y : Opd)
  | un (op : UnOp) (x : Opd)
  | conv (c : CKind) (x : Opd)
  | mkif (t : TypeId) (x : Opd)
  | mkfn (f : FuncId) (caps : List Opd)
  | mkslc (imm : Bool) (sz bytes : Nat) (zero : List AV) (n c : Opd)
  | slice (k : SKind) (x : Opd) (lo hi mx : Option Opd)
  | faddr (off : Nat) (x : Opd)
  | field (agg : Bool) (off n : Nat) (x : Opd)
  | iaddr (arr : Option Nat) (sz : Nat) (x i : Opd)
  | ixarr (agg : Bool) (len sz : Nat) (x i : Opd)
  | ixstr (x i : Opd)
  | lookup (zero : AV) (ok : Bool) (x i : Opd)
  | tassert (t : TypeId) (ok : Bool) (zero : AV) (x : Opd)
  | extract (x : Opd) (i : Nat)
  | call (f : Opd) (args : List Opd)
  | invoke (m : String) (x : Opd) (args : List Opd)
  | len (str : Bool) (x : Opd)
  | append (sz bytes : Nat) (x y : Opd)
  | min2 (x y : Opd)
  | max2 (x y : Opd)
  deriving Inhabited

structure AOper where
  dst : Option Nat
  op : AOp
  guard : Option (Nat × Bool) := none
  /-- temporaries whose right to append moves on -/
  take : List Nat := []
  /-- in a statement whose order is open: loads and stores ahead in the text that are held apart from this one as it runs -/
  apart : List Nat := []
  deriving Inhabited

inductive ACode where
  | skip
  | reg (draw : Bool) (ops : List AOper)
  | seq (a b : ACode)
  | cond (c : Opd) (a b : ACode)
  | block (id : Nat) (c : ACode)
  | loop (c : ACode)
  | exit (id : Nat)
  | ret
  /-- before c: all temporaries but these are forgotten; these blocks are let go -/
  | cut (keep : List Nat) (drop : List (List Nat)) (c : ACode)
  deriving Inhabited

inductive ARes where
  | tmp (t : Nat)
  | cell (agg : Bool) (n : Nat) (t : Nat)
  deriving Inhabited

structure AFunc where
  ntmps : Nat
  body : ACode
  results : List ARes
  esc : Bool := false
  deriving Inhabited

inductive Ex where
  | normal | exit (id : Nat) | ret
  deriving DecidableEq, Inhabited

structure St where
  tm : List AV
  mem : Mem
  deriving Inhabited

structure Ctx where
  fn : FuncId → Option AFunc
  prim : FuncId → Option (List AV → Option AV)
  meth : TypeId → String → Option FuncId

def getT (tm : List AV) (t : Nat) : AV := tm.getD t .undef

/-- An operand's value; the right to append only where it moves on. -/
def rho (tm : List AV) (take : List Nat) : Opd → AV
  | .tmp t => if t ∈ take then getT tm t else (getT tm t).strip
  | .av v => v

def stripAll (tm : List AV) : List Nat → List AV
  | [] => tm
  | t :: r => stripAll (tm.set t (getT tm t).strip) r

def putT (tm : List AV) : Option Nat → AV → List AV
  | some d, v => tm.set d v
  | none, _ => tm

/-- 'part': a component of an aggregate's cells. -/
def part (agg : Bool) (c : List AV) (off n : Nat) : Option AV :=
  if agg then (if off + n ≤ c.length then some (.agg ((c.drop off).take n)) else none) else c[off]?

def bytesLess : List UInt8 → List UInt8 → Bool
  | _, [] => false
  | [], _ :: _ => true
  | a :: x, b :: y => a < b || (a == b && bytesLess x y)

/-- Are two rows of plain cells equal? -/
def flatEq : List LK → List AV → List AV → Option Bool
  | [], _, _ => some true
  | .i :: ks, .int k a :: l, .int k' b :: m => if k = k' then (flatEq ks l m).map ((a == b) && ·) else none
  | .s :: ks, .str a :: l, .str b :: m => (flatEq ks l m).map ((a == b) && ·)
  | .b :: ks, .bool a :: l, .bool b :: m => (flatEq ks l m).map ((a == b) && ·)
  | _, _, _ => none

def bits (op : BinOp) (k : IntKind) (x y : Int) : Option AV :=
  let a := BitVec.ofInt k.bits x
  let b := BitVec.ofInt k.bits y
  match op with
  | .and => some (.int k (k.wrap (a &&& b).toNat))
  | .or => some (.int k (k.wrap (a ||| b).toNat))
  | .xor => some (.int k (k.wrap (a ^^^ b).toNat))
  | .andNot => some (.int k (k.wrap (a &&& ~~~b).toNat))
  | _ => none

def binInt (op : BinOp) (k : IntKind) (a : Int) (k' : IntKind) (b : Int) : Option AV :=
  match op with
  | .shl => if b < 0 then none else some (.int k (k.wrap (a * 2 ^ (min b.toNat k.bits))))
  | .shr => if b < 0 then none else some (.int k (a.fdiv (2 ^ (min b.toNat k.bits))))
  | .add => if k = k' then some (.int k (k.wrap (a + b))) else none
  | .sub => if k = k' then some (.int k (k.wrap (a - b))) else none
  | .mul => if k = k' then some (.int k (k.wrap (a * b))) else none
  | .quo => if k = k' then (if b = 0 then none else some (.int k (k.wrap (a.tdiv b)))) else none
  | .rem => if k = k' then (if b = 0 then none else some (.int k (a.tmod b))) else none
  | .eql => if k = k' then some (.bool (a == b)) else none
  | .neq => if k = k' then some (.bool (a != b)) else none
  | .lss => if k = k' then some (.bool (decide (a < b))) else none
  | .leq => if k = k' then some (.bool (decide (a ≤ b))) else none
  | .gtr => if k = k' then some (.bool (decide (b < a))) else none
  | .geq => if k = k' then some (.bool (decide (b ≤ a))) else none
  | _ => if k = k' then bits op k a b else none

def binStr (op : BinOp) (a b : List UInt8) : Option AV :=
  match op with
  | .add => if a.length + b.length ≤ 9223372036854775807 then some (.str (a ++ b)) else none
  | .eql => some (.bool (a == b))
  | .neq => some (.bool !(a == b))
  | .lss => some (.bool (bytesLess a b))
  | .leq => some (.bool (bytesLess a b || a == b))
  | .gtr => some (.bool !(bytesLess a b || a == b))
  | .geq => some (.bool !(bytesLess a b))
  | _ => none

def eqv : EKind → AV → AV → Option Bool
  | .bool, .bool a, .bool b => some (a == b)
  | .ptr, .nilp, .nilp => some true
  | .ptr, .nilp, .ptr _ _ => some false
  | .ptr, .nilp, .rptr _ => some false
  | .ptr, .ptr _ _, .nilp => some false
  | .ptr, .rptr _, .nilp => some false
  | .slc, .nils, .nils => some true
  | .slc, .nils, .slc _ _ _ => some false
  | .slc, .slc _ _ _, .nils => some false
  | .iface, .nili, .nili => some true
  | .iface, .nili, .iface _ _ => some false
  | .iface, .iface _ _, .nili => some false
  | .func, .nilf, .nilf => some true
  | .func, .nilf, .fn _ _ => some false
  | .func, .fn _ _, .nilf => some false
  | .agg ks, .agg x, .agg y => flatEq ks x y
  | _, _, _ => none

def bin (op : BinOp) (x y : AV) : Option AV :=
  match x, y with
  | .int k a, .int k' b => binInt op k a k' b
  | .str a, .str b => binStr op a b
  | _, _ => none

def un (op : UnOp) (x : AV) : Option AV :=
  match op, x with
  | .neg, .int k n => some (.int k (k.wrap (0 - n)))
  | .not, .bool b => some (.bool !b)
  | _, _ => none

def u8s : List AV → Option (List UInt8)
  | [] => some []
  | .int .u8 n :: r => if 0 ≤ n ∧ n ≤ 255 then (u8s r).map (UInt8.ofNat n.toNat :: ·) else none
  | _ => none

def byteCells (l : List UInt8) : List AV := l.map fun b => .int .u8 b.toNat

def conv (c : CKind) (x : AV) : Option AV :=
  match c, x with
  | .int k, .int _ n => some (.int k (k.wrap n))
  | .same, .str l => some (.str l)
  | .toStr, .slc 1 l c => if c = .own then none else (u8s l).map .str
  | .toStr, .nils => some (.str [])
  | _, _ => none

/-- 'fill': parts laid over zero cells. -/
def fill (c : List AV) : List (Nat × Nat × AV) → Option (List AV)
  | [] => some c
  | (off, sz, v) :: r => if v.cells.length = sz ∧ off + sz ≤ c.length then fill (over c off v.cells) r else none

def toElems (sz : Nat) (zero : List AV) (n : Nat) : List AV := List.replicate n (match zero with | [v] => if sz = 1 then v else .agg [v] | l => .agg l)

/-- Elements put into a list. -/
def setElems (sz : Nat) : List AV → List (Nat × AV) → Option (List AV)
  | l, [] => some l
  | l, (i, v) :: r => if v.okElem sz ∧ i < l.length then setElems sz (l.set i v) r else none

def bounds (len cap : Nat) (hasCap : Bool) (lo hi mx : Option AV) : Option (Nat × Nat × Nat) :=
  -- low, high, max; cap: the greatest bound that is known to be allowed
  match mx, hi, lo with
  | none, none, none => some (0, len, cap)
  | none, none, some (.int _ l) => if 0 ≤ l ∧ l ≤ len then some (l.toNat, len, cap) else none
  | none, some (.int _ h), none => if 0 ≤ h ∧ h ≤ cap then some (0, h.toNat, cap) else none
  | none, some (.int _ h), some (.int _ l) => if 0 ≤ l ∧ l ≤ h ∧ h ≤ cap then some (l.toNat, h.toNat, cap) else none
  | some (.int _ m), some (.int _ h), none => if hasCap = true ∧ 0 ≤ h ∧ h ≤ m ∧ m ≤ cap then some (0, h.toNat, m.toNat) else none
  | some (.int _ m), some (.int _ h), some (.int _ l) => if hasCap = true ∧ 0 ≤ l ∧ l ≤ h ∧ h ≤ m ∧ m ≤ cap then some (l.toNat, h.toNat, m.toNat) else none
  | _, _, _ => none

def slice (k : SKind) (x : AV) (lo hi mx : Option AV) : Option AV :=
  match k, x with
  | .str, .str s => (bounds s.length s.length false lo hi mx).map fun (l, h, _) => .str ((s.take h).drop l)
  | .slc sz, .slc sz' v c =>
    if sz = sz' then (bounds v.length v.length true lo hi mx).map fun (l, h, m) =>
      .slc sz ((v.take h).drop l) (if mx.isSome && h == m then .exact else if c = .exact ∧ h = v.length then .exact else .unk)
    else none
  | .slc _, .nils => (bounds 0 0 true lo hi mx).map fun _ => .nils
  | .slc sz, .mslc i sz' off len => if sz = sz' then (bounds len len true lo hi mx).map fun (l, h, _) => .mslc i sz (off + l * sz) (h - l) else none
  | .arr len sz, .ptr i off => (bounds len len true lo hi mx).map fun (l, h, _) => .mslc i sz (off + l * sz) (h - l)
  | _, _ => none

def iaddr (arr : Option Nat) (sz : Nat) (x i : AV) : Option AV :=
  match i with
  | .int _ n =>
    match arr, x with
    | none, .slc sz' l _ => if sz' = sz ∧ 0 ≤ n then (l[n.toNat]?).map fun v => .rptr v.cells else none
    | none, .mslc id sz' off len => if sz' = sz ∧ 0 ≤ n ∧ n < len then some (.ptr id (off + n.toNat * sz)) else none
    | some len, .ptr id off => if 0 ≤ n ∧ n < len then some (.ptr id (off + n.toNat * sz)) else none
    | some len, .rptr l => if 0 ≤ n ∧ n < len then some (.rptr (l.drop (n.toNat * sz))) else none
    | _, _ => none
  | _ => none

def elemsOf (sz : Nat) : AV → Option (List AV)
  | .slc sz' l _ => if sz = sz' then some l else none
  | .nils => some []
  | .str s => if sz = 1 then some (byteCells s) else none
  | _ => none

/-- How many elements a slice may have behind an append. -/
def room : Nat := 4294967296

def append (sz bytes : Nat) (x y : AV) : Option AV :=
  match elemsOf sz y with
  | none => none
  | some new =>
    match x with
    | .nils => if new.length * bytes ≤ room then (if new = [] then some .nils else some (.slc sz new .own)) else none
    | .slc sz' l c =>
      if sz = sz' ∧ (l.length + new.length) * bytes ≤ room then
        (if new = [] then some (.slc sz l c) else if c = .unk then none else some (.slc sz (l ++ new) .own))
      else none
    | _ => none

/-- Is this entry of a map the one for a text? -/
def mapFind (s : List UInt8) (e : AV) : Option AV := match e with
  | .tup [.str k, v] => if k == s then some v else none
  | _ => none

/-- An operation that calls no function of the program. 'tm' is not read here but by 'ρ'. -/
def evOp (mem : Mem) (dst : Nat) (ρ : Opd → AV) : AOp → Option (AV × Mem)
  | .mv x => some (ρ x, mem)
  | .pick c a b => match ρ c with
    | .bool t => some (cond t (ρ a).strip (ρ b).strip, mem)
    | _ => none
  | .alloc zero => (mem.new [dst] zero).map fun m => (.ptr ⟨mem.top, [dst]⟩ 0, m)
  | .box true x => if (ρ x).pure ∧ (ρ x).defd then some (.rptr (ρ x).cells, mem) else none
  | .box false x => if (ρ x).under mem.length ∧ (ρ x).defd then (mem.new [dst] (ρ x).strip.cells).map fun m => (.ptr ⟨mem.top, [dst]⟩ 0, m) else none
  | .build zero parts => if parts.all (fun p => (ρ p.2.2).defd) then (fill zero (parts.map fun (o, s, x) => (o, s, (ρ x).strip))).map fun c => (.agg c, mem) else none
  | .bslice true sz n zero parts => (setElems sz (toElems sz zero n) (parts.map fun (i, x) => (i, (ρ x).strip))).map fun l => (.slc sz l .exact, mem)
  | .bslice false sz n zero parts =>
    if parts.all (fun p => (ρ p.2).defd) then ((fill (List.replicate n zero).flatten (parts.map fun (i, x) => (i * sz, sz, (ρ x).strip))).bind fun c =>
      if AV.under.unders mem.length c then (mem.new [dst] c).map fun m => (.mslc ⟨mem.top, [dst]⟩ sz 0 n, m) else none) else none
  | .load agg take n a => match ρ a with
    | .rptr c => if agg then (if n ≤ c.length then some (.agg (c.take n), mem) else none) else (c[0]?).map (·, mem)
    | .ptr i off => (mem.get i).bind fun c =>
      if agg then (if off + n ≤ c.length then some (.agg (((c.drop off).take n).map AV.strip), mem) else none)
      else if take then (c[off]?).map fun v => (v, mem.set i (c.set off v.strip))
      else (c[off]?).map fun v => (v.strip, mem)
    | _ => none
  | .store n a x => match ρ a with
    | .ptr i off => (mem.get i).bind fun c =>
      if (ρ x).cells.length = n ∧ off + n ≤ c.length ∧ (ρ x).under (i.fr + 1) ∧ (ρ x).cells.all AV.one then some (.undef, mem.set i (over c off (ρ x).cells)) else none
    | _ => none
  | .nilchk x => match ρ x with
    | .rptr c => some (.rptr c, mem)
    | .ptr i o => some (.ptr i o, mem)
    | .fn f c => some (.fn f c, mem)
    | _ => none
  | .bin op x y => (bin op (ρ x) (ρ y)).map (·, mem)
  | .eq k neg x y => (eqv k (ρ x).strip (ρ y).strip).map fun b => (.bool (neg ^^ b), mem)
  | .un op x => (un op (ρ x)).map (·, mem)
  | .conv c x => (conv c (ρ x)).map (·, mem)
  | .mkif t x => some (.iface t (ρ x).strip, mem)
  | .mkfn f caps => some (.fn f (caps.map fun x => (ρ x).strip), mem)
  | .mkslc imm sz bytes zero n c => match ρ n, ρ c with
    | .int _ l, .int _ m =>
      if 0 ≤ l ∧ l ≤ m ∧ m * (max bytes 1 : Nat) ≤ room then
        (if imm then some (.slc sz (toElems sz zero l.toNat) (if l = m then .exact else .own), mem)
         else if l = m then (mem.new [dst] (List.replicate l.toNat zero).flatten).map fun w => (.mslc ⟨mem.top, [dst]⟩ sz 0 l.toNat, w) else none)
      else none
    | _, _ => none
  | .slice k x lo hi mx => (slice k (ρ x).strip (lo.map ρ) (hi.map ρ) (mx.map ρ)).map (·, mem)
  | .faddr off x => match ρ x with
    | .rptr c => some (.rptr (c.drop off), mem)
    | .ptr i o => some (.ptr i (o + off), mem)
    | _ => none
  | .field agg off n x => match ρ x with
    | .agg c => (part agg c off n).map (·, mem)
    | _ => none
  | .iaddr arr sz x i => (iaddr arr sz (ρ x) (ρ i)).map (·, mem)
  | .ixarr agg len sz x i => match ρ x, ρ i with
    | .agg c, .int _ n => if 0 ≤ n ∧ n < len then (part agg c (n.toNat * sz) sz).map (·, mem) else none
    | _, _ => none
  | .ixstr x i => match ρ x, ρ i with
    | .str s, .int _ n => if 0 ≤ n then (s[n.toNat]?).map fun b => (.int .u8 b.toNat, mem) else none
    | _, _ => none
  | .lookup zero ok x i => match ρ x, ρ i with
    | .map kv, .str s =>
      some (if ok then (match kv.findSome? (mapFind s) with | some v => .tup [v, .bool true] | none => .tup [zero, .bool false]) else (kv.findSome? (mapFind s)).getD zero, mem)
    | _, _ => none
  | .tassert t ok zero x => match ρ x with
    | .iface u v =>
      if u = t then some (if ok then .tup [v, .bool true] else v, mem)
      else if ok then some (.tup [zero, .bool false], mem) else none
    | .nili => if ok then some (.tup [zero, .bool false], mem) else none
    | _ => none
  | .extract x i => match ρ x with
    | .tup l => (l[i]?).map (·, mem)
    | _ => none
  | .len str x => match str, (ρ x).strip with
    | false, .slc _ l _ => some (.int .i64 l.length, mem)
    | false, .mslc _ _ _ n => some (.int .i64 n, mem)
    | false, .nils => some (.int .i64 0, mem)
    | true, .str s => some (.int .i64 s.length, mem)
    | _, _ => none
  | .append sz bytes x y => (append sz bytes (ρ x) (ρ y).strip).map (·, mem)
  | .min2 x y => match ρ x, ρ y with
    | .int k a, .int _ b => some (.int k (if b < a then b else a), mem)
    | _, _ => none
  | .max2 x y => match ρ x, ρ y with
    | .int k a, .int _ b => some (.int k (if a < b then b else a), mem)
    | _, _ => none
  | .call .. | .invoke .. => none

abbrev CallF := FuncId → List AV → Mem → Option (AV × Mem)

def evAny (C : Ctx) (call : CallF) (mem : Mem) (dst : Nat) (ρ : Opd → AV) (op : AOp) : Option (AV × Mem) :=
  match op with
  | .call f args => match ρ f with
    | .fn g caps => call g ((args.map fun x => (ρ x).strip) ++ caps) mem
    | _ => none
  | .invoke m x args => match ρ x with
    | .iface t v => match C.meth t m with
      | some g => call g (v :: args.map fun x => (ρ x).strip) mem
      | none => none
    | _ => none
  | op => evOp mem dst ρ op

def evOper (C : Ctx) (call : CallF) (o : AOper) (σ : St) : Option St :=
  let go : Option St := (evAny C call σ.mem (o.dst.getD 0) (rho σ.tm o.take) o.op).map fun (v, m) => ⟨putT (stripAll σ.tm o.take) o.dst v, m⟩
  match o.guard with
  | none => go
  | some (t, want) => match getT σ.tm t with
    | .bool b => cond (b == want) go (some ⟨putT σ.tm o.dst (.tup []), σ.mem⟩)
    | .tup [] => some ⟨putT σ.tm o.dst (.tup []), σ.mem⟩
    | _ => none

def evOps (C : Ctx) (call : CallF) : List AOper → St → Option St
  | [], σ => some σ
  | o :: r, σ => (evOper C call o σ).bind (evOps C call r)

/-- Places of the memory: a block, from where, how many cells. -/
abbrev Foot := Id × Nat × Nat
def footApart : Foot → Foot → Bool
  | (i, off, n), (i', off', n') => i != i' || decide (off + n ≤ off') || decide (off' + n' ≤ off)

/-- What a load reads. -/
def loadFoot (tm : List AV) (o : AOper) : Option Foot :=
  match o.op with
  | .load agg _ n a => match rho tm o.take a with
    | .ptr i off => some (i, off, if agg then n else 1)
    | _ => none
  | _ => none

/-- The operations of a statement whose order is open: none but the stores turns the memory; no two stores meet, and no load meets a store that is not ordered beside it. -/
def evDraw (C : Ctx) (call : CallF) : List AOper → Nat → List (Nat × Foot) → List (Nat × Foot) → St → Option St
  | [], _, _, _, σ => some σ
  | o :: r, k, rs, ws, σ => match o.op with
    | .store n a _ => match rho σ.tm o.take a with
      | .ptr i off =>
        if (ws.all fun q => footApart (i, off, n) q.2) && (rs.all fun q => !o.apart.contains q.1 || footApart (i, off, n) q.2) then
          (evOper C call o σ).bind (evDraw C call r (k + 1) rs ((k, (i, off, n)) :: ws))
        else none
      | _ => none
    | _ => match loadFoot σ.tm o with
      | some f =>
        if ws.all fun q => !o.apart.contains q.1 || footApart q.2 f then
          (evOper C call o σ).bind fun σ' => if σ'.mem = σ.mem then evDraw C call r (k + 1) ((k, f) :: rs) ws σ' else none
        else none
      | none => (evOper C call o σ).bind fun σ' => if σ'.mem = σ.mem then evDraw C call r (k + 1) rs ws σ' else none

def keepT (keep : List Nat) : Nat → List AV → List AV
  | _, [] => []
  | i, v :: r => (if i ∈ keep then v else .undef) :: keepT keep (i + 1) r

def Fr.drop (f : Fr) : List (List Nat) → Fr
  | [] => f
  | s :: r => Fr.drop (f.filter fun e => e.1 ≠ s) r

/-- Nothing refers to these blocks of the uppermost frame. -/
def free (fr : Nat) (drop : List (List Nat)) (tm : List AV) (f : Fr) : Bool :=
  drop.all fun s => tm.all (fun v => !v.has ⟨fr, s⟩) && f.all fun e => e.2.all fun v => !v.has ⟨fr, s⟩

def evCut (keep : List Nat) (drop : List (List Nat)) (σ : St) : Option St :=
  match σ.mem with
  | [] => none
  | f :: r =>
    let tm := keepT keep 0 σ.tm
    let f' := f.drop drop
    if free r.length drop tm f' then some ⟨tm, f' :: r⟩ else none

def evRes (tm : List AV) (mem : Mem) : ARes → Option AV
  | .tmp t => some (getT tm t)
  | .cell agg n t => match getT tm t with
    | .ptr i off => (mem.get i).bind fun c =>
      if agg then (if off + n ≤ c.length then some (.agg (((c.drop off).take n).map AV.strip)) else none)
      else (c[off]?).map AV.strip
    | .rptr c => if agg then (if n ≤ c.length then some (.agg (c.take n)) else none) else c[0]?
    | _ => none

def evResults (tm : List AV) (mem : Mem) : List ARes → Option AV
  | [r] => evRes tm mem r
  | rs => (rs.foldr (fun r acc => (evRes tm mem r).bind fun v => acc.map (v.strip :: ·)) (some [])).map .tup

def mapO (f : AV → Option AV) : List AV → Option (List AV)
  | [] => some []
  | v :: r => (f v).bind fun u => (mapO f r).map (u :: ·)

def chunks (sz : Nat) : Nat → List AV → List AV
  | 0, _ => []
  | n + 1, l => (if sz = 1 then l.headD .undef else .agg (l.take sz)) :: chunks sz n (l.drop sz)

/-- References to blocks of frames from 'fr' on become copies of what lies there: nobody will write there again. -/
def freeze (mem : Mem) (fr : Nat) : Nat → AV → Option AV
  | 0, _ => none
  | n + 1, v => match v with
    | .ptr i off => if i.fr < fr then some (.ptr i off) else (mem.get i).bind fun c => (mapO (freeze mem fr n) (c.drop off)).bind fun l => if AV.pure.pures l then some (.rptr l) else none
    | .mslc i sz off len => if i.fr < fr then some (.mslc i sz off len) else (mem.get i).bind fun c => (mapO (freeze mem fr n) ((c.drop off).take (len * sz))).bind fun l =>
        if (chunks sz len l).all (AV.okElem sz) ∧ l.all AV.one ∧ l.length = len * sz then some (.slc sz (chunks sz len l) .unk) else none
    | .agg l => (mapO (freeze mem fr n) l).map .agg
    | .tup l => (mapO (freeze mem fr n) l).map .tup
    | .iface t u => (freeze mem fr n u).map (.iface t)
    | .fn f l => (mapO (freeze mem fr n) l).map (.fn f)
    | v => some v

/-- A call: the code is run by 'rec'. -/
def callWith (C : Ctx) (rec : ACode → St → Option (Ex × St)) : CallF := fun f args mem =>
  match C.prim f with
  | some g => if AV.pure.pures args then (g args).map (·, mem) else none
  | none => match C.fn f with
    | none => none
    | some af =>
      match rec af.body ⟨args ++ List.replicate (af.ntmps - args.length) .undef, [] :: mem⟩ with
      | some (.normal, σ) | some (.ret, σ) =>
        (evResults σ.tm σ.mem af.results).bind fun v => if v.under mem.length then some (v, σ.mem.tail) else
          (freeze σ.mem mem.length 16 v).bind fun u => if u.under mem.length then some (u, σ.mem.tail) else none
      | _ => none

def stepC (C : Ctx) (rec : ACode → St → Option (Ex × St)) : ACode → St → Option (Ex × St)
  | .skip, σ => some (.normal, σ)
  | .reg false ops, σ => (evOps C (callWith C rec) ops σ).map (.normal, ·)
  | .reg true ops, σ => (evDraw C (callWith C rec) ops 0 [] [] σ).map (.normal, ·)
  | .seq a b, σ => match rec a σ with
    | some (.normal, σ') => rec b σ'
    | r => r
  | .cond c a b, σ => match rho σ.tm [] c with
    | .bool t => cond t (rec a σ) (rec b σ)
    | _ => none
  | .block id c, σ => match rec c σ with
    | some (.exit j, σ') => if j = id then some (.normal, σ') else some (.exit j, σ')
    | r => r
  | .loop c, σ => match rec c σ with
    | some (.normal, σ') => rec (.loop c) σ'
    | r => r
  | .exit id, σ => some (.exit id, σ)
  | .ret, σ => some (.ret, σ)
  | .cut keep drop c, σ => (evCut keep drop σ).bind (rec c)

def ev (C : Ctx) : Nat → ACode → St → Option (Ex × St)
  | 0, _, _ => none
  | k + 1, c, σ => stepC C (ev C k) c σ

end Go.VA
