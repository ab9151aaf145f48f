/-
  The check that an abstract code is that of the program's code.
-/
import Derived.Test.YtifieekfojbkhaaGreatDoorVaRel
set_option linter.unusedSimpArgs false
set_option linter.unusedVariables false
namespace Go.VA
open Go

def constS : Value → Option AV
  | .bool b => some (.bool b)
  | .int k n => some (.int k n)
  | .string s => some (.str s.data.toList)
  | .pointer none => some .nilp
  | .slice none 0 0 => some .nils
  | .nilIface => some .nili
  | .nilFunc => some .nilf
  | _ => none

def constAVs : List Value → Option (List AV)
  | [] => some []
  | v :: r => match constS v, constAVs r with
    | some a, some l => some (a :: l)
    | _, _ => none

def constAV : Value → Option AV
  | .agg cs => (constAVs cs.toList).map .agg
  | v => constS v

/-- What the program's package-level variables hold. -/
abbrev Globs := Nat → Option (List AV)

def chkOpd (gl : Globs) : Operand → Opd → Bool
  | .tmp t, .tmp t' => t == t'
  | .const v, .av a => constAV v == some a
  | .func f, .av (.fn g []) => f == g
  | .global g, .av (.rptr c) => gl g == some c
  | _, _ => false

def chkOpds (gl : Globs) : List Operand → List Opd → Bool
  | [], [] => true
  | x :: l, y :: m => chkOpd gl x y && chkOpds gl l m
  | _, _ => false

def chkOpdO (gl : Globs) : Option Operand → Option Opd → Bool
  | none, none => true
  | some x, some y => chkOpd gl x y
  | _, _ => false

def isAggB (P : Program) (t : TypeId) : Bool := match P.underlying t with | some (.struct _) | some (.array _ _) => true | _ => false
def hasU (P : Program) (t : TypeId) : Bool := (P.underlying t).isSome
def szB (P : Program) (t : TypeId) (n : Nat) : Bool := match P.info? t with | some i => i.size == n | none => false
def zeroB (P : Program) (t : TypeId) (z : List AV) : Bool := match P.info? t with
  | some i => (match i.zero with | some v => constAVs v.cells.toList == some z | none => false)
  | none => false
def elemB (P : Program) (t e : TypeId) : Bool := match P.underlying t with | some (.slice e') => e == e' | _ => false

def chkParts (P : Program) (gl : Globs) (place : Nat → Option (Nat × Nat)) : List (Nat × Operand) → List (Nat × Nat × Opd) → Bool
  | [], [] => true
  | (i, x) :: l, (o, s, y) :: m => (match place i with | some (o', s') => o == o' && s == s' | none => false) && chkOpd gl x y && chkParts P gl place l m
  | _, _ => false

def chkElems (gl : Globs) : List (Nat × Operand) → List (Nat × Opd) → Bool
  | [], [] => true
  | (i, x) :: l, (j, y) :: m => i == j && chkOpd gl x y && chkElems gl l m
  | _, _ => false

def leafsF (P : Program) (rec : TypeId → Option (List LK)) : List Field → Nat → Option (List LK)
  | [], _ => some []
  | f :: r, o => (rec f.type).bind fun ks => if f.name != "_" && f.offset == o && szB P f.type ks.length then (leafsF P rec r (o + ks.length)).map (ks ++ ·) else none

/-- The kinds of the cells of a type of plain comparable values: no interface, no pointer, no float; the parts lie one behind the other. -/
def leafs (P : Program) : Nat → TypeId → Option (List LK)
  | 0, _ => none
  | d + 1, t => match P.underlying t with
    | some .bool => some [.b]
    | some (.int _) => some [.i]
    | some .string => some [.s]
    | some (.struct fs) => if P.stoodInHeld t then none else leafsF P (leafs P d) fs.toList 0
    | _ => none

def isConstB : Operand → Bool
  | .const _ => true
  | _ => false

def chkEq (P : Program) (t : TypeId) (x y : Operand) (k : EKind) : Bool :=
  match k, P.underlying t with
  | .bool, some .bool => true
  | .ptr, some (.pointer _) => true
  | .slc, some (.slice _) => true
  | .iface, some (.interface _) => isConstB x || isConstB y
  | .func, some (.func _ _ _) => true
  | .agg ks, some (.struct _) => leafs P 64 t == some ks && !P.eqGuardType P.depth t && szB P t ks.length
  | _, _ => false

def chkOp (P : Program) (gl : Globs) (op : Op) : AOp → Bool
  | .mv y => match op with
    | .move x | .assign x => chkOpd gl x y
    | _ => false
  | .pick c a b => match op with
    | .pick c' a' b' => chkOpd gl c' c && chkOpd gl a' a && chkOpd gl b' b
    | _ => false
  | .alloc z => match op with
    | .alloc t => zeroB P t z
    | _ => false
  | .box _ y => match op with
    | .box _ x => chkOpd gl x y
    | _ => false
  | .build z ps => match op with
    | .build t parts => zeroB P t z && (match P.underlying t with
      | some (.struct fs) => fs.toList.all (fun f => (P.info? f.type).isSome) && chkParts P gl (fun i => (fs[i]?).map fun f => (f.offset, P.cellsOf f.type)) parts.toList ps
      | some (.array _ e) => (P.info? e).isSome && chkParts P gl (fun i => some (i * P.cellsOf e, P.cellsOf e)) parts.toList ps
      | _ => false)
    | _ => false
  | .bslice _ sz n z ps => match op with
    | .buildSlice t len parts => n == len && decide (len * sz ≤ 16777216) && (match P.underlying t with
      | some (.slice e) => szB P e sz && zeroB P e z && z.length == sz && decide (0 < sz) && z.all (fun u => u.pure && u.one) && chkElems gl parts.toList ps
      | _ => false)
    | _ => false
  | .load agg _ n b => match op with
    | .load t a => isAggB P t == agg && hasU P t && szB P t n && chkOpd gl a b
    | _ => false
  | .store n b y => match op with
    | .store t a x => szB P t n && chkOpd gl a b && chkOpd gl x y
    | _ => false
  | .nilchk y => match op with
    | .nilCheck x => chkOpd gl x y
    | _ => false
  | .bin b y1 y2 => match op with
    | .binOp b' t x1 x2 _ => b == b' && chkOpd gl x1 y1 && chkOpd gl x2 y2 
    | _ => false
  | .eq k neg y1 y2 => match op with
    | .binOp b t x1 x2 _ => chkOpd gl x1 y1 && chkOpd gl x2 y2 && chkEq P t x1 x2 k && (match b with | .eql => !neg | .neq => neg | _ => false)
    | _ => false
  | .un u y => match op with
    | .unOp u' _ x => u == u' && chkOpd gl x y
    | _ => false
  | .conv c y => match op with
    | .convert s d x => chkOpd gl x y && (match c, P.underlying s, P.underlying d with
      | .int k, some _, some (.int k') => k == k'
      | .same, some .string, some .string => true
      | .toStr, some (.slice e), some .string => (match P.underlying e with | some (.int .u8) => true | _ => false)
      | _, _, _ => false)
    | _ => false
  | .mkif t y => match op with
    | .makeInterface t' x => t == t' && chkOpd gl x y && (match P.underlying t with | some (.interface _) | none => false | _ => true)
    | _ => false
  | .mkfn f ys => match op with
    | .makeFunc (.func g) first caps => f == g && first.toList.length == 0 && chkOpds gl caps.toList ys
    | _ => false
  | .mkslc _ sz bytes z n c => match op with
    | .makeSlice t n' c' => chkOpd gl n' n && chkOpd gl c' c && (match P.underlying t with
      | some (.slice e) => (match P.info? e with | some i => i.size == sz && i.bytes == bytes | none => false) && zeroB P e z && z.length == sz && decide (0 < sz) && z.all (fun u => u.pure && u.one)
      | _ => false)
    | _ => false
  | .slice k y lo hi mx => match op with
    | .slice t x lo' hi' mx' => chkOpd gl x y && chkOpdO gl lo' lo && chkOpdO gl hi' hi && chkOpdO gl mx' mx && (match k, P.underlying t with
      | .str, some .string => true
      | .slc sz, some (.slice e) => szB P e sz
      | .arr len sz, some (.array n e) => len == n && szB P e sz
      | _, _ => false)
    | _ => false
  | .faddr off y => match op with
    | .fieldAddr t x i => chkOpd gl x y && (match P.underlying t with
      | some (.struct fs) => (match fs[i]? with | some f => f.offset == off && (match P.info? f.type with | some i => i.size != 0 | none => false) | none => false)
      | _ => false)
    | _ => false
  | .field agg off n y => match op with
    | .field t x i => chkOpd gl x y && (match P.underlying t with
      | some (.struct fs) => (match fs[i]? with | some f => f.offset == off && isAggB P f.type == agg && hasU P f.type && szB P f.type n | none => false)
      | _ => false)
    | _ => false
  | .iaddr arr sz y j => match op with
    | .indexAddr t x i => chkOpd gl x y && chkOpd gl i j && (match arr, P.underlying t with
      | none, some (.slice e) => szB P e sz
      | some n, some (.array n' e) => n == n' && szB P e sz
      | _, _ => false)
    | _ => false
  | .ixarr agg len sz y j => match op with
    | .index t x i => chkOpd gl x y && chkOpd gl i j && (match P.underlying t with
      | some (.array n e) => n == len && szB P e sz && isAggB P e == agg && hasU P e
      | _ => false)
    | _ => false
  | .ixstr y j => match op with
    | .index t x i => chkOpd gl x y && chkOpd gl i j && (match P.underlying t with | some .string => true | _ => false)
    | _ => false
  | .lookup z ok y j => match op with
    | .lookup t x i ok' => ok == ok' && chkOpd gl x y && chkOpd gl i j && (match P.underlying t with
      | some (.map k e) => (match P.underlying k with | some .string => true | _ => false) && (match P.info? e with | some i => (match i.zero with | some v => constAV v == some z | none => false) | none => false)
      | _ => false)
    | _ => false
  | .tassert t ok z y => match op with
    | .typeAssert x _ t' ok' => t == t' && ok == ok' && chkOpd gl x y && (match P.underlying t with | some (.interface _) | none => false | _ => true) &&
        (!ok || (match P.info? t with | some i => (match i.zero with | some v => constAV v == some z | none => false) | none => false))
    | _ => false
  | .extract y i => match op with
    | .extract x i' => i == i' && chkOpd gl x y
    | _ => false
  | .call f ys => match op with
    | .call { callee := .value g, args, .. } => chkOpd gl g f && chkOpds gl args.toList ys
    | _ => false
  | .invoke m y ys => match op with
    | .call { callee := .invoke r m', args, .. } => m == m' && chkOpd gl r y && chkOpds gl args.toList ys
    | _ => false
  | .len str y => match op with
    | .call { callee := .builtin .len, args, argTypes } => (match args.toList, argTypes.toList with
      | [x], [t] => chkOpd gl x y && (match str, P.underlying t with | true, some .string => true | false, some (.slice _) => true | _, _ => false)
      | _, _ => false)
    | _ => false
  | .append sz bytes y1 y2 => match op with
    | .call { callee := .builtin .append, args, argTypes } => (match args.toList, argTypes.toList with
      | [x1, x2], [t, u] => chkOpd gl x1 y1 && chkOpd gl x2 y2 &&
        (match P.underlying t with
          | some (.slice e) => (match P.info? e with | some i => i.size == sz && i.bytes == bytes && (match i.zero with | some z => z.cells.size == i.size | none => false) && decide (0 < i.bytes) && decide (0 < i.size) | none => false)
          | _ => false) &&
        (match P.underlying u with | some (.slice _) | some .string => true | _ => false)
      | _, _ => false)
    | _ => false
  | .min2 y1 y2 => match op with
    | .call { callee := .builtin .min, args, .. } => chkOpds gl args.toList [y1, y2]
    | _ => false
  | .max2 y1 y2 => match op with
    | .call { callee := .builtin .max, args, .. } => chkOpds gl args.toList [y1, y2]
    | _ => false

def chkGuard (ops : Array Oper) : Option (Nat × Bool) → Option (Nat × Bool) → Bool
  | none, none => true
  | some (j, want), some (t, want') => want == want' && ((ops[j]?).bind (·.dst)) == some t
  | _, _ => false

def chkOper (P : Program) (gl : Globs) (ops : Array Oper) (o : Oper) (ao : AOper) : Bool :=
  o.dst == ao.dst && chkOp P gl o.op ao.op && chkGuard ops o.guard ao.guard

def chkOps (P : Program) (gl : Globs) (ops : Array Oper) : List Oper → List AOper → Bool
  | [], [] => true
  | o :: l, ao :: m => chkOper P gl ops o ao && chkOps P gl ops l m
  | _, _ => false

/-- The temporaries that an operation reads or writes. -/
def opdT : Opd → List Nat
  | .tmp t => [t]
  | .av _ => []

def AOp.opds : AOp → List Opd
  | .mv x | .box _ x | .load _ _ _ x | .nilchk x | .un _ x | .conv _ x | .mkif _ x | .faddr _ x | .field _ _ _ x | .tassert _ _ _ x | .extract x _ | .len _ x => [x]
  | .pick c a b => [c, a, b]
  | .alloc _ => []
  | .build _ ps => ps.map (·.2.2)
  | .bslice _ _ _ _ ps => ps.map (·.2)
  | .store _ a x | .bin _ a x | .eq _ _ a x | .mkslc _ _ _ _ a x | .iaddr _ _ a x | .ixarr _ _ _ a x | .ixstr a x | .lookup _ _ a x | .append _ _ a x | .min2 a x | .max2 a x => [a, x]
  | .mkfn _ l => l
  | .slice _ x lo hi mx => x :: (lo.toList ++ hi.toList ++ mx.toList)
  | .call f l => f :: l
  | .invoke _ x l => x :: l

def AOper.reads (o : AOper) : List Nat := o.op.opds.flatMap opdT ++ (o.guard.map (·.1)).toList
def AOper.names (o : AOper) : List Nat := o.dst.toList ++ o.reads

/-- Does an operation not look at the memory? -/
def AOp.still : AOp → Bool
  | .alloc _ | .box false _ | .bslice false _ _ _ _ | .load _ _ _ _ | .store _ _ _ | .mkslc false _ _ _ _ _ | .call _ _ | .invoke _ _ _ => false
  | _ => true

def direct (o : Oper) : List Nat := (o.after.toList.filter fun e => Region.binds .any e).map (·.on)

/-- Is operation i always ahead of j? -/
def path (ops : Array Oper) (i : Nat) : Nat → Nat → Bool
  | 0, _ => false
  | n + 1, j => match ops[j]? with
    | some o => (direct o).any fun e => e == i || path ops i n e
    | none => false

/-- May these two (the first one, at place i, ahead in the text) be left without order? -/
def mayMix (i : Nat) (x y : AOper) : Bool :=
  (match x.dst with | some d => !y.names.contains d | none => true) && (match y.dst with | some d => !x.names.contains d | none => true) &&
  (match x.op, y.op with
    | .store _ _ _, .store _ _ _ => true
    | .store _ _ _, .load _ _ _ _ => y.apart.contains i
    | .load _ _ _ _, .store _ _ _ => y.apart.contains i
    | .store _ _ _, o => o.still
    | o, .store _ _ _ => o.still
    | _, _ => true)

def drawOk (ops : Array Oper) (aops : List AOper) : Bool :=
  (ops.toList.zipIdx.all fun (o, j) => (direct o).all fun e => e < j) &&
  aops.all (fun o => o.take == [] && (match o.op with | .store _ _ _ => o.guard.isNone | .load _ t _ _ => !t | _ => true)) &&
  (aops.zipIdx.all fun (x, i) => aops.zipIdx.all fun (y, j) => !(i < j) || mayMix i x y || path ops i ops.size j)

def chkCode (P : Program) (gl : Globs) : Code → ACode → Bool
  | c, .cut _ _ ac => chkCode P gl c ac
  | .skip, .skip => true
  | .region _ ops draw, .reg draw' aops => draw == draw' && chkOps P gl ops ops.toList aops && (!draw || drawOk ops aops)
  | .seq a b, .seq a' b' => chkCode P gl a a' && chkCode P gl b b'
  | .cond c a b, .cond c' a' b' => chkOpd gl c c' && chkCode P gl a a' && chkCode P gl b b'
  | .block id c, .block id' c' => id == id' && chkCode P gl c c'
  | .loop c, .loop c' => chkCode P gl c c'
  | .exit id, .exit id' => id == id'
  | .ret, .ret => true
  | _, _ => false

def chkRes (P : Program) : ResultVar → ARes → Bool
  | .tmp t, .tmp t' => t == t'
  | .cell a t, .cell agg n t' => a == t' && isAggB P t == agg && hasU P t && szB P t n
  | _, _ => false

def chkRess (P : Program) : List ResultVar → List ARes → Bool
  | [], [] => true
  | x :: l, y :: m => chkRes P x y && chkRess P l m
  | _, _ => false

def chkFunc (P : Program) (gl : Globs) (f : FuncId) (af : AFunc) : Bool :=
  match P.funcs[f]? with
  | some fn => fn.ntmps == af.ntmps && fn.name != "runtime.NumGoroutine" && chkRess P fn.results.toList af.results && (match fn.body with | some c => chkCode P gl c af.body | none => false)
  | none => false

end Go.VA
