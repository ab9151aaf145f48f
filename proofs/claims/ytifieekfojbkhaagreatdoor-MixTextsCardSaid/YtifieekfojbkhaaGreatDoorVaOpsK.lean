/-
  Every operation that calls no function of the program; what the abstract memory keeps.
-/
import Derived.Test.YtifieekfojbkhaaGreatDoorVaOpsL
set_option linter.unusedSimpArgs false
set_option linter.unusedVariables false
namespace Go.VA
open Go Go.RowKit

def isStore : AOp → Bool
  | .store _ _ _ => true
  | _ => false

section
variable {P : Program} {gl : Globs} {g : G} {tm : List AV} {a : Act} {take : List Nat} {base : Nat} {w0 w : World} {mem : Mem} {d : Nat} {r : AV × Mem} {op : Op}

theorem op_all (hT : WT g tm a.tmps) (hgl : GlobOK gl g) (hM : WM base w0 g w mem) {ao : AOp} (hc : chkOp P gl op ao = true) (he : evOp mem d (rho tm take) ao = some r) :
    OpOut P base w0 g a w mem tm take op (isStore ao) d r := by
  cases ao with
  | mv y => exact op_mv hT hgl hM hc he
  | pick c x y => exact (op_pick hT hgl hc he).out hT hM
  | alloc z => exact op_alloc hT hM hc he
  | box im y => cases im with
    | true => exact op_box_imm hT hgl hM hc he
    | false => exact op_box_mut hT hgl hM hc he
  | build z ps => exact (op_build hT hgl hc he).out hT hM
  | bslice im sz n z ps => exact op_bslice hT hgl hM hc he
  | load agg tk n y => cases tk with
    | true => exact op_load_take hT hgl hM hc he
    | false => exact (op_load hT hgl hM hc he).out hT hM
  | store n y z => exact op_store hT hgl hM hc he
  | nilchk y => exact (op_nilchk hT hgl hc he).out hT hM
  | bin b y z => exact (op_bin hT hgl hc he).out hT hM
  | eq k neg y z => cases k with
    | agg ks => exact (op_eq_agg hT hgl hc he).out hT hM
    | _ => exact (op_eq_nil hT hgl (by simp) hc he).out hT hM
  | un u y => exact (op_un hT hgl hc he).out hT hM
  | conv c y => exact (op_conv hT hgl hM hc he).out hT hM
  | mkif t y => exact (op_mkif hT hgl hc he).out hT hM
  | mkfn f ys => exact (op_mkfn hT hgl hc he).out hT hM
  | mkslc im sz bytes z n c => exact op_mkslc hT hgl hM hc he
  | slice k y lo hi mx => exact (op_slice hT hgl hc he).out hT hM
  | faddr off y => exact (op_faddr hT hgl hc he).out hT hM
  | field agg off n y => exact (op_field hT hgl hc he).out hT hM
  | iaddr arr sz y j => exact (op_iaddr hT hgl hc he).out hT hM
  | ixarr agg len sz y j => exact (op_ixarr hT hgl hc he).out hT hM
  | ixstr y j => exact (op_ixstr hT hgl hc he).out hT hM
  | lookup z ok y j => exact (op_lookup hT hgl hM hc he).out hT hM
  | tassert t ok z y => exact (op_tassert hT hgl hc he).out hT hM
  | extract y i => exact (op_extract hT hgl hc he).out hT hM
  | call f ys => simp [evOp] at he
  | invoke m y ys => simp [evOp] at he
  | len s y => exact (op_len hT hgl hc he).out hT hM
  | append sz bytes y z => exact op_append hT hgl hM hc he
  | min2 y z => exact (op_min2 hT hgl hc he).out hT hM
  | max2 y z => exact (op_max2 hT hgl hc he).out hT hM

end
end Go.VA
