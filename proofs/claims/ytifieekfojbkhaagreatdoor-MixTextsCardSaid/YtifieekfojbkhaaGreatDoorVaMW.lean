/-
  References go to elder frames: kept by every operation.
-/
import Derived.Test.YtifieekfojbkhaaGreatDoorVaCall
set_option linter.unusedSimpArgs false
set_option linter.unusedVariables false
namespace Go.VA
open Go Go.RowKit

section
variable {P : Program} {gl : Globs} {mem mem' : Mem} {d : Nat} {op : Op}

theorem MW.new (h : MW mem) {s : List Nat} {c : List AV} (hn : mem.new s c = some mem') (hc : ∀ v, v ∈ c → v.under mem.length = true) : MW mem' := by
  intro i c' hg v hv
  rw [new_get hn] at hg
  split at hg
  · rename_i e
    cases hg
    subst e
    have hpos : 0 < mem.length := by obtain ⟨f, r, rfl, hf, rfl⟩ := new_spec hn; simp
    exact under_mono (by simp only [Mem.top]; omega) (hc v hv)
  · exact h i c' hg v hv

theorem MW.set (h : MW mem) {i : Id} {c' : List AV} (hc : ∀ v, v ∈ c' → v.under (i.fr + 1) = true) : MW (mem.set i c') := by
  intro j c2 hg v hv
  rw [mset_get] at hg
  split at hg
  · rename_i e
    subst e
    rw [Option.map_eq_some_iff] at hg
    obtain ⟨_, _, rfl⟩ := hg
    exact hc v hv
  · exact h j c2 hg v hv

theorem constS_under {x : Value} {v : AV} (h : constS x = some v) (n : Nat) : v.under n = true := by
  unfold constS at h
  split at h <;> first
    | (cases h; done)
    | (simp only [Option.some.injEq] at h; subst h; rfl)

theorem constAVs_under : ∀ {xs : List Value} {l : List AV}, constAVs xs = some l → ∀ n v, v ∈ l → v.under n = true
  | [], l, h => by simp only [constAVs, Option.some.injEq] at h; subst h; simp
  | x :: r, l, h => by
    simp only [constAVs] at h
    split at h
    · rename_i a m h1 h2
      simp only [Option.some.injEq] at h
      subst h
      intro n v hv
      rcases List.mem_cons.1 hv with e | e
      · subst e; exact constS_under h1 n
      · exact constAVs_under h2 n v e
    · cases h

theorem zeroB_under {t : TypeId} {z : List AV} (h : zeroB P t z = true) (n : Nat) : ∀ v, v ∈ z → v.under n = true := by
  unfold zeroB at h
  split at h
  · split at h
    · exact constAVs_under (by simpa using h) n
    · cases h
  · cases h

theorem mw_op {ρ : Opd → AV} {ao : AOp} {r : AV × Mem} (hW : MW mem) (hc : chkOp P gl op ao = true) (he : evOp mem d ρ ao = some r) : MW r.2 := by
  have same : ∀ {β : Type} {o : Option β} {f : β → AV}, o.map (fun x => (f x, mem)) = some r → MW r.2 := by
    intro β o f h
    rw [Option.map_eq_some_iff] at h
    obtain ⟨_, _, rfl⟩ := h
    exact hW
  have same' : ∀ {o : Option AV}, o.map (fun x => (x, mem)) = some r → MW r.2 := fun h => same h
  cases ao with
  | mv y => cases he; exact hW
  | pick c x y =>
    simp only [evOp] at he
    split at he
    · cases he; exact hW
    · cases he
  | alloc z =>
    simp only [evOp, Option.map_eq_some_iff] at he
    obtain ⟨m, hm, rfl⟩ := he
    cases op <;> simp only [chkOp, Bool.false_eq_true] at hc
    exact hW.new hm (zeroB_under hc _)
  | box im y =>
    cases im with
    | true =>
      simp only [evOp] at he
      split at he
      · cases he; exact hW
      · cases he
    | false =>
      simp only [evOp] at he
      split at he
      · rename_i hcond
        rw [Option.map_eq_some_iff] at he
        obtain ⟨m, hm, rfl⟩ := he
        exact hW.new hm (cells_under (strip_under hcond.1))
      · cases he
  | build z ps =>
    simp only [evOp] at he
    split at he
    · exact same he
    · cases he
  | bslice im sz n z ps =>
    cases im with
    | true => exact same he
    | false =>
      simp only [evOp] at he
      split at he
      · rw [Option.bind_eq_some_iff] at he
        obtain ⟨c, _, he⟩ := he
        split at he
        · rename_i hu
          rw [Option.map_eq_some_iff] at he
          obtain ⟨m, hm, rfl⟩ := he
          exact hW.new hm (unders_iff.1 hu)
        · cases he
      · cases he
  | load agg tk n y =>
    simp only [evOp] at he
    split at he
    · split at he
      · split at he
        · cases he; exact hW
        · cases he
      · exact same' he
    · rw [Option.bind_eq_some_iff] at he
      obtain ⟨c, hg, he⟩ := he
      split at he
      · split at he
        · cases he; exact hW
        · cases he
      · split at he
        · rw [Option.map_eq_some_iff] at he
          obtain ⟨v, hv, rfl⟩ := he
          refine hW.set fun u hu => ?_
          rcases List.mem_or_eq_of_mem_set hu with h1 | h1
          · exact hW _ _ hg u h1
          · subst h1; exact strip_under (hW _ _ hg v (List.mem_of_getElem? hv))
        · exact same he
    · cases he
  | store n y z =>
    simp only [evOp] at he
    split at he
    · rename_i i off hl
      rw [Option.bind_eq_some_iff] at he
      obtain ⟨c, hg, he⟩ := he
      split at he
      · rename_i hcond
        cases he
        refine hW.set fun u hu => ?_
        unfold VA.over at hu
        rcases List.mem_append.1 hu with h1 | h1
        · rcases List.mem_append.1 h1 with h2 | h2
          · exact hW _ _ hg u (List.mem_of_mem_take h2)
          · exact cells_under hcond.2.2.1 u h2
        · exact hW _ _ hg u (List.mem_of_mem_drop h1)
      · cases he
    · cases he
  | nilchk y =>
    simp only [evOp] at he
    split at he <;> first | (cases he; exact hW) | cases he
  | bin b y z => exact same' he
  | eq k neg y z => exact same he
  | un u y => exact same' he
  | conv c y => exact same' he
  | mkif t y => cases he; exact hW
  | mkfn f ys => cases he; exact hW
  | mkslc im sz bytes z n c =>
    simp only [evOp] at he
    split at he
    · split at he
      · split at he
        · cases he; exact hW
        · split at he
          · rw [Option.map_eq_some_iff] at he
            obtain ⟨m, hm, rfl⟩ := he
            cases op <;> simp only [chkOp, Bool.false_eq_true] at hc
            simp only [Bool.and_eq_true] at hc
            refine hW.new hm fun v hv => ?_
            rw [List.mem_flatten] at hv
            obtain ⟨l, hl, hv⟩ := hv
            rw [List.eq_of_mem_replicate hl] at hv
            have h3 := hc.2
            split at h3
            · simp only [Bool.and_eq_true] at h3
              exact zeroB_under h3.1.1.1.2 _ v hv
            · cases h3
          · cases he
      · cases he
    · cases he
  | slice k y lo hi mx => exact same' he
  | faddr off y =>
    simp only [evOp] at he
    split at he <;> first | (cases he; exact hW) | cases he
  | field agg off n y =>
    simp only [evOp] at he
    split at he
    · exact same' he
    · cases he
  | iaddr arr sz y j => exact same' he
  | ixarr agg len sz y j =>
    simp only [evOp] at he
    split at he
    · split at he
      · exact same' he
      · cases he
    · cases he
  | ixstr y j =>
    simp only [evOp] at he
    split at he
    · split at he
      · exact same he
      · cases he
    · cases he
  | lookup z ok y j =>
    simp only [evOp] at he
    split at he
    · cases he; exact hW
    · cases he
  | tassert t ok z y =>
    simp only [evOp] at he
    split at he
    · split at he
      · cases he; exact hW
      · split at he
        · cases he; exact hW
        · cases he
    · split at he
      · cases he; exact hW
      · cases he
    · cases he
  | extract y i =>
    simp only [evOp] at he
    split at he
    · exact same' he
    · cases he
  | call f ys => simp [evOp] at he
  | invoke m y ys => simp [evOp] at he
  | len s y =>
    simp only [evOp] at he
    split at he <;> first | (cases he; exact hW) | cases he
  | append sz bytes y z => exact same' he
  | min2 y z =>
    simp only [evOp] at he
    split at he <;> first | (cases he; exact hW) | cases he
  | max2 y z =>
    simp only [evOp] at he
    split at he <;> first | (cases he; exact hW) | cases he

end
end Go.VA
