/-
  What a call hands back of its own blocks: frozen.
-/
import Derived.Test.YtifieekfojbkhaaGreatDoorVaCode
set_option linter.unusedSimpArgs false
set_option linter.unusedVariables false
namespace Go.VA
open Go Go.RowKit

theorem mapO_get {f : AV → Option AV} : ∀ {l l' : List AV}, mapO f l = some l' → l'.length = l.length ∧ ∀ (i : Nat) u', l'[i]? = some u' → ∃ u, l[i]? = some u ∧ f u = some u'
  | [], l', h => by cases h; exact ⟨rfl, by simp⟩
  | v :: r, l', h => by
    simp only [mapO, Option.bind_eq_some_iff, Option.map_eq_some_iff] at h
    obtain ⟨u, hu, r', hr, rfl⟩ := h
    obtain ⟨h1, h2⟩ := mapO_get hr
    refine ⟨by simp [h1], fun i u' hi => ?_⟩
    cases i with
    | zero => cases hi; exact ⟨v, rfl, hu⟩
    | succ i => exact h2 i u' hi

theorem chunks_length (sz : Nat) : ∀ (n : Nat) (l : List AV), (chunks sz n l).length = n
  | 0, _ => rfl
  | n + 1, l => by simp [chunks, chunks_length sz n]

theorem one_cells {v : AV} (h : v.one = true) : v.cells = [v] := by
  cases v <;> first | rfl | (simp [AV.one] at h; done)

theorem chunks_get {sz : Nat} : ∀ (n : Nat) (l : List AV), l.all AV.one = true → n * sz ≤ l.length → ∀ (i : Nat) v (j : Nat) u, (chunks sz n l)[i]? = some v → v.cells[j]? = some u → v.cells.length = sz → l[i * sz + j]? = some u
  | 0, l, _, _, i, v, j, u, hv, _, _ => by simp [chunks] at hv
  | n + 1, l, ho, hl, i, v, j, u, hv, hu, hz => by
    rw [Nat.add_mul, Nat.one_mul] at hl
    cases i with
    | zero =>
      simp only [chunks, List.getElem?_cons_zero, Option.some.injEq] at hv
      rw [Nat.zero_mul, Nat.zero_add]
      have hj : j < sz := by rw [← hz]; exact (List.getElem?_eq_some_iff.1 hu).1
      by_cases h1 : sz = 1
      · subst h1
        rw [if_pos rfl] at hv
        subst hv
        cases l with
        | nil => simp at hl
        | cons a l =>
          simp only [List.all_cons, Bool.and_eq_true] at ho
          simp only [List.headD_cons] at hu
          rw [one_cells ho.1] at hu
          have : j = 0 := by omega
          subst this
          exact hu
      · rw [if_neg h1] at hv
        subst hv
        simp only [AV.cells, List.getElem?_take] at hu
        rw [if_pos hj] at hu
        exact hu
    | succ i =>
      simp only [chunks, List.getElem?_cons_succ] at hv
      have := chunks_get n (l.drop sz) (by
        rw [List.all_eq_true] at ho ⊢
        intro x hx
        exact ho x (List.mem_of_mem_drop hx)) (by simp; omega) i v j u hv hu hz
      rw [List.getElem?_drop] at this
      rw [← this]
      congr 1
      rw [Nat.add_mul]
      omega

section
variable {base : Nat} {w0 w : World} {g : G} {mem : Mem}

open Classical in
/-- What is known to stay as it is, when the frames from 'n' on are taken away. -/
noncomputable def frozenImm (g : G) (w : World) (n : Nat) : Addr → Option Value := fun a => if ∃ i, n ≤ i.fr ∧ g.blk i = some a.block then w.cell? a else g.imm a

theorem frozen_mono (hM : WM base w0 g w mem) (n : Nat) : ∀ a v, g.imm a = some v → frozenImm g w n a = some v := by
  intro a v h
  unfold frozenImm
  rw [if_neg]
  · exact h
  · rintro ⟨i, _, hb⟩
    have := hM.apart i a.block a.off a.spot hb
    rw [show (⟨a.block, a.off, a.spot⟩ : Addr) = a from rfl, h] at this
    cases this

theorem frozen_cell (hM : WM base w0 g w mem) (n : Nat) : ∀ a v, frozenImm g w n a = some v → w.cell? a = some v := by
  intro a v h
  unfold frozenImm at h
  split at h
  · exact h
  · exact hM.imm a v h

theorem freeze_ok (hM : WM base w0 g w mem) (fr : Nat) : ∀ (n : Nat) {v u : AV} {x : Value}, freeze mem fr n v = some u → RV g.imm g.map g.blk v x → RV (frozenImm g w fr) g.map (g.pop fr).blk u x
  | 0, _, _, _, h, _ => by cases h
  | n + 1, v, u, x, h, hx => by
    have keep : ∀ {i b}, i.fr < fr → g.blk i = some b → (g.pop fr).blk i = some b := by
      intro i b hi hb
      show (if _ then _ else _) = _
      rw [if_pos hi]
      exact hb
    have many : ∀ {l l' : List AV} {xs : Array Value}, mapO (freeze mem fr n) l = some l' → l.length = xs.size → (∀ (i : Nat) u x, l[i]? = some u → xs[i]? = some x → RV g.imm g.map g.blk u x) →
        l'.length = xs.size ∧ ∀ (i : Nat) u x, l'[i]? = some u → xs[i]? = some x → RV (frozenImm g w fr) g.map (g.pop fr).blk u x := by
      intro l l' xs hm hl hr
      obtain ⟨h1, h2⟩ := mapO_get hm
      refine ⟨h1.trans hl, fun i u' y hu hy => ?_⟩
      obtain ⟨u0, k1, k2⟩ := h2 i u' hu
      exact freeze_ok hM fr n k2 (hr i u0 y k1 hy)
    have pureCase : freeze mem fr (n + 1) v = some v → v.pure = true → RV (frozenImm g w fr) g.map (g.pop fr).blk u x := by
      intro e hp
      rw [e] at h
      cases h
      exact ((hx.pure hp).mono (frozen_mono hM fr) (fun _ _ h => h) (fun _ _ h => h) : RV (frozenImm g w fr) g.map (g.pop fr).blk v x)
    cases hx with
    | undef x => exact pureCase rfl rfl
    | bool b => exact pureCase rfl rfl
    | int k m => exact pureCase rfl rfl
    | str l => exact pureCase rfl rfl
    | nilp => exact pureCase rfl rfl
    | nils => exact pureCase rfl rfl
    | nili => exact pureCase rfl rfl
    | nilf => exact pureCase rfl rfl
    | rptr l b off vs hp hi hh => exact pureCase rfl rfl
    | slc sz l c b off cap vs hc hle hx hp hi hh => exact pureCase rfl (by cases c <;> first | rfl | exact absurd rfl hc)
    | map kv r es hm ks vs hl hk he hp hh => exact pureCase rfl rfl
    | agg l xs hl hh =>
      simp only [freeze, Option.map_eq_some_iff] at h
      obtain ⟨l', h1, rfl⟩ := h
      obtain ⟨k1, k2⟩ := many h1 hl hh
      exact .agg _ _ k1 k2
    | tup l xs hl hh =>
      simp only [freeze, Option.map_eq_some_iff] at h
      obtain ⟨l', h1, rfl⟩ := h
      obtain ⟨k1, k2⟩ := many h1 hl hh
      exact .tup _ _ k1 k2
    | fn f l xs hl hh =>
      simp only [freeze, Option.map_eq_some_iff] at h
      obtain ⟨l', h1, rfl⟩ := h
      obtain ⟨k1, k2⟩ := many h1 hl hh
      exact .fn _ _ _ k1 k2
    | iface t v y hh =>
      simp only [freeze, Option.map_eq_some_iff] at h
      obtain ⟨v', h1, rfl⟩ := h
      exact .iface _ _ _ (freeze_ok hM fr n h1 hh)
    | ptr i off b hb =>
      simp only [freeze] at h
      split at h
      · rename_i hi
        cases h
        exact .ptr _ _ _ (keep hi hb)
      · rename_i hi
        simp only [Option.bind_eq_some_iff] at h
        obtain ⟨c, hc, l, hl, h⟩ := h
        split at h
        · rename_i hp
          cases h
          obtain ⟨_, _, c', arr, e, h3, h4, h5, h6⟩ := hM.blk i b hb
          rw [hc] at h3
          cases h3
          obtain ⟨k1, k2⟩ := mapO_get hl
          refine .rptr l b off (fun j => arr.getD (off + j) undef) (pures_iff.1 hp) (fun j hj => ?_) (fun j u hu => ?_)
          · unfold frozenImm
            rw [if_pos ⟨i, by omega, hb⟩]
            rw [k1, List.length_drop] at hj
            have hlt : off + j < arr.size := by omega
            simp [World.cell?, h4, Array.getD_eq_getD_getElem?, hlt]
          · obtain ⟨u0, j1, j2⟩ := k2 j u hu
            rw [List.getElem?_drop] at j1
            have hlt : off + j < arr.size := by rw [h5]; exact (List.getElem?_eq_some_iff.1 j1).1
            have hst := (h6 (off + j) u0 arr[off + j] j1 (by simp [hlt])).strip
            have hne : u0.strip = u0 := by
              cases u0 with
              | slc sz l c =>
                cases c with
                | own =>
                  have hp' := pures_iff.1 hp u (List.mem_of_getElem? hu)
                  cases n with
                  | zero => cases j2
                  | succ n =>
                    simp only [freeze, Option.some.injEq] at j2
                    subst j2
                    simp [AV.pure] at hp'
                | _ => rfl
              | _ => rfl
            rw [hne] at hst
            have := freeze_ok hM fr n j2 hst
            simpa [Array.getD_eq_getD_getElem?, hlt] using this
        · cases h
    | mslc i sz off len b cap o hb hcap ho =>
      simp only [freeze] at h
      split at h
      · rename_i hi
        cases h
        exact .mslc _ _ _ _ _ _ _ (keep hi hb) hcap ho
      · rename_i hi
        simp only [Option.bind_eq_some_iff] at h
        obtain ⟨c, hc, l, hl, h⟩ := h
        split at h
        · rename_i hp
          cases h
          obtain ⟨hp1, hp2, hp3⟩ := hp
          obtain ⟨_, _, c', arr, e, h3, h4, h5, h6⟩ := hM.blk i b hb
          rw [hc] at h3
          cases h3
          obtain ⟨k1, k2⟩ := mapO_get hl
          have hlen := chunks_length sz len l
          rw [List.all_eq_true] at hp1
          have oke : ∀ v, v ∈ chunks sz len l → AV.okElem sz v = true := hp1
          have hsp : len * sz ≤ (c.drop off).length := by
            rw [hp3, List.length_take] at k1
            omega
          have key := RV.slc (imm := frozenImm g w fr) (map := g.map) (blk := (g.pop fr).blk) sz (chunks sz len l) .unk b o cap (fun i j => arr.getD (off + (i * sz + j)) undef) (by simp) (by rw [hlen]; exact hcap) (by simp) oke
            (fun i' j hi' hj => by
              rw [hlen] at hi'
              have ho' := ho (by omega)
              subst ho'
              unfold frozenImm
              rw [if_pos ⟨i, by omega, hb⟩]
              have hm : (i' + 1) * sz ≤ len * sz := Nat.mul_le_mul_right sz (by omega)
              rw [Nat.add_mul] at hm
              rw [List.length_drop] at hsp
              have hlt : o + (i' * sz + j) < arr.size := by omega
              simp [World.cell?, h4, Array.getD_eq_getD_getElem?, hlt])
            (fun i' v j u hv hu => by
              have hz := (okElem_spec (oke v (List.mem_of_getElem? hv))).1
              have hat := chunks_get len l hp2 (by omega) i' v j u hv hu hz
              obtain ⟨u0, j1, j2⟩ := k2 _ u hat
              rw [List.getElem?_take] at j1
              split at j1
              · rw [List.getElem?_drop] at j1
                have hlt : off + (i' * sz + j) < arr.size := by rw [h5]; exact (List.getElem?_eq_some_iff.1 j1).1
                have hst := (h6 (off + (i' * sz + j)) u0 arr[off + (i' * sz + j)] j1 (by simp [hlt])).strip
                have hp' := ((okElem_spec (oke v (List.mem_of_getElem? hv))).2 u (List.mem_of_getElem? hu)).1
                have hne : u0.strip = u0 := by
                  cases u0 with
                  | slc sz l c =>
                    cases c with
                    | own =>
                      cases n with
                      | zero => cases j2
                      | succ n =>
                        simp only [freeze, Option.some.injEq] at j2
                        subst j2
                        simp [AV.pure] at hp'
                    | _ => rfl
                  | _ => rfl
                rw [hne] at hst
                have := freeze_ok hM fr n j2 hst
                simpa [Array.getD_eq_getD_getElem?, hlt] using this
              · cases j1)
          rw [hlen] at key
          exact key
        · cases h

/-- The frame is taken away, its blocks are frozen. -/
theorem WM.popFrozen {f : Fr} (hM : WM base w0 g w (f :: mem)) (hW : MW mem) : WM base w0 { g.pop mem.length with imm := frozenImm g w mem.length } w mem := by
  have hP := WM.pop hM hW
  refine ⟨frozen_cell hM _, hP.map, hP.get, fun i b h => ?_, hP.inj, fun i b o s h => ?_, fun b l f' s h => ?_, hP.old, hP.size⟩
  · obtain ⟨h1, h2, c, arr, e, h3, h4, h5, h6⟩ := hP.blk i b h
    exact ⟨h1, h2, c, arr, e, h3, h4, h5, fun j v x hv hx => (h6 j v x hv hx).mono (frozen_mono hM _) (fun _ _ h => h) (fun _ _ h => h) (fun _ _ h => h)⟩
  · have hi : i.fr < mem.length ∧ g.blk i = some b := by
      change (if _ then _ else _) = _ at h
      split at h
      · rename_i hlt; exact ⟨hlt, h⟩
      · cases h
    show frozenImm g w mem.length ⟨b, o, s⟩ = none
    unfold frozenImm
    rw [if_neg]
    · exact hM.apart i b o s hi.2
    · rintro ⟨j, hj, hjb⟩
      have := hM.inj i j b hi.2 hjb
      subst this
      omega
  · obtain ⟨h1, h2, h3, h4⟩ := hM.own b l f' s h
    refine ⟨h1, h2, fun o s' ho => ?_, fun i h => ?_⟩
    · show frozenImm g w mem.length ⟨b, o, s'⟩ = none
      unfold frozenImm
      rw [if_neg]
      · exact h3 o s' ho
      · rintro ⟨j, _, hjb⟩
        exact h4 j hjb
    · change (if _ then _ else _) = _ at h
      split at h
      · exact h4 i h
      · cases h

end
end Go.VA
