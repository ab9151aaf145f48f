/-
  Appends.
-/
import Derived.Test.YtifieekfojbkhaaGreatDoorVaOpsI
set_option linter.unusedSimpArgs false
set_option linter.unusedVariables false
namespace Go.VA
open Go Go.RowKit

section
variable {P : Program} {gl : Globs} {g : G} {tm : List AV} {a : Act} {take : List Nat} {base : Nat} {w0 w : World} {mem : Mem} {d : Nat} {r : AV × Mem} {op : Op}
variable {imm imm' : Addr → Option Value} {map : Nat → Option (Array MapEntry)} {blk : Id → Option Nat}

/-- A list of elements and a list of cells. -/
structure EL (imm : Addr → Option Value) (map : Nat → Option (Array MapEntry)) (blk : Id → Option Nat) (sz : Nat) (l : List AV) (xs : List Value) : Prop where
  size : xs.length = l.length * sz
  ok : ∀ v, v ∈ l → v.okElem sz = true
  at' : ∀ (i : Nat) v (j : Nat) u x, l[i]? = some v → v.cells[j]? = some u → xs[i * sz + j]? = some x → RV imm map blk u x

theorem EL.nil {sz : Nat} : EL imm map blk sz [] [] := ⟨by simp, by simp, by simp⟩

theorem EL.append {sz : Nat} {l m : List AV} {xs ys : List Value} (h : EL imm map blk sz l xs) (k : EL imm map blk sz m ys) : EL imm map blk sz (l ++ m) (xs ++ ys) := by
  refine ⟨by simp [h.size, k.size, Nat.add_mul], fun v hv => ?_, fun i v j u x hv hu hx => ?_⟩
  · rcases List.mem_append.1 hv with h1 | h1
    · exact h.ok v h1
    · exact k.ok v h1
  · have hj : ∀ (l : List AV), (∀ v, v ∈ l → v.okElem sz = true) → v ∈ l → j < sz := by
      intro l hl hm
      have h1 := (okElem_spec (hl v hm)).1
      have h2 := (List.getElem?_eq_some_iff.1 hu).1
      omega
    rw [List.getElem?_append] at hv
    split at hv
    · rename_i hlt
      have hj := hj l h.ok (List.mem_of_getElem? hv)
      have : (i + 1) * sz ≤ l.length * sz := Nat.mul_le_mul_right sz (by omega)
      rw [Nat.add_mul] at this
      rw [List.getElem?_append_left (by rw [h.size]; omega)] at hx
      exact h.at' i v j u x hv hu hx
    · rename_i hge
      have : l.length * sz ≤ i * sz := Nat.mul_le_mul_right sz (by omega)
      rw [List.getElem?_append_right (by rw [h.size]; omega), h.size] at hx
      refine k.at' (i - l.length) v j u x hv hu ?_
      rw [Nat.sub_mul]
      rw [show i * sz - l.length * sz + j = i * sz + j - l.length * sz by omega]
      exact hx

theorem EL.idx {sz : Nat} {l : List AV} {xs : List Value} (h : EL imm map blk sz l xs) {i j : Nat} {v u : AV} (hv : l[i]? = some v) (hu : v.cells[j]? = some u) : i * sz + j < xs.length := by
  rw [h.size]
  have h1 := (okElem_spec (h.ok v (List.mem_of_getElem? hv))).1
  have h2 := (List.getElem?_eq_some_iff.1 hu).1
  have h3 := (List.getElem?_eq_some_iff.1 hv).1
  have : (i + 1) * sz ≤ l.length * sz := Nat.mul_le_mul_right sz (by omega)
  rw [Nat.add_mul] at this
  omega

theorem EL.one {sz : Nat} (hsz : 0 < sz) {l : List AV} {xs : List Value} (h : EL imm map blk sz l xs) : ∀ u, u ∈ xs → u.oneCell' = true := by
  intro x hx
  obtain ⟨k, hk, rfl⟩ := List.getElem_of_mem hx
  have hk' : k < l.length * sz := h.size ▸ hk
  have h1 : k / sz < l.length := Nat.div_lt_of_lt_mul (by rwa [Nat.mul_comm] at hk')
  have ho := okElem_spec (h.ok l[k / sz] (List.getElem_mem h1))
  have h2 : k % sz < l[k / sz].cells.length := by rw [ho.1]; exact Nat.mod_lt _ hsz
  have h3 : k / sz * sz + k % sz = k := by rw [Nat.mul_comm]; exact Nat.div_add_mod k sz
  refine one_cell (h.at' (k / sz) _ (k % sz) _ _ (List.getElem?_eq_getElem h1) (List.getElem?_eq_getElem h2) (by rw [h3]; exact List.getElem?_eq_getElem hk)) (ho.2 _ (List.getElem_mem h2)).2

theorem EL.of_slc {sz : Nat} {l : List AV} {c : Cap} {b off cap : Nat} (h : RV imm map blk (.slc sz l c) (.slice (some ⟨b, off, none⟩) l.length cap)) :
    ∃ xs, EL imm map blk sz l xs ∧ ∀ (j : Nat) v, xs[j]? = some v → imm ⟨b, off + j, none⟩ = some v := by
  obtain ⟨b', off', cap', F, he, _, _, _, hp, hi, hr⟩ := slc_flat h
  simp only [Value.slice.injEq, Option.some.injEq, Addr.mk.injEq] at he
  obtain ⟨⟨rfl, rfl, _⟩, _, rfl⟩ := he
  refine ⟨(List.range (l.length * sz)).map F, ⟨by simp, hp, fun i v j u x hv hu hx => ?_⟩, fun j v hv => ?_⟩
  · have hlt : i * sz + j < l.length * sz := by have := (List.getElem?_eq_some_iff.1 hx).1; simpa using this
    have : x = F (i * sz + j) := by simpa [hlt] using hx.symm
    subst this
    exact hr i v j u hv hu
  · have hlt : j < l.length * sz := by have := (List.getElem?_eq_some_iff.1 hv).1; simpa using this
    have : v = F j := by simpa [hlt] using hv.symm
    subst this
    exact hi j hlt

theorem EL.mono {sz : Nat} {l : List AV} {xs : List Value} (h : EL imm map blk sz l xs) (hi : ∀ a v, imm a = some v → imm' a = some v) : EL imm' map blk sz l xs :=
  ⟨h.size, h.ok, fun i v j u x hv hu hx => (h.at' i v j u x hv hu hx).mono hi (fun _ _ h => h) (fun _ _ h => h)⟩

theorem EL.slc {sz : Nat} {l : List AV} {xs : List Value} {c : Cap} {b off cap : Nat} (h : EL imm map blk sz l xs) (hc : c ≠ .own) (hle : l.length ≤ cap) (hx : c = .exact → cap = l.length) (hi : ∀ (j : Nat) v, xs[j]? = some v → imm ⟨b, off + j, none⟩ = some v) :
    RV imm map blk (.slc sz l c) (.slice (some ⟨b, off, none⟩) l.length cap) :=
  slc_of_flat (fun k => xs.getD k undef) hc hle hx h.ok (fun k hk => hi k _ (by
    have : k < xs.length := by rw [h.size]; exact hk
    simp [List.getD, this])) (fun i v j u hv hu => h.at' i v j u _ hv hu (by
    have := h.idx hv hu
    simp [List.getD, this]))

/-- What is appended, as the machine sees it. -/
theorem src_of {sz : Nat} {i : TypeInfo} {u : TypeId} {v : AV} {x : Value} {new : List AV} (hM : WM base w0 g w mem) (hsz : i.size = sz) (hpos : 0 < sz) (hk : (∃ e', P.underlying u = some (.slice e')) ∨ P.underlying u = some .string)
    (he : elemsOf sz v = some new) (hr : RV g.imm g.map g.blk v x) : ∃ news, EL g.imm g.map g.blk sz new news ∧ Src P i.size u x new.length news w := by
  subst hsz
  unfold elemsOf at he
  split at he
  · rename_i sz' l c
    split at he
    · rename_i e
      subst e
      cases he
      obtain ⟨b, off, cap, F, rfl, _⟩ := slc_flat hr
      obtain ⟨xs, h1, h2⟩ := EL.of_slc hr
      refine ⟨xs, h1, hk, fun _ => rfl, run_firstCells_some w _ _ _ _ _ _ h1.size (fun j v hv => ?_), run_firstCells_some w.drew _ _ _ _ _ _ h1.size (fun j v hv => ?_), h1.size, h1.one hpos⟩
      · rw [Addr.add_lit]; exact hM.imm _ _ (h2 j v hv)
      · rw [Addr.add_lit]; exact hM.imm _ _ (h2 j v hv)
    · cases he
  · cases he
    cases hr
    exact ⟨[], EL.nil, hk, fun _ => rfl, run_firstCells_none w _ 0 0 0, run_firstCells_none w.drew _ 0 0 0, by simp, by simp⟩
  · rename_i s
    split at he
    · rename_i e
      cases he
      cases hr
      have hl : (ByteArray.mk s.toArray).size = (VA.byteCells s).length := by simp [VA.byteCells, ByteArray.size]
      have hb : (Go.byteCells ⟨s.toArray⟩) = s.map fun b => Value.int .u8 b.toNat := by simp [Go.byteCells]
      have f1 := fun w' => firstCells_string (P := P) ⟨s.toArray⟩ w'
      rw [hl, hb] at f1
      refine ⟨s.map fun b => Value.int .u8 b.toNat, ⟨by simp [VA.byteCells, e], fun v hv => ?_, fun i v j u x hv hu hx => ?_⟩, hk, fun _ => ?_, by rw [e]; exact f1 w, by rw [e]; exact f1 w.drew, by simp [VA.byteCells, e], fun u hu => ?_⟩
      · simp only [VA.byteCells, List.mem_map] at hv
        obtain ⟨b, _, rfl⟩ := hv
        rw [e]
        rfl
      · simp only [VA.byteCells, List.getElem?_map, Option.map_eq_some_iff] at hv
        obtain ⟨b, hb', rfl⟩ := hv
        have hj : j = 0 := by have := (List.getElem?_eq_some_iff.1 hu).1; simp [AV.cells] at this; omega
        subst hj
        simp only [AV.cells, List.length_cons, List.length_nil, Nat.zero_add, Nat.zero_lt_one, List.getElem?_eq_getElem, List.getElem_cons_zero, Option.some.injEq] at hu
        subst hu
        rw [e] at hx
        simp only [Nat.mul_one, Nat.add_zero, List.getElem?_map, hb', Option.map_some, Option.some.injEq] at hx
        subst hx
        exact .int _ _
      · simp only [Builtin.lenOf, Sem.run_pure]
        rw [hl]
      · simp only [List.mem_map] at hu
        obtain ⟨b, _, rfl⟩ := hu
        rfl
    · cases he
  · cases he

theorem op_append (hT : WT g tm a.tmps) (hgl : GlobOK gl g) (hM : WM base w0 g w mem) {sz bytes : Nat} {y1 y2 : Opd} (hc : chkOp P gl op (.append sz bytes y1 y2) = true)
    (he : evOp mem d (rho tm take) (.append sz bytes y1 y2) = some r) : OpOut P base w0 g a w mem tm take op false d r := by
  cases op <;> simp only [chkOp, Bool.false_eq_true] at hc
  rename_i c
  obtain ⟨callee, args, argTypes⟩ := c
  cases callee with
  | value _ => simp at hc
  | invoke _ _ => simp at hc
  | builtin b =>
  cases b <;> first | (simp at hc; done) | skip
  simp only at hc
  split at hc
  case h_2 => cases hc
  rename_i x1 x2 t u ha ht
  obtain rfl : args = #[x1, x2] := Array.toList_inj.1 ha
  obtain rfl : argTypes = #[t, u] := Array.toList_inj.1 ht
  simp only [Bool.and_eq_true] at hc
  obtain ⟨⟨⟨h1, h2⟩, h3⟩, h4⟩ := hc
  cases hu : P.underlying t with
  | none => simp [hu] at h3
  | some dd =>
  cases dd <;> first | (simp [hu] at h3; done) | skip
  rename_i e
  simp only [hu] at h3
  cases hi : P.info? e with
  | none => simp [hi] at h3
  | some i =>
  simp only [hi, Bool.and_eq_true, beq_iff_eq, decide_eq_true_eq] at h3
  obtain ⟨⟨⟨⟨rfl, rfl⟩, h6⟩, h7⟩, h8⟩ := h3
  obtain ⟨zv, hz, hzs⟩ : ∃ zv, i.zero = some zv ∧ zv.cells.size = i.size := by
    split at h6
    · rename_i z hz; exact ⟨z, hz, by simpa using h6⟩
    · cases h6
  have hk : (∃ e', P.underlying u = some (.slice e')) ∨ P.underlying u = some .string := by
    cases hu2 : P.underlying u with
    | none => simp [hu2] at h4
    | some dd => cases dd <;> first | exact .inl ⟨_, rfl⟩ | exact .inr rfl | simp [hu2] at h4
  simp only [evOp, Option.map_eq_some_iff] at he
  obtain ⟨v, hv, rfl⟩ := he
  have hr2 := rv_opd (take := take) hT hgl h2
  unfold VA.append at hv
  split at hv
  · cases hv
  · rename_i new hnew
    obtain ⟨news, hEL, hsrc⟩ := src_of (P := P) hM rfl h8 hk hnew hr2
    have exec : ∀ z1, a.eval x1 = z1 → ∀ res w', (Builtin.append_ #[t, u] 0 #[z1, a.eval x2]).run P w = .ok res w' → ∀ dst ty pos after guard,
        (execOp a.eval ⟨dst, .call ⟨.builtin .append, #[x1, x2], #[t, u]⟩, ty, pos, after, guard⟩).run P w = .ok (.value res) w' := by
      intro z1 hz1 res w' hrun dst ty pos after guard
      have hty : ∀ ty, Builtin.append_ #[t, u] ty #[z1, a.eval x2] = Builtin.append_ #[t, u] 0 #[z1, a.eval x2] := fun _ => rfl
      simp [execOp, resolve, invoke, builtin, hz1, hty ty, hrun]
    -- the way that makes a new row
    have grow : ∀ (l : List AV) (bs : Option Addr) (sLen sCap : Nat) (olds : List Value), a.eval x1 = .slice bs sLen sCap → l.length = sLen → EL g.imm g.map g.blk i.size l olds →
        (Builtin.firstCells i.size sLen (.slice bs sLen sCap)).run P w.drew = .ok olds.toArray w.drew → sCap < sLen + new.length → (sLen + new.length) * i.bytes ≤ room →
        OpOut P base w0 g a w mem tm take (.call ⟨.builtin .append, #[x1, x2], #[t, u]⟩) false d (.slc i.size (l ++ new) .own, mem) := by
      intro l bs sLen sCap olds hz1 hlen hO hfc hg hroom
      have hroom' : room = 4294967296 := rfl
      have hb1 : sLen + new.length ≤ (sLen + new.length) * i.bytes := Nat.le_mul_of_pos_right _ h7
      have hfit := growslice_fits (bytes := i.bytes) hg (by omega)
      have hrun := run_append_grow_src (P := P) w t u 0 e i zv hu hi hz bs sLen sCap olds hfc (a.eval x2) new.length news hsrc hg (by omega) hfit
      generalize hcap : grownCap w (sLen + new.length) sCap e = cap' at hrun
      have hge : sLen + new.length ≤ cap' := by rw [← hcap]; exact grownCap_ge w (sLen + new.length) sCap e
      have hMd : WM base w0 g w.drew mem := hM.heap rfl hM.old.drew
      generalize harr : (olds ++ news).toArray ++ Builtin.zeroCells zv.cells (cap' - (sLen + new.length)) = arr at hrun
      have hON := hO.append hEL
      have hlen2 : (l ++ new).length = sLen + new.length := by simp [hlen]
      obtain ⟨w1, w2, w3⟩ := hMd.newPart (arr := arr) (e := e) ((sLen + new.length) * i.size) (.tmp d)
      refine ⟨_, _, _, exec _ hz1 _ _ hrun, w1, ⟨w2, fun _ _ h => h, fun _ _ => rfl, fun b s h => w3 b _ h⟩, fun s => (hT.strip take s).mono w2 (fun _ _ h => h) (fun _ _ h => h) (fun b s h => w3 b _ h), ?_, rfl⟩
      have hget : ∀ (j : Nat) v, (olds ++ news)[j]? = some v → arr[j]? = some v := by
        intro j v hv
        have hj : j < (olds ++ news).length := (List.getElem?_eq_some_iff.1 hv).1
        rw [← harr, Array.getElem?_append_left (by simpa using hj)]
        simpa using hv
      have hsl := (hON.mono w2).slc (c := .unk) (b := w.heap.size) (off := 0) (cap := cap') (by simp) (by rw [hlen2]; exact hge) (fun h => by cases h) (fun j v hv => by
        have hj : j < (sLen + new.length) * i.size := by have := (List.getElem?_eq_some_iff.1 hv).1; rw [hON.size, hlen2] at this; exact this
        show (if _ = _ then _ else _) = _
        rw [if_pos (by rfl)]
        simp only [Option.isSome_none, Bool.false_eq_true, if_false, Nat.zero_add, if_pos hj]
        exact hget j v hv)
      have hasz : cap' * i.size ≤ arr.size := by
        rw [← harr]
        simp only [Array.size_append, List.size_toArray, size_zeroCells, hzs, hON.size, hlen2, ← Nat.add_mul]
        rw [show sLen + new.length + (cap' - (sLen + new.length)) = cap' by omega]
        exact Nat.le_refl _
      have k2 := RL.own (g := g.addPart w.heap.size arr ((sLen + new.length) * i.size) (.tmp d)) (loc := .tmp d) i.size (l ++ new) w.heap.size 0 cap' arr.size hsl (by
        show (if _ = _ then _ else _) = _
        rw [if_pos (by rfl), hlen2, Nat.zero_add]) (by omega)
      rw [hlen2] at k2
      exact k2
    have hr1 := rl_opd (take := take) hT hgl h1
    split at hv
    · -- nil
      rename_i hx
      split at hv
      · rename_i hroom
        have hz1 : a.eval x1 = .slice none 0 0 := by
          have := rv_at hT hgl h1 hx rfl
          generalize a.eval x1 = z at this
          cases this
          rfl
        split at hv
        · rename_i hnil
          subst hnil
          cases hv
          have hn0 : news = [] := List.eq_nil_of_length_eq_zero (by have := hEL.size; simpa using this)
          subst hn0
          refine ⟨.slice none 0 0, w, g, exec _ hz1 _ _ ?_, hM, .refl _ _, hT.strip take, .val .nils, rfl⟩
          have hl := hsrc.len
          have hcl := hsrc.cells
          simp only [List.length_nil] at hl hcl
          rcases hsrc.kind with ⟨e', hk'⟩ | hk' <;> simp [Builtin.append_, run_underlying hu, run_underlying hk', sizeOf, typeInfo, hi, hl, hcl]
        · rename_i hnil
          cases hv
          have := grow [] none 0 0 [] hz1 rfl EL.nil (run_firstCells_none w.drew _ 0 0 0) (by
            cases new with
            | nil => exact absurd rfl hnil
            | cons _ _ => simp) (by simpa using hroom)
          simpa using this
      · cases hv
    · rename_i sz' l c hx
      split at hv
      · rename_i hcond
        obtain ⟨e', hroom⟩ := hcond
        subst e'
        -- the slice as the machine has it
        obtain ⟨b, off, cap, hz1, hsl, hle⟩ : ∃ b off cap, a.eval x1 = .slice (some ⟨b, off, none⟩) l.length cap ∧ RV g.imm g.map g.blk (.slc i.size l .unk) (.slice (some ⟨b, off, none⟩) l.length cap) ∧ l.length ≤ cap := by
          have := rv_opd (take := take) hT hgl h1
          rw [hx] at this
          generalize a.eval x1 = z at this
          have key : ∀ c', RV g.imm g.map g.blk (.slc i.size l c') z → ∃ b off cap, z = .slice (some ⟨b, off, none⟩) l.length cap ∧ RV g.imm g.map g.blk (.slc i.size l .unk) (.slice (some ⟨b, off, none⟩) l.length cap) ∧ l.length ≤ cap := by
            intro c' h
            cases h with
            | slc _ _ _ b off cap vs hc hle hx' hp hi' h => exact ⟨b, off, cap, rfl, .slc _ _ _ b off cap vs (by simp) hle (fun h => by cases h) hp hi' h, hle⟩
          cases c with
          | own => exact key .unk this
          | unk => exact key .unk this
          | exact => exact key .exact this
        obtain ⟨olds, hO, hO2⟩ := EL.of_slc hsl
        have hfc : (Builtin.firstCells i.size l.length (.slice (some ⟨b, off, none⟩) l.length cap)).run P w.drew = .ok olds.toArray w.drew :=
          run_firstCells_some w.drew _ _ _ _ _ _ hO.size (fun j v hv => by rw [Addr.add_lit]; exact hM.imm _ _ (hO2 j v hv))
        split at hv
        · rename_i hnil
          subst hnil
          cases hv
          have hn0 : news = [] := List.eq_nil_of_length_eq_zero (by have := hEL.size; simpa using this)
          subst hn0
          have hl := hsrc.len
          have hcl := hsrc.cells
          simp only [List.length_nil] at hl hcl
          have hrun : (Builtin.append_ #[t, u] 0 #[.slice (some ⟨b, off, none⟩) l.length cap, a.eval x2]).run P w = .ok (.slice (some ⟨b, off, none⟩) l.length cap) w := by
            rcases hsrc.kind with ⟨e', hk'⟩ | hk' <;> simp [Builtin.append_, run_underlying hu, run_underlying hk', sizeOf, typeInfo, hi, hl, hcl, hle, storeCells]
          rcases hr1 with h | ⟨s, rfl, hm, rfl, heq, h⟩
          · rw [hx, hz1] at h
            exact ⟨_, w, g, exec _ hz1 _ _ hrun, hM, .refl _ _, hT.strip take, .val h, rfl⟩
          · rw [hx, hz1] at h
            exact ⟨_, w, g.move (.tmp s) (.tmp d), exec _ hz1 _ _ hrun, hM.move (by simp), Ext'.moveTmp _ _ _, hT.moved hm _, h.moved, rfl⟩
        · rename_i hnil
          have hpos : 0 < new.length := by
            cases new with
            | nil => exact absurd rfl hnil
            | cons _ _ => simp
          split at hv
          · cases hv
          · rename_i hcu
            cases hv
            by_cases hg : cap < l.length + new.length
            · exact grow l _ _ _ olds hz1 rfl hO hfc hg hroom
            · -- there is room: the right to append must be there
              have hown : ∃ s, y1 = .tmp s ∧ s ∈ take ∧ x1 = .tmp s ∧ RL g (.tmp s) (.slc i.size l .own) (.slice (some ⟨b, off, none⟩) l.length cap) := by
                rcases hr1 with h | ⟨s, rfl, hm, rfl, heq, h⟩
                · rw [hx, hz1] at h
                  cases h with
                  | slc _ _ _ _ _ _ vs hc hle hx' hp hi' h =>
                  cases c with
                  | own => exact absurd rfl hc
                  | unk => exact absurd rfl hcu
                  | exact => have := hx' rfl; omega
                · rw [hx, hz1] at h
                  cases c with
                  | unk => exact absurd rfl hcu
                  | own => exact ⟨s, rfl, hm, rfl, h⟩
                  | exact =>
                    cases h with
                    | val h =>
                      cases h with
                      | slc _ _ _ _ _ _ vs hc hle hx' hp hi' h => have := hx' rfl; omega
              obtain ⟨s, rfl, hm, rfl, hrl⟩ := hown
              cases hrl with
              | val h => cases h with | slc _ _ _ _ _ _ vs hc hle hx' hp hi' h => exact absurd rfl hc
              | own _ _ _ _ _ size hrv ho hs =>
              obtain ⟨o1, ⟨arr, e2, o2, o3⟩, o4, o5⟩ := hM.own _ _ _ _ ho
              have hfit : off + l.length * i.size + news.length ≤ arr.size := by
                rw [hEL.size, o3, Nat.add_assoc, ← Nat.add_mul]
                exact Nat.le_trans (Nat.add_le_add_left (Nat.mul_le_mul_right _ (by omega)) _) hs
              have hcells : ∀ j, j < news.length → (w.cell? ⟨b, off + l.length * i.size + j, none⟩).isSome = true := by
                intro j hj
                simp [World.cell?, o2, show off + l.length * i.size + j < arr.size by omega]
              have hfroz : ∀ j, j < news.length → w.frozen? ⟨b, off + l.length * i.size + j, none⟩ = false := by
                intro j hj
                simp [World.frozen?, o2]
              have hone := hEL.one h8
              have hrun := run_append_room_src (P := P) w t u 0 e i hu hi b off l.length cap (a.eval x2) new.length news hsrc (by omega) hcells hfroz
              have hs1 := run_storeCells_cells (P := P) b (off + l.length * i.size) news 0 w (by simpa using hcells) (by simpa using hfroz) hone
              have hs2 := run_storeCells_at (P := P) b (off + l.length * i.size) e2 news 0 arr w o2 (by omega) hone
              have hsame : w.setCells b (off + l.length * i.size) news = w.setRow b (splice arr.toList (off + l.length * i.size) news).toArray := by
                have := hs1.symm.trans hs2
                simp only [Nat.add_zero, Result.ok.injEq, true_and] at this
                exact this
              rw [hsame] at hrun
              obtain ⟨w1, w2⟩ := hM.grow (l := .tmp s) (to := .tmp d) (by simp) ho (by rw [o3] at hfit; exact hfit) o2
              have hne : ∀ b' l' s', l' ≠ Loc.tmp s → g.own b' = some (l', s') → (g.grow (.tmp d) b (off + l.length * i.size) news size).own b' = some (l', s') := by
                intro b' l' s' hl' h
                show (if _ then _ else _) = _
                rw [if_neg]
                · exact h
                · intro eb
                  subst eb
                  rw [ho] at h
                  simp only [Option.some.injEq, Prod.mk.injEq] at h
                  exact hl' h.1.symm
              refine ⟨_, _, _, exec _ hz1 _ _ hrun, w1, ⟨w2, fun _ _ h => h, fun _ _ => rfl, fun b' s' h => hne b' _ s' (by simp) h⟩, fun q => ?_, ?_, rfl⟩
              · by_cases hq : q = s
                · subst hq
                  rw [stripAll_get, if_pos hm]
                  exact .val ((hT.get q).strip.mono w2 (fun _ _ h => h) (fun _ _ h => h))
                · exact (hT.strip take q).mono w2 (fun _ _ h => h) (fun _ _ h => h) (fun b' s' h => hne b' _ s' (by simpa using hq) h)
              · have hON := hO.append hEL
                have hlen2 : (l ++ new).length = l.length + new.length := by simp
                have hsl2 := (hON.mono w2).slc (c := .unk) (b := b) (off := off) (cap := cap) (by simp) (by omega) (fun h => by cases h) (fun j v hv => by
                  have hj : j < (olds ++ news).length := (List.getElem?_eq_some_iff.1 hv).1
                  by_cases hjo : j < olds.length
                  · rw [List.getElem?_append_left hjo] at hv
                    exact w2 _ _ (hO2 j v hv)
                  · rw [List.getElem?_append_right (by omega)] at hv
                    have hol := hO.size
                    simp at hj
                    show (if _ then _ else _) = _
                    rw [if_pos ⟨rfl, rfl, by simp; omega, by simp; omega⟩]
                    rw [← hv]
                    congr 1
                    simp
                    omega)
                have k2 := RL.own (g := g.grow (.tmp d) b (off + l.length * i.size) news size) (loc := .tmp d) i.size (l ++ new) b off cap size hsl2 (by
                  show (if _ then _ else _) = _
                  rw [if_pos rfl, hEL.size, hlen2, Nat.add_mul, Nat.add_assoc]) hs
                rw [hlen2] at k2
                exact k2
      · cases hv
    · cases hv

end
end Go.VA
