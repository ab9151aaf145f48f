/-
  '==' on structs of plain comparable cells.
-/
import Derived.Test.YtifieekfojbkhaaGreatDoorVaOpsE
set_option linter.unusedSimpArgs false
set_option linter.unusedVariables false
namespace Go.VA
open Go Go.RowKit

def vflat : List LK → List Value → List Value → Option Bool
  | [], _, _ => some true
  | .i :: ks, .int k a :: l, .int k' b :: m => if k = k' then (vflat ks l m).map ((a == b) && ·) else none
  | .s :: ks, .string a :: l, .string b :: m => (vflat ks l m).map ((a.toList == b.toList) && ·)
  | .b :: ks, .bool a :: l, .bool b :: m => (vflat ks l m).map ((a == b) && ·)
  | _, _, _ => none

theorem vflat_take : ∀ (ks : List LK) (n : Nat) (l m : List Value), ks.length ≤ n → vflat ks (l.take n) (m.take n) = vflat ks l m
  | [], _, _, _, _ => by simp [vflat]
  | k :: ks, 0, _, _, h => by simp at h
  | k :: ks, n + 1, l, m, h => by
    have ih := vflat_take ks n
    cases l with
    | nil => cases k <;> simp [vflat]
    | cons x l =>
      cases m with
      | nil => cases k <;> simp [vflat]
      | cons y m =>
        simp only [List.take_succ_cons]
        have ih := ih l m (by simpa using h)
        cases k <;> cases x <;> first | (simp [vflat]; done) | skip
        all_goals cases y <;> first | (simp [vflat]; done) | (simp only [vflat, ih])

theorem vflat_append : ∀ (k1 k2 : List LK) (l m : List Value) (b : Bool), vflat (k1 ++ k2) l m = some b → ∃ b1 b2, vflat k1 l m = some b1 ∧ vflat k2 (l.drop k1.length) (m.drop k1.length) = some b2 ∧ b = (b1 && b2)
  | [], k2, l, m, b, h => ⟨true, b, by simp [vflat], by simpa using h, by simp⟩
  | k :: ks, k2, l, m, b, h => by
    cases l with
    | nil => cases k <;> simp [vflat] at h
    | cons x l =>
      cases m with
      | nil => cases k <;> simp [vflat] at h
      | cons y m =>
        have ih := vflat_append ks k2 l m
        cases k <;> cases x <;> first | (simp [vflat] at h; done) | skip
        all_goals cases y <;> first | (simp [vflat] at h; done) | skip
        all_goals
          simp only [List.cons_append, vflat] at h ⊢
          first
            | (split at h
               · rename_i hk
                 simp only [Option.map_eq_some_iff] at h
                 obtain ⟨b', hb', rfl⟩ := h
                 obtain ⟨b1, b2, e1, e2, rfl⟩ := ih b' hb'
                 exact ⟨_, b2, by rw [if_pos hk, e1]; rfl, by simpa using e2, by simp [Bool.and_assoc]⟩
               · cases h)
            | (simp only [Option.map_eq_some_iff] at h
               obtain ⟨b', hb', rfl⟩ := h
               obtain ⟨b1, b2, e1, e2, rfl⟩ := ih b' hb'
               exact ⟨_, b2, by rw [e1]; rfl, by simpa using e2, by simp [Bool.and_assoc]⟩)

section
variable {P : Program} {imm : Addr → Option Value} {map : Nat → Option (Array MapEntry)} {blk : Id → Option Nat}

theorem flat_v : ∀ (ks : List LK) (l m : List AV) (xs ys : List Value) (b : Bool), flatEq ks l m = some b → RVs imm map blk l xs → RVs imm map blk m ys → vflat ks xs ys = some b
  | [], _, _, _, _, b, h, _, _ => by simpa [flatEq, vflat] using h
  | k :: ks, l, m, xs, ys, b, h, h1, h2 => by
    cases l with
    | nil => cases k <;> simp [flatEq] at h
    | cons u l =>
      cases m with
      | nil => cases k <;> simp [flatEq] at h
      | cons v m =>
        cases xs with
        | nil => have := h1.1; simp at this
        | cons x xs =>
          cases ys with
          | nil => have := h2.1; simp at this
          | cons y ys =>
            have r1 := h1.2 0 u x rfl rfl
            have r2 := h2.2 0 v y rfl rfl
            have h1' : RVs imm map blk l xs := ⟨by simpa using h1.1, fun i u x hu hx => h1.2 (i + 1) u x (by simpa using hu) (by simpa using hx)⟩
            have h2' : RVs imm map blk m ys := ⟨by simpa using h2.1, fun i u x hu hx => h2.2 (i + 1) u x (by simpa using hu) (by simpa using hx)⟩
            have ih := fun b h => flat_v ks l m xs ys b h h1' h2'
            cases k <;> cases u <;> first | (simp [flatEq] at h; done) | skip
            all_goals cases v <;> first | (simp [flatEq] at h; done) | skip
            all_goals
              cases r1; cases r2
              simp only [flatEq] at h
              simp only [vflat, bytes_toList]
              first
                | (split at h
                   · rename_i hk
                     simp only [Option.map_eq_some_iff] at h
                     obtain ⟨b', hb', rfl⟩ := h
                     rw [if_pos hk, ih b' hb']
                     rfl
                   · cases h)
                | (simp only [Option.map_eq_some_iff] at h
                   obtain ⟨b', hb', rfl⟩ := h
                   rw [ih b' hb']
                   rfl)

/-- The statement for a type at a place of a row. -/
def EqAt (P : Program) (d : Nat) (t : TypeId) (ks : List LK) : Prop := ∀ (w : World) (xs ys : Array Value) (off : Nat) (b : Bool), vflat ks (xs.toList.drop off) (ys.toList.drop off) = some b →
  ∃ x y, (Go.part t xs off).run P w = .ok x w ∧ (Go.part t ys off).run P w = .ok y w ∧ (Op.equalIn d t x y).run P w = .ok b w

theorem eqFields_flat {d : Nat} {rec : TypeId → Option (List LK)} (hrec : ∀ t ks, rec t = some ks → szB P t ks.length = true → EqAt P d t ks) : ∀ (fs : List Field) (o : Nat) (ks : List LK), leafsF P rec fs o = some ks →
    ∀ (w : World) (xs ys : Array Value) (b : Bool), vflat ks (xs.toList.drop o) (ys.toList.drop o) = some b → (Op.eqFields d xs ys fs).run P w = .ok b w
  | [], o, ks, h, w, xs, ys, b, hb => by
    simp only [leafsF, Option.some.injEq] at h
    subst h
    simp only [vflat, Option.some.injEq] at hb
    subst hb
    simp [Op.eqFields]
  | f :: fs, o, ks, h, w, xs, ys, b, hb => by
    simp only [leafsF, Option.bind_eq_some_iff] at h
    obtain ⟨k1, hk1, h⟩ := h
    split at h
    · rename_i hc
      simp only [Bool.and_eq_true, bne_iff_ne, beq_iff_eq] at hc
      obtain ⟨⟨hn, ho⟩, hsz⟩ := hc
      simp only [Option.map_eq_some_iff] at h
      obtain ⟨k2, hk2, rfl⟩ := h
      obtain ⟨b1, b2, e1, e2, rfl⟩ := vflat_append k1 k2 _ _ _ hb
      subst ho
      obtain ⟨x, y, p1, p2, p3⟩ := hrec f.type k1 hk1 hsz w xs ys f.offset b1 e1
      have ih := eqFields_flat hrec fs (f.offset + k1.length) k2 hk2 w xs ys b2 (by simpa [List.drop_drop] using e2)
      simp only [Op.eqFields, if_pos hn, Sem.run_bind, p1, p2, p3, Result.andThen_ok]
      cases b1
      · simp
      · simpa using ih
    · cases h

theorem eqAt_leaf {d : Nat} {t : TypeId} (hna : isAggB P t = false) (hu : hasU P t = true) {ks : List LK} {k : LK} (hk : ks = [k])
    (h : ∀ (w : World) x y (b : Bool), vflat [k] [x] [y] = some b → (Op.equalIn d t x y).run P w = .ok b w) : EqAt P d t ks := by
  subst hk
  intro w xs ys off b hb
  have hx : ∃ x l, xs.toList.drop off = x :: l := by
    cases hl : xs.toList.drop off with
    | nil => rw [hl] at hb; cases k <;> simp [vflat] at hb
    | cons x l => exact ⟨x, l, rfl⟩
  have hy : ∃ x l, ys.toList.drop off = x :: l := by
    cases hl : ys.toList.drop off with
    | nil => rw [hl] at hb; obtain ⟨x, l, e⟩ := hx; rw [e] at hb; cases k <;> simp [vflat] at hb
    | cons x l => exact ⟨x, l, rfl⟩
  obtain ⟨x, l, ex⟩ := hx
  obtain ⟨y, m, ey⟩ := hy
  have gx : xs[off]? = some x := by
    have := List.getElem?_drop (xs := xs.toList) (i := off) (j := 0)
    rw [ex] at this
    simpa using this.symm
  have gy : ys[off]? = some y := by
    have := List.getElem?_drop (xs := ys.toList) (i := off) (j := 0)
    rw [ey] at this
    simpa using this.symm
  refine ⟨x, y, by simp [Go.part, isAgg_run hu, hna, gx], by simp [Go.part, isAgg_run hu, hna, gy], h w x y b ?_⟩
  rw [ex, ey] at hb
  have := vflat_take [k] 1 (x :: l) (y :: m) (by simp)
  rw [hb] at this
  simpa using this

theorem leafs_eq : ∀ (d : Nat) (t : TypeId) (ks : List LK), leafs P d t = some ks → szB P t ks.length = true → EqAt P d t ks
  | 0, _, _, h, _ => by simp [leafs] at h
  | d + 1, t, ks, h, hsz => by
    simp only [leafs] at h
    split at h
    · rename_i hu
      refine eqAt_leaf (by simp [isAggB, hu]) (by simp [hasU, hu]) (Option.some.inj h).symm fun w x y b hb => ?_
      cases x <;> first | (simp [vflat] at hb; done) | skip
      cases y <;> first | (simp [vflat] at hb; done) | skip
      simp only [vflat, Option.map_some, Bool.and_true, Option.some.injEq] at hb
      subst hb
      simp [Op.equalIn, run_underlying hu]
    · rename_i k hu
      refine eqAt_leaf (by simp [isAggB, hu]) (by simp [hasU, hu]) (Option.some.inj h).symm fun w x y b hb => ?_
      cases x <;> first | (simp [vflat] at hb; done) | skip
      cases y <;> first | (simp [vflat] at hb; done) | skip
      simp only [vflat] at hb
      split at hb
      · rename_i hk
        subst hk
        simp only [Option.map_some, Bool.and_true, Option.some.injEq] at hb
        subst hb
        simp [Op.equalIn, run_underlying hu]
      · cases hb
    · rename_i hu
      refine eqAt_leaf (by simp [isAggB, hu]) (by simp [hasU, hu]) (Option.some.inj h).symm fun w x y b hb => ?_
      cases x <;> first | (simp [vflat] at hb; done) | skip
      cases y <;> first | (simp [vflat] at hb; done) | skip
      simp only [vflat, Option.map_some, Bool.and_true, Option.some.injEq] at hb
      subst hb
      simp [Op.equalIn, run_underlying hu, beq_toListBytes]
    · rename_i fs hu
      split at h
      · cases h
      · rename_i hst
        intro w xs ys off b hb
        have hua : isAggB P t = true := by simp [isAggB, hu]
        have huu : hasU P t = true := by simp [hasU, hu]
        have hf : P.fieldsOf t = fs := by simp [Program.fieldsOf, hu]
        refine ⟨.agg (xs.extract off (off + ks.length)), .agg (ys.extract off (off + ks.length)), by simp [Go.part, isAgg_run huu, hua, sizeOf_run hsz], by simp [Go.part, isAgg_run huu, hua, sizeOf_run hsz], ?_⟩
        rw [run_equalIn_struct w d t _ _ (by rw [hf]; exact hu) (by simpa using hst), hf]
        refine eqFields_flat (fun t ks h hs => leafs_eq d t ks h hs) fs.toList 0 ks h w _ _ b ?_
        have e1 : ∀ zs : Array Value, (zs.extract off (off + ks.length)).toList = (zs.toList.drop off).take ks.length := by
          intro zs
          simp
        simp only [List.drop_zero, e1]
        rw [vflat_take ks ks.length _ _ (Nat.le_refl _)]
        exact hb
    · cases h

theorem op_eq_agg {gl : Globs} {g : G} {tm : List AV} {a : Act} {take : List Nat} {w : World} {mem : Mem} {d : Nat} {r : AV × Mem} {op : Op} (hT : WT g tm a.tmps) (hgl : GlobOK gl g) {ks : List LK} {neg : Bool} {y1 y2 : Opd}
    (hc : chkOp P gl op (.eq (.agg ks) neg y1 y2) = true) (he : evOp mem d (rho tm take) (.eq (.agg ks) neg y1 y2) = some r) : Plain P g a w mem op r := by
  cases op <;> simp only [chkOp, Bool.false_eq_true] at hc
  rename_i b t x1 x2 t2
  simp only [Bool.and_eq_true] at hc
  obtain ⟨⟨⟨h1, h2⟩, h3⟩, h4⟩ := hc
  simp only [evOp, Option.map_eq_some_iff] at he
  obtain ⟨v, hv, rfl⟩ := he
  have h5 := rv_opd (take := take) hT hgl h1
  have h6 := rv_opd (take := take) hT hgl h2
  generalize hz : a.eval x1 = z at h5
  generalize hz2 : a.eval x2 = z2 at h6
  generalize e1 : (rho tm take y1).strip = u1 at hv h5
  generalize e2 : (rho tm take y2).strip = u2 at hv h6
  cases u1 <;> first | (simp [eqv] at hv; done) | skip
  cases u2 <;> first | (simp [eqv] at hv; done) | skip
  have c1 := h5.cells (by simp)
  have c2 := h6.cells (by simp)
  cases h5 with
  | agg l xs hl h5 =>
  cases h6 with
  | agg m ys hm h6 =>
  simp only [eqv] at hv
  have hvf := flat_v ks _ _ _ _ _ hv c1 c2
  simp only [Value.cells] at hvf
  obtain ⟨fs, hu⟩ : ∃ fs, P.underlying t = some (.struct fs) := by
    cases hu : P.underlying t with
    | none => simp [chkEq, hu] at h3
    | some dd => cases dd <;> first | exact ⟨_, rfl⟩ | simp [chkEq, hu] at h3
  simp only [chkEq, hu, Bool.and_eq_true, beq_iff_eq, Bool.not_eq_true'] at h3
  obtain ⟨⟨hlf, hgd⟩, hsz⟩ := h3
  have hrun : ∀ d, (leafs P d t = some ks) → 0 < d → (Op.equalIn d t (.agg xs) (.agg ys)).run P w = .ok v w := by
    intro d hd hpos
    cases d with
    | zero => cases hpos
    | succ d =>
    simp only [leafs, hu] at hd
    split at hd
    · cases hd
    · rename_i hst
      have hf : P.fieldsOf t = fs := by simp [Program.fieldsOf, hu]
      rw [run_equalIn_struct w d t _ _ (by rw [hf]; exact hu) (by simpa using hst), hf]
      exact eqFields_flat (fun t ks h hs => leafs_eq d t ks h hs) fs.toList 0 ks hd w xs ys v (by simpa using hvf)
  have hdeep : ∀ d d' t' ks', leafs P d t' = some ks' → d ≤ d' → leafs P d' t' = some ks' := by
    intro d
    induction d with
    | zero => intro d' t' ks' h; simp [leafs] at h
    | succ d ih =>
      intro d' t' ks' h hle
      cases d' with
      | zero => omega
      | succ d' =>
        simp only [leafs] at h ⊢
        split at h
        · first | exact h | (rename_i hu'; simp only [hu']; exact h)
        · first | exact h | (rename_i hu'; simp only [hu']; exact h)
        · first | exact h | (rename_i hu'; simp only [hu']; exact h)
        · rename_i fs' hu'
          try simp only [hu']
          split at h
          · cases h
          · rename_i hst
            rw [if_neg hst]
            have key : ∀ (fs : List Field) (o : Nat) (ks : List LK), leafsF P (leafs P d) fs o = some ks → leafsF P (leafs P d') fs o = some ks := by
              intro fs
              induction fs with
              | nil => intro o ks h; exact h
              | cons f fs ih2 =>
                intro o ks h
                simp only [leafsF, Option.bind_eq_some_iff] at h ⊢
                obtain ⟨k1, hk1, h⟩ := h
                refine ⟨k1, ih d' _ _ hk1 (by omega), ?_⟩
                split at h
                · rename_i hc
                  rw [if_pos hc]
                  simp only [Option.map_eq_some_iff] at h ⊢
                  obtain ⟨k2, hk2, rfl⟩ := h
                  exact ⟨k2, ih2 _ _ hk2, rfl⟩
                · cases h
            exact key _ _ _ h
        · cases h
  have hq : (Op.equal t (.agg xs) (.agg ys)).run P w = .ok v w := hrun 10000 (hdeep 64 10000 t ks hlf (by omega)) (by omega)
  have hg : ∀ op', (eqGuard op' t x1 x2 (.agg xs) (.agg ys)).run P w = .ok () w := fun op' => run_eqGuard_agg w op' t x1 x2 xs ys hgd
  cases b <;> first | (simp at h4; done) | skip
  · have : neg = false := by simpa using h4
    subst this
    exact ⟨rfl, .bool v, fun _ _ _ _ _ => by simp [execOp, hz, hz2, hg, binOp, hq], by rw [Bool.false_xor]; exact .bool v⟩
  · have : neg = true := by simpa using h4
    subst this
    exact ⟨rfl, .bool (!v), fun _ _ _ _ _ => by simp [execOp, hz, hz2, hg, binOp, hq], by rw [Bool.true_xor]; exact .bool (!v)⟩

end
end Go.VA
