/-
  What comes in: arguments of plain types, as the statement's rows read them, are values of the abstract machine.
-/
import Derived.Test.YtifieekfojbkhaaGreatDoorVaEnd
import Derived.ChangeArms
import Derived.ChangeSame
set_option linter.unusedSimpArgs false
set_option linter.unusedVariables false
namespace Go.VA
open Go Go.RowKit

/-- A plain cell's kind. -/
inductive FT where
  | b | i (k : IntKind) | s
  deriving DecidableEq

/-- A cell's kind: plain, or a slice of plain rows. -/
inductive LT where
  | f (x : FT)
  | sl (agg : Bool) (cs : List FT)
  deriving DecidableEq

def fieldsT {α : Type} (P : Program) (rec : TypeId → Option (List α)) : List Field → Nat → Option (List α)
  | [], _ => some []
  | f :: r, o => (rec f.type).bind fun ks => if f.offset == o && P.cellsOf f.type == ks.length then (fieldsT P rec r (o + ks.length)).map (ks ++ ·) else none

def ftsOf (P : Program) : Nat → TypeId → Option (List FT)
  | 0, _ => none
  | d + 1, t => match P.underlying t with
    | some .bool => some [.b]
    | some (.int k) => some [.i k]
    | some .string => some [.s]
    | some (.struct fs) => (fieldsT P (ftsOf P d) fs.toList 0).bind fun ks => if P.cellsOf t == ks.length then some ks else none
    | _ => none

def ltsOf (P : Program) : Nat → TypeId → Option (List LT)
  | 0, _ => none
  | d + 1, t => match P.underlying t with
    | some .bool => some [.f .b]
    | some (.int k) => some [.f (.i k)]
    | some .string => some [.f .s]
    | some (.slice e) => (ftsOf P d e).bind fun cs => if P.cellsOf e == cs.length && decide (0 < cs.length) then some [.sl (isAggB P e) cs] else none
    | some (.struct fs) => (fieldsT P (ltsOf P d) fs.toList 0).bind fun ks => if P.cellsOf t == ks.length then some ks else none
    | _ => none

def FitF : FT → AV → Prop
  | .b, v => ∃ b, v = .bool b
  | .i k, v => ∃ n, v = .int k n ∧ k.min ≤ n ∧ n ≤ k.max
  | .s, v => ∃ l, v = .str l ∧ l.length ≤ maxLen

def FitFs : List FT → List AV → Prop
  | [], us => us = []
  | k :: ks, us => ∃ u r, us = u :: r ∧ FitF k u ∧ FitFs ks r

def FitL : LT → AV → Prop
  | .f x, v => FitF x v
  | .sl agg cs, v => v = .nils ∨ ∃ l, v = .slc cs.length l .unk ∧ l.length ≤ maxLen ∧ ∀ u, u ∈ l → ∃ us, FitFs cs us ∧ u = (if agg then .agg us else us.headD .undef)

def FitLs : List LT → List AV → Prop
  | [], us => us = []
  | k :: ks, us => ∃ u r, us = u :: r ∧ FitL k u ∧ FitLs ks r

theorem fitF_plain {k : FT} {u : AV} (h : FitF k u) : u.pure = true ∧ u.one = true ∧ (∀ l, u ≠ .agg l) := by
  cases k with
  | b => obtain ⟨b, rfl⟩ := h; exact ⟨rfl, rfl, fun _ h => by cases h⟩
  | i k => obtain ⟨n, rfl, _⟩ := h; exact ⟨rfl, rfl, fun _ h => by cases h⟩
  | s => obtain ⟨l, rfl, _⟩ := h; exact ⟨rfl, rfl, fun _ h => by cases h⟩

theorem fitFs_length : ∀ {ks : List FT} {us : List AV}, FitFs ks us → us.length = ks.length
  | [], us, h => by cases h; rfl
  | k :: ks, us, h => by obtain ⟨u, r, rfl, _, h⟩ := h; simp [fitFs_length h]

theorem fitFs_mem : ∀ {ks : List FT} {us : List AV}, FitFs ks us → ∀ u, u ∈ us → u.pure = true ∧ u.one = true ∧ (∀ l, u ≠ .agg l)
  | [], us, h, u, hu => by cases h; cases hu
  | k :: ks, us, h, u, hu => by
    obtain ⟨v, r, rfl, hv, h⟩ := h
    rcases List.mem_cons.1 hu with rfl | hu
    · exact fitF_plain hv
    · exact fitFs_mem h u hu

theorem fitFs_append : ∀ {ks ls : List FT} {us vs : List AV}, FitFs ks us → FitFs ls vs → FitFs (ks ++ ls) (us ++ vs)
  | [], ls, us, vs, h, g => by cases h; exact g
  | k :: ks, ls, us, vs, h, g => by obtain ⟨u, r, rfl, hu, h⟩ := h; exact ⟨u, r ++ vs, rfl, hu, fitFs_append h g⟩

theorem fitLs_append : ∀ {ks ls : List LT} {us vs : List AV}, FitLs ks us → FitLs ls vs → FitLs (ks ++ ls) (us ++ vs)
  | [], ls, us, vs, h, g => by cases h; exact g
  | k :: ks, ls, us, vs, h, g => by obtain ⟨u, r, rfl, hu, h⟩ := h; exact ⟨u, r ++ vs, rfl, hu, fitLs_append h g⟩

section
variable {imm : Addr → Option Value} {map : Nat → Option (Array MapEntry)} {blk : Id → Option Nat}

def Rel (imm : Addr → Option Value) (map : Nat → Option (Array MapEntry)) (blk : Id → Option Nat) (us : List AV) (cs : List Value) : Prop :=
  us.length = cs.length ∧ ∀ (i : Nat) u x, us[i]? = some u → cs[i]? = some x → RV imm map blk u x

theorem rel_one {u : AV} {x : Value} (h : RV imm map blk u x) : Rel imm map blk [u] [x] := by
  refine ⟨rfl, fun i v y hv hy => ?_⟩
  match i with
  | 0 => cases hv; cases hy; exact h
  | i + 1 => simp at hv

theorem rel_append {us vs : List AV} {cs ds : List Value} (h : Rel imm map blk us cs) (g : Rel imm map blk vs ds) : Rel imm map blk (us ++ vs) (cs ++ ds) := by
  refine ⟨by simp [h.1, g.1], fun i u x hu hx => ?_⟩
  rw [List.getElem?_append] at hu hx
  rw [h.1] at hu
  split at hu
  · rename_i hi; rw [if_pos hi] at hx; exact h.2 i u x hu hx
  · rename_i hi; rw [if_neg hi] at hx; exact g.2 _ u x hu hx

end

section
variable {H : Type} {enc : TypeId × Value → H} {P : Program} {w : World} {base : Nat} {spare : Nat → Bool} {held : Bool}

theorem wf_int {k : IntKind} {n : Int} (h : (Lit.int k n).wf = true) : k.min ≤ n ∧ n ≤ k.max := by
  simpa [Lit.wf] using h

/-- Fields one behind the other. -/
theorem fields_rel {α : Type} {Fit : List α → List AV → Prop} {imm : Addr → Option Value} {map : Nat → Option (Array MapEntry)} {blk : Id → Option Nat} (hnil : Fit [] []) (happ : ∀ {ks ls us vs}, Fit ks us → Fit ls vs → Fit (ks ++ ls) (us ++ vs))
    {rec : TypeId → Option (List α)} {cs : List Value} {run : Field → Option (DataW H × List MemPlace)}
    (hrec : ∀ (f : Field) ks y, rec f.type = some ks → (∃ o, f.offset = o) → run f = some y → P.cellsOf f.type = ks.length → ∃ us, Fit ks us ∧ Rel imm map blk us ((cs.drop f.offset).take (P.cellsOf f.type))) :
    ∀ (fs : List Field) (o : Nat) (ks : List α), fieldsT P rec fs o = some ks → (∀ f, f ∈ fs → ∃ y, run f = some y) → o + ks.length ≤ cs.length → ∃ us, Fit ks us ∧ Rel imm map blk us ((cs.drop o).take ks.length)
  | [], o, ks, h, _, _ => by
    cases h
    exact ⟨[], hnil, by simp, fun i u x hu => by simp at hu⟩
  | f :: fs, o, ks, h, hr, hl => by
    simp only [fieldsT, Option.bind_eq_some_iff] at h
    obtain ⟨k1, h1, h2⟩ := h
    split at h2
    · rename_i hc
      simp only [Bool.and_eq_true, beq_iff_eq] at hc
      rw [Option.map_eq_some_iff] at h2
      obtain ⟨k2, h3, rfl⟩ := h2
      rw [List.length_append] at hl
      obtain ⟨y, hy⟩ := hr f (by simp)
      obtain ⟨us, hu1, hu2⟩ := hrec f k1 y h1 ⟨_, rfl⟩ hy hc.2
      obtain ⟨vs, hv1, hv2⟩ := fields_rel hnil happ hrec fs (o + k1.length) k2 h3 (fun g hg => hr g (by simp [hg])) (by omega)
      refine ⟨us ++ vs, happ hu1 hv1, ?_⟩
      rw [hc.1, hc.2] at hu2
      have : (cs.drop o).take (k1 ++ k2).length = (cs.drop o).take k1.length ++ (cs.drop (o + k1.length)).take k2.length := by
        rw [List.length_append, List.take_add, List.drop_drop]
      rw [this]
      exact rel_append hu2 hv2
    · cases h2

theorem open_flat (imm : Addr → Option Value) (map : Nat → Option (Array MapEntry)) (blk : Id → Option Nat) : ∀ (d : Nat) (fuel : Nat) (t : TypeId) (cs : List Value) (x : DataW H × List MemPlace) (ks : List FT), ftsOf P d t = some ks → DataW.trod enc P w base spare held fuel t cs = some x →
    ∃ us, FitFs ks us ∧ Rel imm map blk us cs
  | 0, _, _, _, _, _, h, _ => by cases h
  | d + 1, fuel, t, cs, x, ks, h, ht => by
    unfold ftsOf at h
    split at h
    · rename_i hu
      cases h
      obtain ⟨b, rfl, _⟩ := DataW.trod_bool hu ht
      exact ⟨[.bool b], ⟨_, _, rfl, ⟨b, rfl⟩, rfl⟩, rel_one (.bool b)⟩
    · rename_i k hu
      cases h
      obtain ⟨n, rfl, _, hw⟩ := DataW.trod_int hu ht
      exact ⟨[.int k n], ⟨_, _, rfl, ⟨n, rfl, wf_int hw⟩, rfl⟩, rel_one (.int k n)⟩
    · rename_i hu
      cases h
      obtain ⟨s, rfl, _, hs⟩ := DataW.trod_string hu ht
      exact ⟨[.str s.data.toList], ⟨_, _, rfl, ⟨_, rfl, by rw [Array.length_toList]; exact hs⟩, rfl⟩, rel_one (by have := RV.str (imm := imm) (map := map) (blk := blk) s.data.toList; simpa using this)⟩
    · rename_i fs hu
      rw [Option.bind_eq_some_iff] at h
      obtain ⟨k1, h1, h2⟩ := h
      split at h2
      · rename_i hc
        cases h2
        simp only [beq_iff_eq] at hc
        obtain ⟨xs, n, rfl, _, hlen, hxs, hf⟩ := DataW.trod_struct hu ht
        obtain ⟨us, u1, u2⟩ := fields_rel (Fit := FitFs) (imm := imm) (map := map) (blk := blk) (P := P) rfl fitFs_append (cs := cs) (run := fun f => DataW.trod enc P w base spare held n f.type ((cs.drop f.offset).take (P.cellsOf f.type)))
          (fun f ks y hk _ hy _ => open_flat imm map blk d n f.type _ y ks hk hy) fs.toList 0 _ h1 (fun f hf' => by
            obtain ⟨i, hi, hfi⟩ := List.getElem_of_mem hf'
            have hi' : i < fs.size := by simpa using hi
            have e : fs[i]? = some f := by rw [Array.getElem?_eq_getElem hi']; congr 1
            have := hf i f e
            rw [List.getElem?_eq_getElem (by omega)] at this
            exact ⟨_, this⟩) (by omega)
        refine ⟨us, u1, ?_⟩
        rw [List.drop_zero, List.take_of_length_le (by omega)] at u2
        exact u2
      · cases h2
    · cases h

theorem cells_at {a : Addr} {n : Nat} {cs : List Value} (h : w.cells? base a n = some cs) : cs.length = n ∧ ∀ j, j < n → w.cell? (a.add j) = cs[j]? := World.cells?_some h |>.2

theorem addr_add (a : Addr) (ha : a.spot = none) (n : Nat) : a.add n = ⟨a.block, a.off + n, none⟩ := by
  unfold Addr.add
  split
  · rename_i h; subst h; obtain ⟨b, o, s⟩ := a; simp only at ha; subst ha; rfl
  · rfl

theorem fts_one {d : Nat} {t : TypeId} {ks : List FT} (h : ftsOf P d t = some ks) (ha : isAggB P t = false) : ∃ k, ks = [k] := by
  cases d with
  | zero => cases h
  | succ d =>
    unfold ftsOf at h
    split at h
    · cases h; exact ⟨_, rfl⟩
    · cases h; exact ⟨_, rfl⟩
    · cases h; exact ⟨_, rfl⟩
    · rename_i fs hu
      unfold isAggB at ha
      rw [hu] at ha
      cases ha
    · cases h

/-- Cells without slices at a place of their own. -/
def Spotless (cs : List Value) : Prop := ∀ x, x ∈ cs → ∀ a len cap, x = .slice (some a) len cap → a.spot = none

theorem open_lists (map : Nat → Option (Array MapEntry)) (blk : Id → Option Nat) : ∀ (d : Nat) (fuel : Nat) (t : TypeId) (cs : List Value) (x : DataW H × List MemPlace) (ks : List LT), ltsOf P d t = some ks → DataW.trod enc P w base spare held fuel t cs = some x → Spotless cs →
    ∃ us, FitLs ks us ∧ Rel (fun a => w.cell? a) map blk us cs
  | 0, _, _, _, _, _, h, _, _ => by cases h
  | d + 1, fuel, t, cs, x, ks, h, ht, hs => by
    unfold ltsOf at h
    split at h
    · rename_i hu
      cases h
      obtain ⟨b, rfl, _⟩ := DataW.trod_bool hu ht
      exact ⟨[.bool b], ⟨_, _, rfl, ⟨b, rfl⟩, rfl⟩, rel_one (.bool b)⟩
    · rename_i k hu
      cases h
      obtain ⟨n, rfl, _, hw⟩ := DataW.trod_int hu ht
      exact ⟨[.int k n], ⟨_, _, rfl, ⟨n, rfl, wf_int hw⟩, rfl⟩, rel_one (.int k n)⟩
    · rename_i hu
      cases h
      obtain ⟨s, rfl, _, hl⟩ := DataW.trod_string hu ht
      exact ⟨[.str s.data.toList], ⟨_, _, rfl, ⟨_, rfl, by rw [Array.length_toList]; exact hl⟩, rfl⟩, rel_one (by have := RV.str (imm := fun a => w.cell? a) (map := map) (blk := blk) s.data.toList; simpa using this)⟩
    · rename_i e hu
      rw [Option.bind_eq_some_iff] at h
      obtain ⟨fs, h1, h2⟩ := h
      split at h2
      · rename_i hc
        cases h2
        simp only [Bool.and_eq_true, beq_iff_eq, decide_eq_true_eq] at hc
        obtain ⟨hce, hpos⟩ := hc
        rcases DataW.trod_slice hu ht with ⟨rfl, _⟩ | ⟨a, len, cap, elems, rest, n, rfl, rfl, _, hb, hl, hm, hlen, hel, _, _⟩
        · exact ⟨[.nils], ⟨_, _, rfl, .inl rfl, rfl⟩, rel_one .nils⟩
        · have hsp : a.spot = none := hs _ (by simp) a len cap rfl
          have each : ∀ i, i < len → ∃ us, FitFs fs us ∧ ∃ cs', w.cells? base (a.add (i * P.cellsOf e)) (P.cellsOf e) = some cs' ∧ Rel (fun a => w.cell? a) map blk us cs' := by
            intro i hi
            have := hel i hi
            rw [List.getElem?_eq_getElem (by omega), Option.bind_eq_some_iff] at this
            obtain ⟨cs', k1, k2⟩ := this
            obtain ⟨us, u1, u2⟩ := open_flat (fun a => w.cell? a) map blk d n e cs' _ fs h1 k2
            exact ⟨us, u1, cs', k1, u2⟩
          let f : Nat → List AV := fun i => if hi : i < len then (each i hi).choose else []
          have hf : ∀ i, (hi : i < len) → FitFs fs (f i) ∧ ∃ cs', w.cells? base (a.add (i * P.cellsOf e)) (P.cellsOf e) = some cs' ∧ Rel (fun a => w.cell? a) map blk (f i) cs' := by
            intro i hi
            have : f i = (each i hi).choose := dif_pos hi
            rw [this]
            exact (each i hi).choose_spec
          let mk : List AV → AV := fun us => if isAggB P e then .agg us else us.headD .undef
          have hmk : ∀ us, FitFs fs us → (mk us).cells = us := by
            intro us hus
            show (if _ then _ else _ : AV).cells = us
            by_cases hagg : isAggB P e
            · rw [if_pos hagg]; rfl
            · rw [if_neg hagg]
              obtain ⟨k, rfl⟩ := fts_one h1 (by simpa using hagg)
              obtain ⟨u, r, rfl, hu', hr⟩ := hus
              cases hr
              have := (fitF_plain hu').2.2
              show AV.cells u = [u]
              cases u <;> first | rfl | exact absurd rfl (this _)
          have hlen' : ((List.range len).map fun i => mk (f i)).length = len := by simp
          have hat : ∀ i v, ((List.range len).map fun i => mk (f i))[i]? = some v → i < len ∧ v = mk (f i) := by
            intro i v hv
            rw [List.getElem?_map, Option.map_eq_some_iff] at hv
            obtain ⟨j, hj, rfl⟩ := hv
            have hj' := List.getElem?_eq_some_iff.1 hj
            obtain ⟨q1, q2⟩ := hj'
            rw [List.getElem_range] at q2
            subst q2
            exact ⟨by simpa using q1, rfl⟩
          have hcell : ∀ i, i < len → ∀ j u, (f i)[j]? = some u → ∃ y, w.cell? ⟨a.block, a.off + (i * fs.length + j), none⟩ = some y ∧ RV (fun a => w.cell? a) map blk u y := by
            intro i hi j u hu'
            obtain ⟨g1, cs', g2, g3, g4⟩ := hf i hi
            obtain ⟨c1, c2⟩ := cells_at g2
            have hj : j < P.cellsOf e := by rw [← c1, ← g3]; exact (List.getElem?_eq_some_iff.1 hu').1
            have := c2 j hj
            rw [addr_add a hsp, addr_add _ rfl, hce, Nat.add_assoc] at this
            rw [List.getElem?_eq_getElem (by omega)] at this
            exact ⟨_, this, g4 j u _ hu' (List.getElem?_eq_getElem (by omega))⟩
          have key := RV.slc (imm := fun a => w.cell? a) (map := map) (blk := blk) fs.length ((List.range len).map fun i => mk (f i)) .unk a.block a.off cap
            (fun i j => (w.cell? ⟨a.block, a.off + (i * fs.length + j), none⟩).getD default) (by simp) (by rw [hlen']; exact hl) (by simp)
            (fun v hv => by
              obtain ⟨i, hi, rfl⟩ := List.mem_map.1 hv
              have hi' : i < len := by simpa using hi
              have hfi := (hf i hi').1
              unfold AV.okElem
              rw [hmk _ hfi, fitFs_length hfi]
              simp only [beq_self_eq_true, Bool.true_and, List.all_eq_true, Bool.and_eq_true]
              exact fun u hu' => ⟨(fitFs_mem hfi u hu').1, (fitFs_mem hfi u hu').2.1⟩)
            (fun i j hi hj => by
              rw [hlen'] at hi
              have hfi := (hf i hi).1
              obtain ⟨y, k1, _⟩ := hcell i hi j _ (List.getElem?_eq_getElem (by rw [fitFs_length hfi]; exact hj))
              rw [k1]; rfl)
            (fun i v j u hv hu' => by
              obtain ⟨hi, rfl⟩ := hat i v hv
              rw [hmk _ (hf i hi).1] at hu'
              obtain ⟨y, k1, k2⟩ := hcell i hi j u hu'
              rw [k1]
              exact k2)
          rw [hlen'] at key
          refine ⟨[.slc fs.length ((List.range len).map fun i => mk (f i)) .unk], ⟨_, _, rfl, .inr ⟨_, rfl, by rw [hlen']; omega, fun u hu' => ?_⟩, rfl⟩, rel_one ?_⟩
          · obtain ⟨i, hi, rfl⟩ := List.mem_map.1 hu'
            exact ⟨f i, (hf i (by simpa using hi)).1, rfl⟩
          · obtain ⟨ab, ao, as⟩ := a
            simp only at hsp
            subst hsp
            exact key
      · cases h2
    · rename_i fs hu
      rw [Option.bind_eq_some_iff] at h
      obtain ⟨k1, h1, h2⟩ := h
      split at h2
      · rename_i hc
        cases h2
        simp only [beq_iff_eq] at hc
        obtain ⟨xs, n, rfl, _, hlen, hxs, hf⟩ := DataW.trod_struct hu ht
        obtain ⟨us, u1, u2⟩ := fields_rel (Fit := FitLs) (imm := fun a => w.cell? a) (map := map) (blk := blk) (P := P) rfl fitLs_append (cs := cs) (run := fun f => DataW.trod enc P w base spare held n f.type ((cs.drop f.offset).take (P.cellsOf f.type)))
          (fun f ks y hk _ hy _ => open_lists map blk d n f.type _ y ks hk hy (fun x hx => hs x (List.mem_of_mem_drop (List.mem_of_mem_take hx)))) fs.toList 0 _ h1 (fun f hf' => by
            obtain ⟨i, hi, hfi⟩ := List.getElem_of_mem hf'
            have hi' : i < fs.size := by simpa using hi
            have e : fs[i]? = some f := by rw [Array.getElem?_eq_getElem hi']; congr 1
            have := hf i f e
            rw [List.getElem?_eq_getElem (by omega)] at this
            exact ⟨_, this⟩) (by omega)
        refine ⟨us, u1, ?_⟩
        rw [List.drop_zero, List.take_of_length_le (by omega)] at u2
        exact u2
      · cases h2
    · cases h

end
end Go.VA
