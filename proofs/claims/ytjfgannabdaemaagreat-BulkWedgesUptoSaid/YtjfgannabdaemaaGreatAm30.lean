/-
  AM: what comes in to a law: its reading, as deep values.
-/
import Derived.Test.YtjfgannabdaemaaGreatAm29
import Derived.ChangeSame
set_option linter.all false
namespace Go.Am
set_option linter.unusedSimpArgs false

noncomputable def layChain (P : Program) (f : TypeId → Option Ty) : List Field → Nat → Option Ty
  | [], _ => some .unit
  | x :: r, off => match f x.type with
    | some a => match x.offset.beq off && (P.cellsOf x.type).beq a.size with
      | true => match layChain P f r (off + a.size) with
        | some b => some (.pair a b)
        | none => none
      | false => none
    | none => none

/-- a type, of the layout that the tables tell -/
noncomputable def tyLay (P : Program) : Nat → TypeId → Option Ty
  | 0, _ => none
  | n + 1, t => match P.underlying t with
    | some .bool => some .bool
    | some (.int k) => some (.int k)
    | some .string => some .str
    | some (.slice e) => match tyLay P n e with
      | some a => match (P.cellsOf e).beq a.size && Nat.blt 0 a.size with
        | true => some (.sl a)
        | false => none
      | none => none
    | some (.array m e) => match tyLay P n e with
      | some a => match (P.cellsOf e).beq a.size && (P.cellsOf t).beq (m * a.size) with
        | true => some (.arr m a)
        | false => none
      | none => none
    | some (.struct fs) => match layChain P (tyLay P n) fs.toList 0 with
      | some T => match (P.cellsOf t).beq T.size with
        | true => some T
        | false => none
      | none => none
    | _ => none

def sumB {α : Type} (f : α → Nat) : List α → Nat
  | [] => 0
  | a :: l => f a + sumB f l

/-- how much a deep value holds -/
def bulkT : (t : Ty) → t.den → Nat
  | .bool, _ => 1
  | .int _, _ => 1
  | .str, s => s.length + 1
  | .unit, _ => 0
  | .pair a b, x => bulkT a x.1 + bulkT b x.2
  | .arr _ t, l => sumB (bulkT t) l
  | .sl t, l => sumB (bulkT t) l + 1
  | .fr t, l => sumB (bulkT t) l + 1

/-- numbers are of their kinds -/
def rangeT : (t : Ty) → t.den → Prop
  | .bool, _ => True
  | .int k, n => k.min ≤ n ∧ n ≤ k.max
  | .str, s => ∀ n ∈ s, 0 ≤ n ∧ n < 256
  | .unit, _ => True
  | .pair a b, x => rangeT a x.1 ∧ rangeT b x.2
  | .arr n t, l => l.length = n ∧ ∀ a ∈ l, rangeT t a
  | .sl t, l => ∀ a ∈ l, rangeT t a
  | .fr t, l => ∀ a ∈ l, rangeT t a

theorem Many.mem {α : Type} {f : α → List Value → Prop} : ∀ {l : List α} {cs : List Value} {a : α}, Many f l cs → a ∈ l → ∃ c, f a c := by
  intro l
  induction l with
  | nil => intro cs a _ h; cases h
  | cons x l ih =>
    rintro cs a ⟨c, d, _, h1, h2⟩ ha
    rcases List.mem_cons.1 ha with rfl | ha
    · exact ⟨c, h1⟩
    · exact ih h2 ha

theorem LV.range {S : Nat → Prop} {w : World} : ∀ (t : Ty) {x : t.den} {cs : List Value}, LV S w t x cs → rangeT t x := by
  intro t
  induction t with
  | bool => intro x cs _; trivial
  | int k => intro x cs h; exact h.2
  | str => intro x cs h n hn; exact h.2 n hn
  | unit => intro x cs _; trivial
  | pair a b iha ihb => rintro x cs ⟨c, d, _, h1, h2⟩; exact ⟨iha h1, ihb h2⟩
  | arr n t ih => rintro x cs ⟨hl, h⟩; refine ⟨hl, fun a ha => ?_⟩; obtain ⟨c, hc⟩ := h.mem ha; exact ih hc
  | sl t ih =>
    rintro x cs ⟨a, cap, _, _, h⟩ y hy
    rcases h with rfl | ⟨b, o, cs, _, _, h, _⟩
    · cases hy
    · obtain ⟨c, hc⟩ := h.mem hy; exact ih hc
  | fr t ih =>
    rintro x cs ⟨a, cap, _, _, h⟩ y hy
    rcases h with rfl | ⟨b, o, cs, _, _, h, _⟩
    · cases hy
    · obtain ⟨c, hc⟩ := h.mem hy; exact ih hc

/-- a measure of readings -/
structure Measure (H : Type) where
  β : DataW H → Nat
  one : ∀ d, 1 ≤ β d
  str : ∀ bs, bs.length + 1 ≤ β (.lit (.string bs))
  sl : ∀ es sp, sumB β es + 1 ≤ β (.slice es sp)
  agg : ∀ ps, sumB β ps ≤ β (.agg ps)

section
variable {H : Type} {enc : TypeId × Value → H} {P : Program} {w : World} {sp : Nat → Bool} (M : Measure H)

theorem chain_lv {f : TypeId → Option Ty} {g : TypeId → List Value → Option (DataW H × List MemPlace)} {S : Nat → Prop}
    (hg : ∀ t T cs y, f t = some T → g t cs = some y → ∃ x : T.den, LV S w T x cs ∧ bulkT T x ≤ M.β y.1) (cs : List Value) :
    ∀ (fs : List Field) (off : Nat) (T : Ty) (xs : List (DataW H × List MemPlace)), layChain P f fs off = some T → (fs.mapM fun x => g x.type ((cs.drop x.offset).take (P.cellsOf x.type))) = some xs →
      ∃ x : T.den, LV S w T x ((cs.drop off).take T.size) ∧ bulkT T x ≤ sumB M.β (xs.map (·.1)) := by
  intro fs
  induction fs with
  | nil =>
    intro off T xs hT hxs
    simp only [layChain, Option.some.injEq] at hT
    subst hT
    exact ⟨(), by simp [LV, Ty.size], Nat.zero_le _⟩
  | cons z fs ih =>
    intro off T xs hT hxs
    simp only [layChain] at hT
    split at hT
    · rename_i a ha
      split at hT
      · rename_i hc
        simp only [Bool.and_eq_true, Nat.beq_eq] at hc
        split at hT
        · rename_i b hb
          simp only [Option.some.injEq] at hT
          subst hT
          simp only [List.mapM_cons, Option.bind_eq_bind, Option.bind_eq_some_iff, Option.pure_def, Option.some.injEq] at hxs
          obtain ⟨y, hy, ys, hys, rfl⟩ := hxs
          obtain ⟨x1, h1, h2⟩ := hg _ _ _ _ ha hy
          obtain ⟨x2, h3, h4⟩ := ih _ _ _ hb hys
          refine ⟨(x1, x2), ⟨(cs.drop off).take a.size, (cs.drop (off + a.size)).take b.size, ?_, ?_, h3⟩, ?_⟩
          · simp only [Ty.size]
            rw [List.take_add, List.drop_drop]
          · rw [hc.1, hc.2] at h1; exact h1
          · simp only [bulkT, List.map_cons, sumB]; omega
        · cases hT
      · cases hT
    · cases hT

theorem range_lv {α : Type} {f : α → List Value → Prop} {bk : α → Nat} {e : Nat → Option (DataW H × List MemPlace)} {c : Nat} {R : Nat → List Value → Prop}
    (he : ∀ i y, e i = some y → ∃ (x : α) (cs : List Value), f x cs ∧ cs.length = c ∧ R i cs ∧ bk x ≤ M.β y.1) : ∀ (m k : Nat) (xs : List (DataW H × List MemPlace)), ((List.range' k m).mapM e) = some xs →
      ∃ (l : List α) (css : List (List Value)), l.length = m ∧ css.length = m ∧ Many f l css.flatten ∧ (∀ (i : Nat) (cs : List Value), css[i]? = some cs → cs.length = c ∧ R (k + i) cs) ∧ sumB bk l ≤ sumB M.β (xs.map (·.1)) := by
  intro m
  induction m with
  | zero => intro k xs h; exact ⟨[], [], rfl, rfl, rfl, fun i cs h => by simp at h, Nat.zero_le _⟩
  | succ m ih =>
    intro k xs h
    rw [List.range'_succ] at h
    simp only [List.mapM_cons, Option.bind_eq_bind, Option.bind_eq_some_iff, Option.pure_def, Option.some.injEq] at h
    obtain ⟨y, hy, ys, hys, rfl⟩ := h
    obtain ⟨x, cs, h1, h2, h3, h4⟩ := he _ _ hy
    obtain ⟨l, css, g1, g2, g3, g4, g5⟩ := ih _ _ hys
    refine ⟨x :: l, cs :: css, by simp [g1], by simp [g2], ⟨cs, css.flatten, by simp, h1, g3⟩, fun i ds hi => ?_, by simp only [sumB, List.map_cons]; omega⟩
    cases i with
    | zero => simp only [List.getElem?_cons_zero, Option.some.injEq] at hi; subst hi; exact ⟨h2, h3⟩
    | succ i =>
      have := g4 i ds (by simpa using hi)
      rw [show k + 1 + i = k + (i + 1) by omega] at this
      exact this

theorem flatten_get {c : Nat} : ∀ {css : List (List Value)}, (∀ (i : Nat) (cs : List Value), css[i]? = some cs → cs.length = c) → css.flatten.length = css.length * c ∧ ∀ (i j : Nat) (v : Value), j < c → css.flatten[i * c + j]? = some v → ∃ cs : List Value, css[i]? = some cs ∧ cs[j]? = some v := by
  intro css
  induction css with
  | nil => intro _; exact ⟨by simp, fun i j v _ h => by simp at h⟩
  | cons x css ih =>
    intro h
    have hx : x.length = c := h 0 x rfl
    obtain ⟨h1, h2⟩ := ih fun i cs hi => h (i + 1) cs (by simpa using hi)
    refine ⟨by simp [h1, hx, Nat.succ_mul, Nat.add_comm], fun i j v hj hv => ?_⟩
    simp only [List.flatten_cons] at hv
    cases i with
    | zero =>
      rw [Nat.zero_mul, Nat.zero_add, List.getElem?_append_left (by omega)] at hv
      exact ⟨x, rfl, hv⟩
    | succ i =>
      rw [List.getElem?_append_right (by rw [Nat.succ_mul]; omega)] at hv
      have e : (i + 1) * c + j - x.length = i * c + j := by rw [Nat.succ_mul]; omega
      rw [e] at hv
      obtain ⟨cs, g1, g2⟩ := h2 i j v hj hv
      exact ⟨cs, by simpa using g1, g2⟩

theorem cell_inv {a : Addr} {v : Value} (h : w.cell? a = some v) : a.spot = none ∧ ∃ c e fz, w.heap[a.block]? = some (.cells c e fz) ∧ c[a.off]? = some v := by
  unfold World.cell? at h
  split at h
  · rename_i c e fz hb
    split at h
    · cases h
    · rename_i hs
      exact ⟨by simpa using hs, c, e, fz, hb, h⟩
  · cases h

theorem add_block (q : Addr) (n : Nat) : (q.add n).block = q.block := by unfold Addr.add; split <;> rfl
theorem add_off (q : Addr) (n : Nat) : (q.add n).off = q.off + n := by
  unfold Addr.add; split
  · rename_i h; omega
  · rfl
theorem add_zero' (q : Addr) : q.add 0 = q := rfl
theorem add_add' (q : Addr) (a b : Nat) : (q.add a).add b = q.add (a + b) := by
  by_cases ha : a = 0
  · subst ha; rw [add_zero', Nat.zero_add]
  · by_cases hb : b = 0
    · subst hb; rw [add_zero', Nat.add_zero]
    · have hab : ¬ (a + b = 0) := by omega
      unfold Addr.add
      simp only [ha, hb, hab, if_false, Nat.add_assoc]

/-- a reading, as a deep value -/
theorem trod_lv : ∀ (n : Nat) (t : TypeId) (T : Ty), tyLay P n t = some T → ∀ (fuel : Nat) (cs : List Value) (y : DataW H × List MemPlace), DataW.trod enc P w 0 sp true fuel t cs = some y →
    ∃ x : T.den, LV (Old w) w T x cs ∧ bulkT T x ≤ M.β y.1 := by
  intro n
  induction n with
  | zero => intro t T h; cases h
  | succ n ih =>
    intro t T hT fuel cs y h
    cases fuel with
    | zero => cases h
    | succ fuel =>
      simp only [tyLay] at hT
      have fin : ∀ {α : Type} {T : Ty} {x : T.den} {cs : List Value}, LV (Old w) w T x cs → LV (Old w) w T x cs := fun h => h
      split at hT
      · -- bool
        rename_i hu
        cases hT
        unfold DataW.trod at h
        rw [hu] at h
        split at h <;> try (first | (cases h; done) | (simp_all; done))
        all_goals (simp only [Option.some.injEq] at h; subst h; exact ⟨_, rfl, M.one _⟩)
      · rename_i k hu
        cases hT
        unfold DataW.trod at h
        rw [hu] at h
        split at h <;> try (first | (cases h; done) | (rename_i heq; simp at heq; done) | (rename_i heq _; simp at heq; done) | (rename_i heq _ _; simp at heq; done) | (rename_i heq _ _ _; simp at heq; done) | (rename_i heq _ _ _ _; simp at heq; done))
        rename_i k0 k' m heq
        simp only [Option.some.injEq, TypeDesc.int.injEq] at heq
        subst heq
        split at h
        · rename_i hw
          obtain ⟨rfl, hw⟩ := hw
          simp only [Option.some.injEq] at h
          subst h
          have hw' : k'.min ≤ m ∧ m ≤ k'.max := by simpa [Lit.wf] using hw
          exact ⟨m, ⟨rfl, hw'.1, hw'.2⟩, M.one _⟩
        · cases h
      · rename_i hu
        cases hT
        unfold DataW.trod at h
        rw [hu] at h
        split at h <;> try (first | (cases h; done) | (rename_i heq; simp at heq; done) | (rename_i heq _; simp at heq; done) | (rename_i heq _ _; simp at heq; done) | (rename_i heq _ _ _; simp at heq; done) | (rename_i heq _ _ _ _; simp at heq; done))
        rename_i s heq
        split at h
        · simp only [Option.some.injEq] at h
          subst h
          refine ⟨s.data.toList.map fun b => (b.toNat : Int), ⟨by rw [bytes_back], bytes_byteB s⟩, ?_⟩
          have := M.str s.data.toList
          simp only [bulkT, List.length_map]
          exact this
        · cases h
      · -- slices
        rename_i e hu
        split at hT
        · rename_i a ha
          split at hT
          · rename_i hc
            simp only [Bool.and_eq_true, Nat.beq_eq, Nat.blt_eq] at hc
            cases hT
            unfold DataW.trod at h
            rw [hu] at h
            split at h <;> try (first | (cases h; done) | (rename_i heq; simp at heq; done) | (rename_i heq _; simp at heq; done) | (rename_i heq _ _; simp at heq; done) | (rename_i heq _ _ _; simp at heq; done) | (rename_i heq _ _ _ _; simp at heq; done))
            · simp only [Option.some.injEq] at h
              subst h
              have := M.one (DataW.nil (H := H))
              exact ⟨[], ⟨none, 0, rfl, Nat.le_refl _, .inl rfl⟩, by simpa [bulkT, sumB] using this⟩
            · rename_i e0 q len cap heq
              simp only [Option.some.injEq, TypeDesc.slice.injEq] at heq
              subst heq
              simp only at h
              split at h
              rotate_left
              · cases h
              rename_i hlc0
              obtain ⟨_, hlc, _⟩ := hlc0
              rw [hc.1] at h
              rw [Option.bind_eq_some_iff] at h
              obtain ⟨elems, he, h⟩ := h
              rw [Option.map_eq_some_iff] at h
              obtain ⟨rest, _, rfl⟩ := h
              rw [List.range_eq_range'] at he
              obtain ⟨l, css, g1, g2, g3, g4, g5⟩ := range_lv (M := M) (f := LV (Old w) w a) (bk := bulkT a) (c := a.size) (R := fun i ds => ∀ j v, ds[j]? = some v → w.cell? (q.add (i * a.size + j)) = some v) (fun i y hy => by
                rw [Option.bind_eq_some_iff] at hy
                obtain ⟨ds, hd, hy⟩ := hy
                obtain ⟨x, k1, k2⟩ := ih _ _ ha _ _ _ hy
                refine ⟨x, ds, k1, LV.length a k1, fun j v hj => ?_, k2⟩
                unfold World.cells? at hd
                rw [if_pos (Nat.zero_le _)] at hd
                have hj' : j < a.size := by rw [← LV.length a k1]; exact (List.getElem?_eq_some_iff.1 hj).1
                have hg := mapM_some_get hd j j (by simp [hj'])
                rw [hj] at hg
                rw [add_add'] at hg
                exact hg) len 0 elems he
              obtain ⟨f1, f2⟩ := flatten_get (c := a.size) fun i ds hi => (g4 i ds hi).1
              have hcell : ∀ j v, css.flatten[j]? = some v → w.cell? (q.add j) = some v := by
                intro j v hj
                have e1 : j / a.size * a.size + j % a.size = j := Nat.div_add_mod' j a.size
                rw [← e1] at hj
                obtain ⟨ds, k1, k2⟩ := f2 (j / a.size) (j % a.size) v (Nat.mod_lt _ hc.2) hj
                have := (g4 _ _ k1).2 _ _ k2
                rw [Nat.zero_add, e1] at this
                exact this
              have hsl := M.sl (elems.map (·.1)) (rest.map (·.1))
              refine ⟨l, ⟨some q, cap, by rw [g1], by omega, ?_⟩, by simp only [bulkT]; omega⟩
              by_cases h0 : len = 0
              · left
                apply List.eq_nil_of_length_eq_zero
                omega
              · right
                have hpos : 0 < css.flatten.length := by rw [f1, g2]; exact Nat.mul_pos (by omega) hc.2
                obtain ⟨v0, hv0⟩ : ∃ v, css.flatten[0]? = some v := ⟨css.flatten[0], by simp⟩
                obtain ⟨hspot, c, ce, fz, hb, _⟩ := cell_inv (hcell 0 v0 hv0)
                have hb' : w.heap[q.block]? = some (.cells c ce fz) := hb
                have hq : q = ⟨q.block, q.off, none⟩ := by
                  have : q.spot = none := hspot
                  cases q; simp_all
                have hall : ∀ j v, css.flatten[j]? = some v → c[q.off + j]? = some v := by
                  intro j v hj
                  obtain ⟨_, c', ce', fz', hb2, hv⟩ := cell_inv (hcell j v hj)
                  have hb2' : w.heap[q.block]? = some (.cells c' ce' fz') := by rw [add_block] at hb2; exact hb2
                  rw [hb'] at hb2'
                  cases hb2'
                  rw [add_off] at hv
                  exact hv
                refine ⟨q.block, q.off, css.flatten, congrArg some hq, (Array.getElem?_eq_some_iff.1 hb').1, g3, c, ce, fz, hb', ?_, hall⟩
                obtain ⟨v1, hv1⟩ : ∃ v, css.flatten[css.flatten.length - 1]? = some v := ⟨css.flatten[css.flatten.length - 1], by simp⟩
                have := (Array.getElem?_eq_some_iff.1 (hall _ _ hv1)).1
                omega
          · cases hT
        · cases hT
      · -- arrays
        rename_i m e hu
        split at hT
        · rename_i a ha
          split at hT
          · rename_i hc
            simp only [Bool.and_eq_true, Nat.beq_eq] at hc
            cases hT
            unfold DataW.trod at h
            rw [hu] at h
            simp only at h
            split at h
            rotate_left
            · cases h
            rename_i hlen
            rw [hc.2] at hlen
            rw [hc.1] at h
            rw [Option.map_eq_some_iff] at h
            obtain ⟨xs, hxs, rfl⟩ := h
            rw [List.range_eq_range'] at hxs
            obtain ⟨l, css, g1, g2, g3, g4, g5⟩ := range_lv (M := M) (f := LV (Old w) w a) (bk := bulkT a) (c := a.size) (R := fun i ds => ds = (cs.drop (i * a.size)).take a.size) (fun i y hy => by
              obtain ⟨x, k1, k2⟩ := ih _ _ ha _ _ _ hy
              exact ⟨x, _, k1, LV.length a k1, rfl, k2⟩) m 0 xs hxs
            have hfl : css.flatten = cs := by
              obtain ⟨f1, f2⟩ := flatten_get (c := a.size) fun i ds hi => (g4 i ds hi).1
              apply List.ext_getElem?
              intro j
              by_cases hj : j < m * a.size
              · have hpos : 0 < a.size := by
                  rcases Nat.eq_zero_or_pos a.size with h | h
                  · rw [h] at hj; omega
                  · exact h
                have e1 : j / a.size * a.size + j % a.size = j := Nat.div_add_mod' j a.size
                have hjl : j < css.flatten.length := by rw [f1, g2]; exact hj
                obtain ⟨v, hv⟩ : ∃ v, css.flatten[j]? = some v := ⟨css.flatten[j], by simp [hjl]⟩
                rw [hv]
                rw [← e1] at hv
                obtain ⟨ds, k1, k2⟩ := f2 (j / a.size) (j % a.size) v (Nat.mod_lt _ hpos) hv
                have k3 := (g4 _ _ k1).2
                rw [Nat.zero_add] at k3
                subst k3
                rw [List.getElem?_take, if_pos (Nat.mod_lt _ hpos), List.getElem?_drop, e1] at k2
                exact k2.symm
              · rw [List.getElem?_eq_none (by rw [f1, g2]; omega), List.getElem?_eq_none (by omega)]
            have hagg := M.agg (xs.map (·.1))
            refine ⟨l, ⟨g1, ?_⟩, by simp only [bulkT]; omega⟩
            rw [hfl] at g3
            exact g3
          · cases hT
        · cases hT
      · -- structs
        rename_i fs hu
        split at hT
        · rename_i T' hch
          split at hT
          · rename_i hc
            simp only [Nat.beq_eq] at hc
            cases hT
            unfold DataW.trod at h
            rw [hu] at h
            simp only at h
            split at h
            rotate_left
            · cases h
            rename_i hlen
            rw [Option.map_eq_some_iff] at h
            obtain ⟨xs, hxs, rfl⟩ := h
            obtain ⟨x, h1, h2⟩ := chain_lv (M := M) (g := fun t cs => DataW.trod enc P w 0 sp true fuel t cs) (S := Old w) (fun t T cs y h1 h2 => ih t T h1 fuel cs y h2) cs fs.toList 0 T xs hch hxs
            have hagg := M.agg (xs.map (·.1))
            refine ⟨x, ?_, Nat.le_trans h2 hagg⟩
            rw [List.drop_zero, List.take_of_length_le (by omega)] at h1
            exact h1
          · cases hT
        · cases hT
      · cases hT
end

end Go.Am
