/-
  AM, fifth text: blocks, deep reading, places: what is read and what is set.
-/
import Derived.Test.YtjfgannabdaemaaGreatAm3
set_option linter.all false
namespace Go.Am

/-- block b bears cs from 'base' on, and may be written from there to its end -/
def Own (w : World) (b base : Nat) (cs : List Value) : Prop :=
  ∃ c e lo hi, w.heap[b]? = some (.cells c e (lo, hi)) ∧ base + cs.length ≤ c.size ∧ (∀ j v, cs[j]? = some v → c[base + j]? = some v) ∧ (lo = hi ∨ c.size ≤ lo)

theorem Own.has {w : World} {b base : Nat} {cs : List Value} (h : Own w b base cs) : Has w b base cs := by
  obtain ⟨c, e, lo, hi, h1, h2, h3, _⟩ := h
  exact ⟨c, e, _, h1, h2, h3⟩

/-- a value of Go's that is deep -/
def LVv (S : Nat → Prop) (w : World) (t : Ty) (x : t.den) (v : Value) : Prop :=
  match (inj t x).isAgg with
  | true => ∃ c, v = .agg c.toArray ∧ LV S w t x c
  | false => LV S w t x [v]

def All2 {α β : Type} (f : α → β → Prop) : List α → List β → Prop
  | [], [] => True
  | a :: l, b :: m => f a b ∧ All2 f l m
  | _, _ => False

def BlkRel (ρ : Emb) (S : Nat → Prop) (w : World) (H : Heap) (id : Nat) : Option Blk → Prop
  | none => ρ id = none
  | some (.var v frz) => ∃ b base cs, ρ id = some (b, base) ∧ Rel ρ S w H v true cs ∧ v.okIn = true ∧ Own w b base cs ∧ (frz = false → ¬ S b) ∧ (frz = true → S b)
  | some (.row t l frz real) => (∃ b base cs, ρ id = some (b, base) ∧ Many (LV S w t) l cs ∧ Own w b base cs ∧ (frz = false → ¬ S b) ∧ (frz = true → S b)) ∨
      (ρ id = none ∧ l = [] ∧ real = false)
  | some (.mp k v l) => ∃ b es clock, ρ id = some (b, 0) ∧ ¬ S b ∧ w.heap[b]? = some (.map es clock) ∧
      All2 (fun (p : k.den × v.den) (e : MapEntry) => LVv S w k p.1 e.key ∧ LVv S w v p.2 e.val) l es.toList
  | some (.iter ..) => False

section
variable {ρ : Emb} {S S' : Nat → Prop} {w w' : World} {H : Heap}

theorem castL_eq {a b : Ty} {l : List a.den} {m : List b.den} (h : Ty.castL a b l = some m) : ∃ e : a = b, e ▸ l = m := by
  unfold Ty.castL at h
  split at h
  · rename_i hs
    exact ⟨Ty.same_eq hs, by simpa using h⟩
  · simp at h

theorem castL_many {a b : Ty} {l : List a.den} {m : List b.den} (h : Ty.castL a b l = some m) {cs : List Value} (hm : Many (LV S w a) l cs) : Many (LV S w b) m cs := by
  obtain ⟨rfl, rfl⟩ := castL_eq h
  exact hm

theorem castL_length {a b : Ty} {l : List a.den} {m : List b.den} (h : Ty.castL a b l = some m) : m.length = l.length := by
  obtain ⟨rfl, rfl⟩ := castL_eq h
  rfl

theorem castL_elems {a b : Ty} {l : List a.den} {m : List b.den} (h : Ty.castL a b l = some m) {x : Option Addr} (hm : Elems S w (LV S w a) l x) : Elems S w (LV S w b) m x := by
  obtain ⟨rfl, rfl⟩ := castL_eq h
  exact hm

/-- a part of a row, as a slice's elements -/
theorem Has.part {b o : Nat} {cs : List Value} (h : Has w b o cs) (i n : Nat) (hi : i + n ≤ cs.length) : Has w b (o + i) ((cs.drop i).take n) := by
  obtain ⟨c, e, fz, h1, h2, h3⟩ := h
  refine ⟨c, e, fz, h1, by simp; omega, fun j v hj => ?_⟩
  have : cs[i + j]? = some v := by
    rw [List.getElem?_take] at hj
    split at hj
    · simpa using hj
    · simp at hj
  have := h3 _ _ this
  rwa [Nat.add_assoc]

theorem LV.len {t : Ty} : ∀ (a : t.den) (c : List Value), LV S w t a c → c.length = t.size := fun _ _ h => LV.length t h

theorem take_drop_all {α : Type} (l : List α) (i : Nat) : (l.drop i).take (l.length - i) = l.drop i := List.take_of_length_le (by simp)

theorem deep_sound (hr : ∀ id, BlkRel ρ S w H id (nthB H id)) (hS : ∀ b, S b → S' b) :
    ∀ (t : Ty) (v : AV) {x : t.den} {cs : List Value}, Rel ρ S w H v true cs → deep H t v = some x →
      (∀ id ∈ rowsRead t v ++ rowsFresh t v, ∀ b base, ρ id = some (b, base) → S' b) → LV S' w t x cs := by
  have up : ∀ (t : Ty) {x : t.den} {cs : List Value}, LV S w t x cs → LV S' w t x cs := fun t => LV.mono hS (fun _ _ => rfl) t
  have row : ∀ (t : Ty) (id : Nat) (l : List t.den) (off len cap : Nat) (full : Bool) (a : Option Addr), rowOf H id t = some l → InRow ρ w H id off len full a cap →
      (∀ b base, ρ id = some (b, base) → S' b) →
      ((l.drop off).take len).length = len ∧ len ≤ cap ∧ (full = true → (l.drop off).take len = l.drop off) ∧ off + len ≤ l.length ∧ Elems S' w (LV S' w t) ((l.drop off).take len) a := by
    intro t id l off len cap full a hl hin hs
    unfold rowOf at hl
    split at hl
    · rename_i u m frz real hb
      have hbr := hr id
      rw [hb] at hbr
      obtain ⟨t', n, r, hi, h1, h2, h3⟩ := hin
      have hi' : rowInfo H id = some (u, m.length, real) := by unfold rowInfo; rw [hb]
      rw [hi'] at hi
      obtain ⟨rfl, rfl, rfl⟩ : u = t' ∧ m.length = n ∧ real = r := by simpa using hi
      have hlen := castL_length hl
      have hl2 : ((l.drop off).take len).length = len := by simp; omega
      refine ⟨hl2, ?_, ?_, by omega, ?_⟩
      · rcases h3 with ⟨b, base, c, e, fz, _, _, _, _, _, h5⟩ | ⟨_, h4, h5, _⟩ <;> omega
      · intro hf
        have := h2 hf
        rw [show len = l.length - off by omega]
        exact take_drop_all l off
      · by_cases h0 : (l.drop off).take len = []
        · exact .inl h0
        · have hn0 : 0 < len := by
            rcases Nat.eq_zero_or_pos len with h | h
            · subst h; simp at h0
            · exact h
          rcases h3 with ⟨b, base, c, e, fz, hρ, ha, _, hc, h4, h5⟩ | ⟨_, h4, _⟩
          · rcases hbr with ⟨b', base', cs, hρ', hm, ho, _, _⟩ | ⟨hn, h6, _⟩
            · rw [hρ] at hρ'
              obtain ⟨rfl, rfl⟩ : b = b' ∧ base = base' := by simpa using hρ'
              have hm' := castL_many hl hm
              obtain ⟨ht, -⟩ := castL_eq hl
              have hsz : u.size = t.size := by rw [ht]
              have hcl := Many.length (n := t.size) LV.len hm'
              rw [hsz] at ha
              have ha := ha (by omega)
              refine .inr ⟨b, base + off * t.size, (cs.drop (off * t.size)).take (len * t.size), ha, hs b base hρ, ?_, ?_⟩
              · exact (Many.take LV.len len (Many.drop LV.len off hm')).mono fun _ _ h => up t h
              · refine ho.has.part _ _ ?_
                rw [hcl, ← Nat.add_mul]
                exact Nat.mul_le_mul_right _ (by omega)
            · rw [hρ] at hn; cases hn
          · omega
    · simp at hl
  intro t
  induction t with
  | bool => intro v x cs h hd _; cases v <;> simp [deep] at hd; subst hd; exact up .bool h
  | int k =>
    intro v x cs h hd _
    cases v <;> simp [deep] at hd
    split at hd
    · rename_i hk
      obtain rfl := kindB_eq hk
      simp only [Option.some.injEq] at hd
      subst hd
      exact up (.int k) h
    · simp at hd
  | str => intro v x cs h hd _; cases v <;> simp [deep] at hd; subst hd; exact up .str h
  | unit => intro v x cs h hd _; cases v <;> simp [deep] at hd; exact h
  | pair a b iha ihb =>
    intro v x cs h hd hs
    cases v <;> simp only [deep] at hd <;> try (simp at hd; done)
    rename_i p q
    split at hd
    · rename_i y hy
      split at hd
      · rename_i z hz
        simp only [Option.some.injEq] at hd
        subst hd
        obtain ⟨c, d, rfl, h1, h2⟩ := h
        refine ⟨c, d, rfl, iha p h1 hy fun id hid => hs id ?_, ihb q h2 hz fun id hid => hs id ?_⟩ <;>
          simp only [rowsRead, rowsFresh, List.mem_append] at hid ⊢ <;> (rcases hid with h | h <;> simp [h])
      · simp at hd
    · simp at hd
  | arr n t ih =>
    intro v x cs h hd _
    cases v <;> simp only [deep] at hd <;> try (simp at hd; done)
    split at hd
    · rename_i hn
      obtain rfl := Nat.eq_of_beq_eq_true hn
      obtain ⟨h1, h2⟩ := h
      exact ⟨(castL_length hd).trans h1, (castL_many hd h2).mono fun _ _ h => up t h⟩
    · simp at hd
  | sl t _ =>
    intro v x cs h hd hs
    cases v <;> simp only [deep] at hd <;> try (simp at hd; done)
    · simp only [Option.some.injEq] at hd
      subst hd
      obtain rfl : cs = [.slice none 0 0] := h
      exact ⟨none, 0, rfl, Nat.le_refl _, .inl rfl⟩
    · obtain ⟨a, cap, rfl, h1, _, h3⟩ := h
      have hl := castL_length hd
      exact ⟨a, cap, by rw [hl], by rw [hl]; exact h1, (castL_elems hd h3).mono hS (fun _ _ => rfl) fun _ _ h => up t h⟩
    · rename_i id off len full
      obtain ⟨a, cap, rfl, hin⟩ := h
      split at hd
      · rename_i l hl
        obtain ⟨e1, e2, e3, e4, e5⟩ := row t id l off len cap full a hl hin (hs id (by simp [rowsRead]))
        split at hd
        · simp only [Option.some.injEq] at hd
          rw [← e3 rfl] at hd
          subst hd
          exact ⟨a, cap, by rw [e1], by rw [e1]; exact e2, e5⟩
        · simp only [Option.some.injEq] at hd
          subst hd
          exact ⟨a, cap, by rw [e1], by rw [e1]; exact e2, e5⟩
      · simp at hd
  | fr t _ =>
    intro v x cs h hd hs
    cases v <;> try (simp [deep] at hd; done)
    · simp only [deep, Option.some.injEq] at hd
      subst hd
      obtain rfl : cs = [.slice none 0 0] := h
      exact ⟨none, 0, rfl, Nat.le_refl _, .inl rfl⟩
    · rename_i id off len full
      cases off with
      | succ n => simp [deep] at hd
      | zero =>
        cases full with
        | false => simp [deep] at hd
        | true =>
          simp only [deep] at hd
          obtain ⟨a, cap, rfl, hin⟩ := h
          obtain ⟨e1, e2, e3, e4, e5⟩ := row t id x 0 len cap true a hd hin (hs id (by simp [rowsFresh]))
          have e := e3 rfl
          rw [List.drop_zero] at e e1 e5
          rw [e] at e1 e5
          exact ⟨a, cap, by rw [e1], by rw [e1]; exact e2, e5⟩

theorem Ty.same_refl : ∀ t : Ty, t.same t = true := by
  intro t
  induction t with
  | int k => cases k <;> rfl
  | pair a b iha ihb => simp [Ty.same, iha, ihb]
  | arr n t ih => simp [Ty.same, ih]
  | sl t ih => exact ih
  | fr t ih => exact ih
  | _ => rfl

theorem size_inj : ∀ (t : Ty) (x : t.den), (inj t x).size = t.size := by
  intro t
  induction t with
  | pair a b iha ihb => intro x; simp [inj, AV.size, Ty.size, iha, ihb]
  | _ => intro x; rfl

theorem like_spec : ∀ (u v : AV), u.like v = true → u.size = v.size ∧ u.isAgg = v.isAgg ∧ (∀ k, (u.fld k).isSome = (v.fld k).isSome ∧ u.fldOff k = v.fldOff k ∧ ∀ x y, u.fld k = some x → v.fld k = some y → x.like y = true) := by
  intro u
  induction u with
  | pair a b iha ihb =>
    intro v h
    cases v <;> try (simp [AV.like, AV.isAgg] at h; done)
    rename_i c d
    simp only [AV.like, Bool.and_eq_true] at h
    obtain ⟨h1, _, h3⟩ := iha c h.1
    obtain ⟨g1, _, g3⟩ := ihb d h.2
    refine ⟨by simp [AV.size, h1, g1], rfl, fun k => ?_⟩
    cases k with
    | zero => exact ⟨rfl, rfl, fun x y hx hy => by simp only [AV.fld, Option.some.injEq] at hx hy; subst hx; subst hy; exact h.1⟩
    | succ k =>
      obtain ⟨e1, e2, e3⟩ := g3 k
      exact ⟨e1, by simp [AV.fldOff, h1, e2], e3⟩
  | unit =>
    intro v h
    cases v <;> first
      | (simp [AV.like, AV.isAgg] at h; done)
      | exact ⟨rfl, rfl, fun k => ⟨rfl, rfl, fun x y hx _ => by simp [AV.fld] at hx⟩⟩
  | dar n t l =>
    intro v h
    cases v <;> try (simp [AV.like, AV.isAgg] at h; done)
    simp only [AV.like, Bool.and_eq_true] at h
    obtain rfl := Nat.eq_of_beq_eq_true h.1
    obtain rfl := Ty.same_eq h.2
    exact ⟨rfl, rfl, fun k => ⟨rfl, rfl, fun x y hx _ => by simp [AV.fld] at hx⟩⟩
  | _ =>
    intro v h
    cases v <;> first
      | (simp [AV.like, AV.isAgg] at h; done)
      | exact ⟨rfl, rfl, fun k => ⟨rfl, rfl, fun x y hx _ => by simp [AV.fld] at hx⟩⟩

theorem like_off : ∀ (p : List Step) (u v : AV), u.like v = true → offA u p = offA v p := by
  intro p
  induction p with
  | nil => intro u v _; cases u <;> cases v <;> rfl
  | cons s p ih =>
    intro u v h
    obtain ⟨_, _, h3⟩ := like_spec u v h
    cases s with
    | fld k =>
      obtain ⟨e1, e2, e3⟩ := h3 k
      have eu : offA u (.fld k :: p) = match u.fld k with | some x => (offA x p).map (u.fldOff k + ·) | none => none := by cases u <;> rfl
      have ev : offA v (.fld k :: p) = match v.fld k with | some x => (offA x p).map (v.fldOff k + ·) | none => none := by cases v <;> rfl
      rw [eu, ev]
      cases hu : u.fld k with
      | none =>
        cases hv : v.fld k with
        | none => rfl
        | some y => rw [hu, hv] at e1; simp at e1
      | some x =>
        cases hv : v.fld k with
        | none => rw [hu, hv] at e1; simp at e1
        | some y => simp only [e2, ih _ _ (e3 _ _ hu hv)]
    | idx i =>
      cases u <;> cases v <;> first
        | rfl
        | (simp [AV.like, AV.isAgg] at h; done)
        | (simp only [AV.like, Bool.and_eq_true] at h; obtain rfl := Nat.eq_of_beq_eq_true h.1; obtain rfl := Ty.same_eq h.2; rfl)

theorem like_refl : ∀ u : AV, u.like u = true := by
  intro u
  induction u with
  | pair a b iha ihb => simp [AV.like, iha, ihb]
  | dar n t l => simp [AV.like, Ty.same_refl]
  | _ => rfl

theorem offA_fld (u : AV) (k : Nat) (p : List Step) : offA u (.fld k :: p) = match u.fld k with | some x => (offA x p).map (u.fldOff k + ·) | none => none := by cases u <;> rfl

theorem offA_nil (u : AV) : offA u [] = some 0 := by cases u <;> rfl

theorem offT_nil (t : Ty) : offT t [] = some 0 := by cases t <;> rfl

theorem map_zero_add (o : Option Nat) : o.map (0 + ·) = o := by cases o <;> simp

theorem off_inj : ∀ (p : List Step) (t : Ty) (x : t.den), offA (inj t x) p = offT t p := by
  intro p
  induction p with
  | nil => intro t x; rw [offA_nil, offT_nil]
  | cons s p ih =>
    intro t x
    cases s with
    | idx i => cases t <;> rfl
    | fld k =>
      induction t generalizing k with
      | pair a b _ ihb =>
        cases k with
        | zero =>
          rw [offA_fld]
          simp only [inj, AV.fld, AV.fldOff]
          rw [map_zero_add, ih]
          cases p <;> simp [offT, offT_nil]
        | succ k =>
          have := ihb x.2 k
          rw [offA_fld] at this
          rw [offA_fld]
          simp only [inj, AV.fld, AV.fldOff, offT] at this ⊢
          rw [← this]
          cases (inj b x.2).fld k with
          | none => rfl
          | some u => simp only [Option.map_map, size_inj]; congr 1; funext n; simp [Nat.add_assoc]
      | _ => rw [offA_fld]; simp [inj, AV.fld, offT]

/-- a field, in the cells -/
theorem Rel.fld : ∀ (v : AV) (k : Nat) {u : AV} {cs : List Value}, Rel ρ S w H v true cs → v.fld k = some u → v.fldOff k + u.size ≤ cs.length ∧ Rel ρ S w H u true ((cs.drop (v.fldOff k)).take u.size) := by
  intro v
  induction v with
  | pair a b iha ihb =>
    rintro k u cs ⟨c, d, rfl, h1, h2⟩ hf
    have hc := Rel.length a h1
    cases k with
    | zero =>
      simp only [AV.fld, Option.some.injEq] at hf
      subst hf
      simp only [AV.fldOff, List.drop_zero, List.length_append]
      exact ⟨by omega, by rw [← hc, List.take_append_of_le_length (Nat.le_refl _), List.take_length]; exact h1⟩
    | succ k =>
      obtain ⟨h3, h4⟩ := ihb k h2 hf
      simp only [AV.fldOff, List.length_append]
      refine ⟨by omega, ?_⟩
      rw [← hc, List.drop_append, List.drop_of_length_le (l := c) (by omega), List.nil_append, Nat.add_sub_cancel_left]
      exact h4
  | _ => intro k u cs _ hf; simp [AV.fld] at hf

theorem take_drop_comp {α : Type} (l : List α) (o n i m : Nat) (h : i + m ≤ n) : (((l.drop o).take n).drop i).take m = (l.drop (o + i)).take m := by
  rw [List.drop_take, List.take_take, List.drop_drop, Nat.min_eq_left (by omega)]

theorem obind_eq {α R : Type} {x : Option α} {k : α → Option R} {r : R} (h : obind x k = some r) : ∃ a, x = some a ∧ k a = some r := by
  unfold obind at h
  cases x with
  | none => simp at h
  | some a => exact ⟨a, rfl, h⟩

theorem Rel.get : ∀ (p : List Step) (v : AV) {u : AV} {cs : List Value}, Rel ρ S w H v true cs → v.get H p = some u →
    ∃ o, offA v p = some o ∧ o + u.size ≤ cs.length ∧ Rel ρ S w H u true ((cs.drop o).take u.size) := by
  intro p
  induction p with
  | nil =>
    intro v u cs h hg
    have : v = u := by cases v <;> simpa [AV.get] using hg
    subst this
    have := Rel.length v h
    exact ⟨0, offA_nil v, by omega, by rw [List.drop_zero, ← this, List.take_length]; exact h⟩
  | cons s p ih =>
    intro v u cs h hg
    cases s with
    | fld k =>
      have hg' : (match v.fld k with | some x => x.get H p | none => none) = some u := by cases v <;> exact hg
      cases hx : v.fld k with
      | none => rw [hx] at hg'; simp at hg'
      | some x =>
        rw [hx] at hg'
        obtain ⟨h1, h2⟩ := h.fld v k hx
        obtain ⟨o, h3, h4, h5⟩ := ih x h2 hg'
        have hlen : ((cs.drop (v.fldOff k)).take x.size).length = x.size := by simp; omega
        refine ⟨v.fldOff k + o, by rw [offA_fld, hx]; simp [h3], by omega, ?_⟩
        rw [take_drop_comp _ _ _ _ _ (by omega)] at h5
        exact h5
    | idx i =>
      cases v <;> try (simp [AV.get] at hg; done)
      rename_i n t l
      simp only [AV.get] at hg
      obtain ⟨x, hx, hg⟩ := obind_eq hg
      rw [idxN_eq] at hx
      obtain ⟨hn, hm⟩ := h
      obtain ⟨h1, h2⟩ := Many.at_ LV.len hm hx
      obtain ⟨o, h3, h4, h5⟩ := ih (Am.inj t x) (Rel.inj (ρ := ρ) (H := H) t h1) hg
      rw [off_inj] at h3
      have hi : i < n := by have := (List.getElem?_eq_some_iff.1 hx).1; omega
      have hlen : ((cs.drop (i * t.size)).take t.size).length = t.size := by simp; omega
      refine ⟨i * t.size + o, by simp [offA, hi, h3], by omega, ?_⟩
      rw [take_drop_comp _ _ _ _ _ (by omega)] at h5
      exact h5

end

end Go.Am
