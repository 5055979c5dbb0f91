/-
  AM, sixth text: what is set.
-/
import Derived.Test.YtjfgannabdaemaaGreatAm4
set_option linter.all false
namespace Go.Am

/-- cs, and from o on vs in its place -/
noncomputable def over (cs : List Value) (o : Nat) (vs : List Value) : List Value := cs.take o ++ vs ++ cs.drop (o + vs.length)

theorem over_length {cs vs : List Value} {o : Nat} (h : o + vs.length ≤ cs.length) : (over cs o vs).length = cs.length := by
  simp [over]; omega

theorem over_all {cs vs : List Value} (h : vs.length = cs.length) : over cs 0 vs = vs := by
  simp [over, h]

theorem over_get {cs vs : List Value} {o j : Nat} (h : o + vs.length ≤ cs.length) : (over cs o vs)[j]? = if o ≤ j ∧ j < o + vs.length then vs[j - o]? else cs[j]? := by
  unfold over
  by_cases h1 : j < o
  · rw [if_neg (by omega), List.append_assoc, List.getElem?_append_left (by simp; omega), List.getElem?_take, if_pos h1]
  · have ht : (cs.take o).length = o := by simp; omega
    by_cases h2 : j < o + vs.length
    · rw [if_pos ⟨by omega, h2⟩, List.append_assoc, List.getElem?_append_right (by omega), ht, List.getElem?_append_left (by omega)]
    · rw [if_neg (by omega), List.getElem?_append_right (by simp; omega), List.getElem?_drop]
      congr 1
      simp
      omega

theorem over_over {cs vs : List Value} {a b n : Nat} (ha : a + n ≤ cs.length) (hb : b + vs.length ≤ n) : over cs a (over ((cs.drop a).take n) b vs) = over cs (a + b) vs := by
  have h1 : ((cs.drop a).take n).length = n := by simp; omega
  have h2 : (over ((cs.drop a).take n) b vs).length = n := by rw [over_length (by omega), h1]
  apply List.ext_getElem?
  intro j
  rw [over_get (by omega), h2, over_get (by omega)]
  by_cases h3 : a ≤ j ∧ j < a + n
  · rw [if_pos h3, over_get (by omega)]
    by_cases h4 : a + b ≤ j ∧ j < a + b + vs.length
    · rw [if_pos (by omega), if_pos h4]; congr 1; omega
    · rw [if_neg (by omega), if_neg h4, List.getElem?_take, if_pos (by omega), List.getElem?_drop]; congr 1; omega
  · rw [if_neg h3, over_get (by omega), if_neg (by omega)]

theorem over_left {c d vs : List Value} {o : Nat} (h : o + vs.length ≤ c.length) : over (c ++ d) o vs = over c o vs ++ d := by
  unfold over
  rw [List.take_append_of_le_length (by omega), List.drop_append_of_le_length (by omega)]
  simp

theorem over_right {c d vs : List Value} {o : Nat} : over (c ++ d) (c.length + o) vs = c ++ over d o vs := by
  unfold over
  rw [List.take_append, List.take_of_length_le (l := c) (by omega), Nat.add_sub_cancel_left, Nat.add_assoc, List.drop_append, List.drop_of_length_le (l := c) (by omega), Nat.add_sub_cancel_left]
  simp

section
variable {ρ : Emb} {S S' : Nat → Prop} {w : World} {H : Heap}

theorem rowsRead_sub : ∀ (t : Ty) (v : AV) (id : Nat), id ∈ rowsRead t v → id ∈ v.rows := by
  intro t
  induction t with
  | pair a b iha ihb =>
    intro v id h
    cases v <;> simp only [rowsRead, List.not_mem_nil] at h
    simp only [AV.rows, List.mem_append] at h ⊢
    exact h.imp (iha _ _) (ihb _ _)
  | sl t _ => intro v id h; cases v <;> simp only [rowsRead, List.not_mem_nil] at h; simpa [AV.rows] using h
  | _ => intro v id h; cases v <;> simp [rowsRead] at h

theorem rowsFresh_sub : ∀ (t : Ty) (v : AV) (id : Nat), id ∈ rowsFresh t v → id ∈ v.rows := by
  intro t
  induction t with
  | pair a b iha ihb =>
    intro v id h
    cases v <;> simp only [rowsFresh, List.not_mem_nil] at h
    simp only [AV.rows, List.mem_append] at h ⊢
    exact h.imp (iha _ _) (ihb _ _)
  | fr t _ => intro v id h; cases v <;> simp only [rowsFresh, List.not_mem_nil] at h; simpa [AV.rows] using h
  | _ => intro v id h; cases v <;> simp [rowsFresh] at h

theorem flat_rows : ∀ (t : Ty) (v : AV), t.flat = true → rowsRead t v = [] ∧ rowsFresh t v = [] := by
  intro t
  induction t with
  | pair a b iha ihb =>
    intro v h
    simp only [Ty.flat, Bool.and_eq_true] at h
    cases v <;> simp [rowsRead, rowsFresh, iha _ h.1, ihb _ h.2]
  | sl t _ => intro v h; simp [Ty.flat] at h
  | fr t _ => intro v h; simp [Ty.flat] at h
  | _ => intro v _; cases v <;> simp [rowsRead, rowsFresh]

theorem putD_sound (hr : ∀ id, BlkRel ρ S w H id (nthB H id)) (hS : ∀ b, S b → S' b) {v : AV} {vs : List Value} (hv : Rel ρ S w H v true vs) :
    ∀ (p : List Step) (t : Ty) {x y : t.den} {cs : List Value}, LV S w t x cs → putD H t x p v = some y →
      ((∀ id ∈ v.rows, ∀ b base, ρ id = some (b, base) → S' b) ∨ t.flat = true) →
      ∃ o, offT t p = some o ∧ o + vs.length ≤ cs.length ∧ LV S' w t y (over cs o vs) := by
  intro p
  induction p with
  | nil =>
    intro t x y cs hx hp hs
    have hp' : deep H t v = some y := by cases t <;> exact hp
    have hy : LV S' w t y vs := by
      refine deep_sound hr hS t v hv hp' ?_
      rcases hs with hs | hf
      · intro id hid
        refine hs id ?_
        rcases List.mem_append.1 hid with h | h
        · exact rowsRead_sub t v id h
        · exact rowsFresh_sub t v id h
      · obtain ⟨h1, h2⟩ := flat_rows t v hf
        rw [h1, h2]
        intro id h; simp at h
    have e1 := LV.length t hx
    have e2 := LV.length t hy
    exact ⟨0, offT_nil t, by omega, by rw [over_all (by omega)]; exact hy⟩
  | cons s p ih =>
    intro t
    induction t generalizing s with
    | pair a b _ ihb =>
      intro x y cs hx hp hs
      have hfl : (∀ id ∈ v.rows, ∀ b base, ρ id = some (b, base) → S' b) ∨ a.flat = true ∧ b.flat = true := by
        simpa [Ty.flat] using hs
      obtain ⟨c, d, rfl, h1, h2⟩ := hx
      have up : ∀ (t : Ty) {x : t.den} {cs : List Value}, LV S w t x cs → LV S' w t x cs := fun t => LV.mono hS (fun _ _ => rfl) t
      cases s with
      | idx i => simp [putD] at hp
      | fld k =>
        cases k with
        | zero =>
          simp only [putD] at hp
          split at hp
          · rename_i z hz
            simp only [Option.some.injEq] at hp
            subst hp
            obtain ⟨o, h3, h4, h5⟩ := ih a h1 hz (hfl.imp id And.left)
            exact ⟨o, by simpa [offT] using h3, by simp; omega, by rw [over_left h4]; exact ⟨_, _, rfl, h5, up b h2⟩⟩
          · simp at hp
        | succ k =>
          simp only [putD] at hp
          split at hp
          · rename_i z hz
            simp only [Option.some.injEq] at hp
            subst hp
            obtain ⟨o, h3, h4, h5⟩ := ihb (.fld k) h2 hz (hfl.imp id And.right)
            have hc := LV.length a h1
            refine ⟨a.size + o, by simp [offT, h3], by simp; omega, ?_⟩
            rw [← hc, over_right]
            exact ⟨_, _, rfl, up a h1, h5⟩
          · simp at hp
    | arr n t _ =>
      intro x y cs hx hp hs
      cases s with
      | fld k => simp [putD] at hp
      | idx i =>
        simp only [putD] at hp
        obtain ⟨z, hz, hp⟩ := obind_eq hp
        rw [idxN_eq] at hz
        split at hp
        · rename_i q hq
          simp only [Option.some.injEq] at hp
          subst hp
          obtain ⟨hn, hm⟩ := hx
          obtain ⟨h1, h2⟩ := Many.at_ LV.len hm hz
          obtain ⟨o, h3, h4, h5⟩ := ih t h1 hq (by simpa [Ty.flat] using hs)
          have hi : i < x.length := (List.getElem?_eq_some_iff.1 hz).1
          have hlen : ((cs.drop (i * t.size)).take t.size).length = t.size := by simp; omega
          have up : ∀ (t : Ty) {x : t.den} {cs : List Value}, LV S w t x cs → LV S' w t x cs := fun t => LV.mono hS (fun _ _ => rfl) t
          have hset := Many.set LV.len (hm.mono fun _ _ h => up t h) hi h5
          refine ⟨i * t.size + o, by simp [offT, hn ▸ hi, h3], by omega, ?_⟩
          rw [← over_over (n := t.size) h2 (by omega)]
          rw [setR_eq]
          refine ⟨by simp [hn], ?_⟩
          have hol : (over ((cs.drop (i * t.size)).take t.size) o vs).length = t.size := by rw [over_length (by omega), hlen]
          rw [show over cs (i * t.size) (over ((cs.drop (i * t.size)).take t.size) o vs) = cs.take (i * t.size) ++ over ((cs.drop (i * t.size)).take t.size) o vs ++ cs.drop (i * t.size + t.size) by
            conv => lhs; unfold over
            rw [show ((cs.drop (i * t.size)).take t.size).take o ++ vs ++ ((cs.drop (i * t.size)).take t.size).drop (o + vs.length) = over ((cs.drop (i * t.size)).take t.size) o vs from rfl, hol]]
          exact hset
        · simp at hp
    | _ => intro x y cs _ hp; simp [putD] at hp

theorem setFld_sound : ∀ (u : AV) (k : Nat) {x y z : AV} {cs ys : List Value}, Rel ρ S w H u true cs → u.fld k = some x → Rel ρ S w H y true ys → x.like y = true → u.setFld k y = some z →
    Rel ρ S w H z true (over cs (u.fldOff k) ys) ∧ u.like z = true ∧ (u.okIn = true → y.okIn = true → z.okIn = true) := by
  intro u
  induction u with
  | pair a b iha ihb =>
    rintro k x y z cs ys ⟨c, d, rfl, h1, h2⟩ hx hy hl hz
    have hc := Rel.length a h1
    cases k with
    | zero =>
      simp only [AV.fld, Option.some.injEq] at hx
      subst hx
      simp only [AV.setFld, Option.some.injEq] at hz
      subst hz
      have e : ys.length = c.length := by rw [Rel.length y hy, hc]; exact (like_spec _ _ hl).1.symm
      simp only [AV.fldOff]
      rw [over_left (by omega), over_all e]
      exact ⟨⟨_, _, rfl, hy, h2⟩, by simp [AV.like, hl, like_refl], fun h1 h2 => by simp only [AV.okIn, Bool.and_eq_true] at h1 ⊢; exact ⟨h2, h1.2⟩⟩
    | succ k =>
      simp only [AV.fld] at hx
      simp only [AV.setFld] at hz
      split at hz
      · rename_i q hq
        simp only [Option.some.injEq] at hz
        subst hz
        obtain ⟨h3, h4, h5⟩ := ihb k h2 hx hy hl hq
        simp only [AV.fldOff]
        rw [← hc, over_right]
        exact ⟨⟨_, _, rfl, h1, h3⟩, by simp [AV.like, h4, like_refl], fun g1 g2 => by simp only [AV.okIn, Bool.and_eq_true] at g1 ⊢; exact ⟨g1.1, h5 g1.2 g2⟩⟩
      · simp at hz
  | _ => intro k x y z cs ys _ hx; simp [AV.fld] at hx

theorem fld_okIn : ∀ (u : AV) (k : Nat) {x : AV}, u.fld k = some x → u.okIn = true → x.okIn = true := by
  intro u
  induction u with
  | pair a b _ ihb =>
    intro k x hx h
    simp only [AV.okIn, Bool.and_eq_true] at h
    cases k with
    | zero => simp only [AV.fld, Option.some.injEq] at hx; subst hx; exact h.1
    | succ k => exact ihb k hx h.2
  | _ => intro k x hx; simp [AV.fld] at hx

theorem storable_okIn {v : AV} (h : v.storable = true) : v.okIn = true := by cases v <;> first | exact h | (simp [AV.storable] at h)

theorem like_symm : ∀ (u v : AV), u.like v = true → v.like u = true := by
  intro u
  induction u with
  | pair a b iha ihb => intro v h; cases v <;> simp [AV.like, AV.isAgg] at h ⊢; exact ⟨iha _ h.1, ihb _ h.2⟩
  | dar n t l =>
    intro v h
    cases v <;> simp [AV.like, AV.isAgg] at h ⊢
    obtain ⟨rfl, h2⟩ := h
    obtain rfl := Ty.same_eq h2
    exact ⟨rfl, Ty.same_refl _⟩
  | _ => intro v h; cases v <;> simp [AV.like, AV.isAgg] at h ⊢

theorem put_sound (hr : ∀ id, BlkRel ρ S w H id (nthB H id)) {v : AV} {vs : List Value} (hv : Rel ρ S w H v true vs) :
    ∀ (p : List Step) (u : AV) {y : AV} {cs : List Value}, Rel ρ S w H u true cs → u.put H p v = some y →
      ∃ o, offA u p = some o ∧ o + vs.length ≤ cs.length ∧ Rel ρ S w H y true (over cs o vs) ∧ u.like y = true ∧ (u.okIn = true → y.okIn = true) := by
  intro p
  induction p with
  | nil =>
    intro u y cs hu hp
    have hp' : (match u.like v && v.storable with | true => some v | false => none) = some y := by cases u <;> exact hp
    split at hp'
    · rename_i hb
      simp only [Bool.and_eq_true] at hb
      simp only [Option.some.injEq] at hp'
      subst hp'
      have e1 := Rel.length u hu
      have e2 := Rel.length v hv
      have e3 := (like_spec u v hb.1).1
      exact ⟨0, offA_nil u, by omega, by rw [over_all (by omega)]; exact hv, hb.1, fun _ => storable_okIn hb.2⟩
    · simp at hp'
  | cons s p ih =>
    intro u y cs hu hp
    cases s with
    | fld k =>
      have hp' : (match u.fld k with | some x => (match x.put H p v with | some y => u.setFld k y | none => none) | none => none) = some y := by cases u <;> exact hp
      cases hx : u.fld k with
      | none => rw [hx] at hp'; simp at hp'
      | some x =>
        rw [hx] at hp'
        simp only at hp'
        cases hz : x.put H p v with
        | none => rw [hz] at hp'; simp at hp'
        | some z =>
          rw [hz] at hp'
          simp only at hp'
          obtain ⟨h1, h2⟩ := hu.fld u k hx
          obtain ⟨o, h3, h4, h5, h6, h7⟩ := ih x h2 hz
          obtain ⟨g1, g2, g3⟩ := setFld_sound u k hu hx h5 h6 hp'
          have hlen : ((cs.drop (u.fldOff k)).take x.size).length = x.size := by simp; omega
          refine ⟨u.fldOff k + o, by rw [offA_fld, hx]; simp [h3], by omega, ?_, g2, fun h => g3 h (h7 (fld_okIn u k hx h))⟩
          rw [over_over h1 (by omega)] at g1
          exact g1
    | idx i =>
      cases u <;> try (simp [AV.put] at hp; done)
      rename_i n t l
      simp only [AV.put] at hp
      split at hp
      · rename_i hf
        obtain ⟨x, hx, hp⟩ := obind_eq hp
        split at hp
        · rename_i z hz
          simp only [Option.some.injEq] at hp
          subst hp
          have hpd : putD H (.arr n t) l (.idx i :: p) v = some (setR l i z) := by simp only [putD]; unfold obind; rw [hx]; simp only [hz]
          obtain ⟨o, h3, h4, h5⟩ := putD_sound hr (fun _ h => h) hv (.idx i :: p) (.arr n t) hu hpd (.inr (by simpa [Ty.flat] using hf))
          exact ⟨o, h3, h4, h5, by simp [AV.like, Ty.same_refl], fun _ => rfl⟩
        · simp at hp
      · simp at hp

end
end Go.Am
