/-
  A part of the proof of the statement that this claim names: for every input up to the bound, the law returns true, and the arguments read as before.
-/
import Derived.Test.YtjfgannabdaemaaGreatB4
set_option linter.all false
namespace Go.Am
open Go
set_option linter.unusedVariables false
set_option linter.unusedSimpArgs false
set_option maxRecDepth 100000

/-- a bulk that has wedged -/
abbrev wedge (a b : Bool) : Ty.den TBulk := (4, ((0, (0, (false, (0, ([], ()))))), ([], (((0, (0, (0, (0, (0, ()))))), (0, (0, ([], ((0, (0, (0, ()))), ()))))), (false, (0, (0, (0, ((0, (0, (0, ()))), (a, (b, ())))))))))))

theorem wedge10 (v : List (Ty.den TUnit)) (l : List Int) (c a b : Bool) : F10 (wedge a b, v, l, c, ()) = some (wedge false false, (v, ())) := by
  rw [n10w, n21w]; rfl
theorem wedge15 (v : List (Ty.den TUnit)) (c a b : Bool) : F15 (wedge a b, v, c, ()) = some (wedge false false, (v, ())) := by
  rw [n15w, n21w]; rfl
theorem wedge13 (a b : Bool) : F13 (wedge a b, ()) = some ([], (false, ())) := by
  rw [n13w, n21w]; rfl
theorem wedge11 (a b : Bool) : F11 (wedge a b, ()) = some false := by
  rw [n11w, n21w]; rfl

/-- the turn: it stays wedged -/
theorem turn5 (u : List (Ty.den TUnit)) (l : List (Ty.den THow)) (hl : l.length ≤ 1048576) (hm : ∀ x ∈ l, x.1.length ≤ 1048576) (v : List (Ty.den TUnit)) :
    ∀ (d k i : Nat) (a b : Bool), i + d = l.length → d < k →
      L5_0 NN F7 F9 F10 F11 F13 F15 F17 F18 u l k v (i : Int) 4 0 0 false 0 [] [] 0 0 0 0 0 0 0 [] 0 0 0 false 0 0 0 0 0 0 a b = some (Sum.inl true) ∨
      ∃ a' b', L5_0 NN F7 F9 F10 F11 F13 F15 F17 F18 u l k v (i : Int) 4 0 0 false 0 [] [] 0 0 0 0 0 0 0 [] 0 0 0 false 0 0 0 0 0 0 a b = some (Sum.inr (v, 4, 0, 0, false, 0, [], [], 0, 0, 0, 0, 0, 0, 0, [], 0, 0, 0, false, 0, 0, 0, 0, 0, 0, a', b')) := by
  intro d
  induction d with
  | zero =>
    intro k i a b hi hk
    obtain ⟨k, rfl⟩ : ∃ m, k = m + 1 := ⟨k - 1, by omega⟩
    right
    rw [L5_0, ble_lim hl, br_t, decide_eq_false (by omega), br_f]
    exact ⟨a, b, rfl⟩
  | succ d ih =>
    intro k i a b hi hk
    obtain ⟨k, rfl⟩ : ∃ m, k = m + 1 := ⟨k - 1, by omega⟩
    obtain ⟨x, hx⟩ : ∃ x, l[i]? = some x := ⟨l[i], by simp [show i < l.length by omega]⟩
    have hxl := hm x (List.mem_of_getElem? hx)
    rw [L5_0, ble_lim hl, br_t, decide_eq_true (by omega), br_t, idx_nat, hx]
    simp only [obind]
    rw [ble_lim hxl, br_t]
    by_cases h11 : x.1.length ≤ 1100
    · rw [decide_eq_false (by omega), br_f, wedge13]
      simp only
      rw [br_f, wedge11]
      simp only
      rw [br_f, wedge10]
      simp only
      rw [wedge15]
      simp only
      rw [w_succ hl (by omega)]
      exact ih k (i + 1) false false (by omega) (by omega)
    · rw [decide_eq_true (by omega), br_t]
      exact .inl rfl

/-- the row's law -/
theorem law5 (u : List (Ty.den TUnit)) (data : List Int) (l : List (Ty.den THow)) (hu : u.length ≤ 1048576) (hok : ∀ x ∈ u, okU x) (hd : data.length ≤ 1048576) (hb : bytesL data) (hl : l.length ≤ 1048576) (hm : ∀ x ∈ l, x.1.length ≤ 1048576) :
    F5 (u, data, l, ()) = some true := by
  obtain ⟨gr, hgr⟩ := great_some u hu hok
  rw [n5, show F7 () = some true from rfl]
  simp only [obind, Bool.not_true, br_f]
  rw [ble_lim hu, br_t]
  have fin : ∀ c ok, F17 (data, ((u.length : Nat) : Int), ()) = some (c, (ok, ())) → (ok = false → ∃ c, F45 (data, ((u.length : Nat) : Int), ()) = some (c, (false, ()))) → _ := fun c ok h h' => (⟨c, ok, h, h'⟩ : ∃ c ok, F17 (data, ((u.length : Nat) : Int), ()) = some (c, (ok, ())) ∧ (ok = false → ∃ c, F45 (data, ((u.length : Nat) : Int), ()) = some (c, (false, ()))))
  have both : ∃ c ok, F17 (data, ((u.length : Nat) : Int), ()) = some (c, (ok, ())) ∧ (ok = false → ∃ c, F45 (data, ((u.length : Nat) : Int), ()) = some (c, (false, ()))) := by
    rcases read_rel data ((u.length : Nat) : Int) hb hd with ⟨c, h⟩ | ⟨⟨c, h⟩, h'⟩
    · exact ⟨c, true, h, fun e => by cases e⟩
    · exact ⟨c, false, h, fun _ => h'⟩
  obtain ⟨c, ok, h17, h45⟩ := both
  rw [h17]
  simp only
  rw [hgr]
  simp only
  cases gr with
  | true => rfl
  | false =>
    rw [br_f]
    cases ok with
    | true => rfl
    | false =>
      rw [br_f, ble_lim hd, br_t]
      by_cases h1 : data.length ≤ 1100
      · rw [decide_eq_false (by omega), br_f, ble_lim hl, br_t]
        by_cases h2 : l.length ≤ 50
        · rw [decide_eq_false (by omega), br_f]
          obtain ⟨c', h45⟩ := h45 rfl
          have e10 : F10 ((0, ((0, (0, (false, (0, ([], ()))))), ([], (((0, (0, (0, (0, (0, ()))))), (0, (0, ([], ((0, (0, (0, ()))), ()))))), (false, (0, (0, (0, ((0, (0, (0, ()))), (false, (false, ()))))))))))), u, data, false, ()) = some (wedge true true, (u, ())) := by
            rw [n10z, n21z]
            simp only [obind, Bool.not_true, br_f]
            rw [ble_lim hu, br_t, h45]
            rfl
          rw [e10]
          simp only
          have ht := turn5 u l hl hm u l.length (NN + 100) 0 true true (by omega) (by have := NN_big; omega)
          rw [show ((0 : Nat) : Int) = (0 : Int) from rfl] at ht
          rcases ht with ht | ⟨a', b', ht⟩
          · rw [ht]; rfl
          · rw [ht]
            simp only [Sum.elim_inr]
            rw [same18 u hu hok]
            rfl
        · rw [decide_eq_true (by omega), br_t]
      · rw [decide_eq_true (by omega), br_t]

end Go.Am
