/-
  A part of the proof of the statement that this claim names: for every input up to the bound, the law returns true, and the arguments read as before.
-/
import Derived.Test.YtjfgannabdaemaaGreatB2
import Derived.IntWalk
set_option linter.all false
namespace Go.Am
open Go
set_option linter.unusedVariables false
set_option linter.unusedSimpArgs false

/-! ## Small words -/

theorem br_t {R : Type} (x y : Option R) : br true x y = x := rfl
theorem br_f {R : Type} (x y : Option R) : br false x y = y := rfl
theorem lim_val : lim = 4294967296 := rfl
theorem ble_lim {n : Nat} (h : n ≤ 1048576) : Nat.ble n lim = true := Nat.ble_eq_true_of_le (by rw [lim_val]; omega)
theorem w64 {x : Int} (h : -9223372036854775808 ≤ x ∧ x ≤ 9223372036854775807) : IntKind.i64.wrap x = x := by rw [IntKind.wrap_i64]; omega
theorem idx_nat {α : Type} (l : List α) (i : Nat) : idx l (i : Int) = l[i]? := by show idxN l i = _; exact idxN_eq l i
theorem idx_lit {α : Type} (l : List α) (i : Nat) : idx l (OfNat.ofNat i) = l[i]? := idx_nat l i
theorem w_succ {i n : Nat} (hn : n ≤ 1048576) (h : i < n) : IntKind.i64.wrap ((i : Int) + 1) = ((i + 1 : Nat) : Int) := by rw [w64 (by omega)]; omega

theorem listB_refl {α : Type} {f : α → α → Bool} (h : ∀ a, f a a = true) : ∀ l : List α, listB f l l = true := by
  intro l
  induction l with
  | nil => rfl
  | cons a l ih => simp [listB, h, ih]

theorem eqB_refl : ∀ (t : Ty), t.plain = true → ∀ x : t.den, t.eqB x x = true := by
  intro t
  induction t with
  | bool => intro _ x; simp [Ty.eqB]
  | int k => intro _ x; simp [Ty.eqB]
  | str => intro _ x; simp [Ty.eqB]
  | unit => intro _ x; rfl
  | pair a b iha ihb => intro h x; simp only [Ty.plain, Bool.and_eq_true] at h; simp [Ty.eqB, iha h.1, ihb h.2]
  | arr n t ih => intro h x; exact listB_refl (ih h) x
  | sl t _ => intro h; simp [Ty.plain] at h
  | fr t _ => intro h; simp [Ty.plain] at h

/-- a scan that finds nothing -/
theorem scan {L : Nat → Int → Option (Unit ⊕ Unit)} {n : Nat} (h : ∀ (k i : Nat), i < n → L (k + 1) (i : Int) = L k ((i + 1 : Nat) : Int)) (he : ∀ k, L (k + 1) (n : Int) = some (.inr ())) :
    ∀ (d k i : Nat), i + d = n → d < k → L k (i : Int) = some (.inr ()) := by
  intro d
  induction d with
  | zero => intro k i hi hk; obtain ⟨k, rfl⟩ : ∃ m, k = m + 1 := ⟨k - 1, by omega⟩; obtain rfl : i = n := by omega
            exact he k
  | succ d ih => intro k i hi hk; obtain ⟨k, rfl⟩ : ∃ m, k = m + 1 := ⟨k - 1, by omega⟩; rw [h k i (by omega)]; exact ih k (i + 1) (by omega) (by omega)

/-- a scan that may end early -/
theorem scan_some {α : Type} {L : Nat → Int → Option α} {n : Nat} (h : ∀ (k i : Nat), i < n → L (k + 1) (i : Int) = L k ((i + 1 : Nat) : Int) ∨ ∃ r, L (k + 1) (i : Int) = some r) (he : ∀ k, ∃ r, L (k + 1) (n : Int) = some r) :
    ∀ (d k i : Nat), i + d = n → d < k → ∃ r, L k (i : Int) = some r := by
  intro d
  induction d with
  | zero => intro k i hi hk; obtain ⟨k, rfl⟩ : ∃ m, k = m + 1 := ⟨k - 1, by omega⟩; obtain rfl : i = n := by omega
            exact he k
  | succ d ih =>
    intro k i hi hk
    obtain ⟨k, rfl⟩ : ∃ m, k = m + 1 := ⟨k - 1, by omega⟩
    rcases h k i (by omega) with h | h
    · rw [h]; exact ih k (i + 1) (by omega) (by omega)
    · exact h

theorem NN_big : 10000000 ≤ NN := Nat.le_refl _

/-! ## The same -/

theorem same149 (l : List (List Int)) (hl : l.length ≤ 1048576) : F149 (l, l, ()) = some true := by
  have key : L149_0 NN l l (NN + 100) ((0 : Nat) : Int) = some (.inr ()) := by
    refine scan (n := l.length) (L := L149_0 NN l l) (fun k i hi => ?_) (fun k => ?_) l.length (NN + 100) 0 (by omega) (by have := NN_big; omega)
    · obtain ⟨x, hx⟩ : ∃ x, l[i]? = some x := ⟨l[i], by simp [hi]⟩
      rw [L149_0, ble_lim hl, br_t, decide_eq_true (by omega), br_t, idx_nat, hx]
      simp only [obind]
      rw [eqB_refl _ rfl, w_succ hl hi]
      rfl
    · rw [L149_0, ble_lim hl, br_t, decide_eq_false (by omega)]
      rfl
  rw [n149, ble_lim hl]
  simp only [br_t, bne_self_eq_false, br_f]
  rw [show (0 : Int) = ((0 : Nat) : Int) from rfl, key]
  rfl

theorem same77 (l : List (Ty.den TSense)) (hl : l.length ≤ 1048576) : F77 (l, l, ()) = some true := by
  have key : L77_0 NN l l (NN + 100) ((0 : Nat) : Int) = some (.inr ()) := by
    refine scan (n := l.length) (L := L77_0 NN l l) (fun k i hi => ?_) (fun k => ?_) l.length (NN + 100) 0 (by omega) (by have := NN_big; omega)
    · obtain ⟨x, hx⟩ : ∃ x, l[i]? = some x := ⟨l[i], by simp [hi]⟩
      rw [L77_0, ble_lim hl, br_t, decide_eq_true (by omega), br_t, idx_nat, hx]
      simp only [obind]
      rw [eqB_refl _ rfl, w_succ hl hi]
      rfl
    · rw [L77_0, ble_lim hl, br_t, decide_eq_false (by omega)]
      rfl
  rw [n77, ble_lim hl]
  simp only [br_t, bne_self_eq_false, br_f]
  rw [show (0 : Int) = ((0 : Nat) : Int) from rfl, key]
  rfl

theorem same112 (m : Ty.den TMedium) (h1 : m.1.length ≤ 1048576) (h2 : m.2.1.length ≤ 1048576) : F112 (m, m, ()) = some true := by
  have key : L112_0 NN F149 m m (NN + 100) ((0 : Nat) : Int) = some (.inr ()) := by
    refine scan (n := m.2.1.length) (L := L112_0 NN F149 m m) (fun k i hi => ?_) (fun k => ?_) m.2.1.length (NN + 100) 0 (by omega) (by have := NN_big; omega)
    · obtain ⟨x, hx⟩ : ∃ x, m.2.1[i]? = some x := ⟨m.2.1[i], by simp [hi]⟩
      rw [L112_0, ble_lim h2, br_t, decide_eq_true (by omega), br_t, idx_nat, hx]
      simp only [obind]
      rw [eqB_refl _ rfl, w_succ h2 hi]
      rfl
    · rw [L112_0, ble_lim h2, br_t, decide_eq_false (by omega)]
      rfl
  rw [n112, same149 _ h1]
  simp only [obind, Bool.not_true, br_f]
  rw [ble_lim h2]
  simp only [br_t, bne_self_eq_false, br_f]
  rw [show (0 : Int) = ((0 : Nat) : Int) from rfl, key]
  rfl

/-- a unit's lists are not too long -/
def okU (x : Ty.den TUnit) : Prop := x.1.1.1.length ≤ 1048576 ∧ x.1.1.2.1.length ≤ 1048576 ∧ x.2.2.1.length ≤ 1048576

theorem same42 (x : Ty.den TUnit) (h : okU x) : F42 (x, x, ()) = some true := by
  obtain ⟨h1, h2, h3⟩ := h
  have e76 : F76 (x.1, x.1, ()) = some true := by
    rw [n76]
    simp only [beq_self_eq_true, br_t]
    rw [same112 (x.1.1.1, x.1.1.2.1, ()) h1 h2]
    rfl
  rw [n42]
  have e76' : F76 (((x.1.1.1, (x.1.1.2.1, ())), (x.1.2.1, (x.1.2.2.1, (x.1.2.2.2.1, ())))), (((x.1.1.1, (x.1.1.2.1, ())), (x.1.2.1, (x.1.2.2.1, (x.1.2.2.2.1, ())))), ())) = some true := e76
  rw [e76']
  simp only [obind, br_t, beq_self_eq_true]
  rw [eqB_refl _ rfl, br_t, same77 _ h3]

theorem same18 (u : List (Ty.den TUnit)) (hl : u.length ≤ 1048576) (h : ∀ x ∈ u, okU x) : F18 (u, u, ()) = some true := by
  have key : L18_0 NN F42 u u (NN + 100) ((0 : Nat) : Int) = some (.inr ()) := by
    refine scan (n := u.length) (L := L18_0 NN F42 u u) (fun k i hi => ?_) (fun k => ?_) u.length (NN + 100) 0 (by omega) (by have := NN_big; omega)
    · obtain ⟨x, hx⟩ : ∃ x, u[i]? = some x := ⟨u[i], by simp [hi]⟩
      rw [L18_0, ble_lim hl, br_t, decide_eq_true (by omega), br_t, idx_nat, hx]
      simp only [obind]
      have e := same42 x (h x (List.mem_of_getElem? hx))
      have e' : F42 ((((x.1.1.1, (x.1.1.2.1, ())), (x.1.2.1, (x.1.2.2.1, (x.1.2.2.2.1, ())))), (x.2.1, (x.2.2.1, ((x.2.2.2.1.1, (x.2.2.2.1.2.1, (x.2.2.2.1.2.2.1, ()))), ())))), ((((x.1.1.1, (x.1.1.2.1, ())), (x.1.2.1, (x.1.2.2.1, (x.1.2.2.2.1, ())))), (x.2.1, (x.2.2.1, ((x.2.2.2.1.1, (x.2.2.2.1.2.1, (x.2.2.2.1.2.2.1, ()))), ())))), ())) = some true := e
      rw [e', w_succ hl hi]
      rfl
    · rw [L18_0, ble_lim hl, br_t, decide_eq_false (by omega)]
      rfl
  rw [n18, ble_lim hl]
  simp only [br_t, bne_self_eq_false, br_f]
  rw [show (0 : Int) = ((0 : Nat) : Int) from rfl, key]
  rfl

/-! ## Too much? -/

theorem great_some (u : List (Ty.den TUnit)) (hl : u.length ≤ 1048576) (h : ∀ x ∈ u, okU x) : ∃ b, F9 (u, ()) = some b := by
  have key : ∃ r, L9_0 NN u (NN + 100) ((0 : Nat) : Int) = some r := by
    refine scan_some (n := u.length) (L := L9_0 NN u) (fun k i hi => ?_) (fun k => ?_) u.length (NN + 100) 0 (by omega) (by have := NN_big; omega)
    · obtain ⟨x, hx⟩ : ∃ x, u[i]? = some x := ⟨u[i], by simp [hi]⟩
      obtain ⟨h1, h2, h3⟩ := h x (List.mem_of_getElem? hx)
      rw [L9_0, ble_lim hl, br_t, decide_eq_true (by omega), br_t, idx_nat, hx]
      simp only [obind, ble_lim h1, ble_lim h2, ble_lim h3, br_t]
      cases decide (((x.1.1.1.length : Nat) : Int) > 70) with
      | true => exact .inr ⟨_, rfl⟩
      | false =>
        rw [br_f]
        cases decide (((x.1.1.2.1.length : Nat) : Int) > 70) with
        | true => exact .inr ⟨_, rfl⟩
        | false =>
          rw [br_f]
          cases decide (((x.2.2.1.length : Nat) : Int) > 20) with
          | true => exact .inr ⟨_, rfl⟩
          | false => rw [br_f, w_succ hl hi]; exact .inl rfl
    · rw [L9_0, ble_lim hl, br_t, decide_eq_false (by omega)]
      exact ⟨_, rfl⟩
  rw [n9, ble_lim hl, br_t]
  cases decide (((u.length : Nat) : Int) > 6) with
  | true => exact ⟨_, rfl⟩
  | false =>
    rw [br_f, show (0 : Int) = ((0 : Nat) : Int) from rfl]
    obtain ⟨r, hr⟩ := key
    rw [hr]
    cases r <;> exact ⟨_, rfl⟩

end Go.Am
