/-
  AM, ninth text: operations that only compute, or read.
-/
import Derived.Test.YtjfgannabdaemaaGreatAm7
set_option linter.all false
namespace Go.Am

def ex (ρ : Operand → Value) (op : Op) (ty : TypeId) : Sem Next := execOp ρ ⟨none, op, ty, "", #[], none⟩

theorem ex_eq (ρ : Operand → Value) (o : Oper) : execOp ρ o = ex ρ o.op o.type := by
  obtain ⟨dst, op, ty, pos, after, guard⟩ := o
  cases op <;> rfl

variable {R : Type} {P : Program} {N : Nat} {Hd S0 : Nat → Prop} {w0 : World} {ρ : Emb} {S : Nat → Prop} {st : St} {a : Act} {sv : List Value} {w : World} {H : Heap}

/-- what an operation comes to -/
def OpOK (P : Program) (N : Nat) (Hd S0 : Nat → Prop) (w0 : World) (sv : List Value) (a : Act) (op : Op) (ty : TypeId) (w : World) (K : AV → St → Option R) (r : R) : Prop :=
  ∃ v st' ρ' S' cv w', K v st' = some r ∧ ((ex a.eval op ty).run P w = .ok (.value cv) w' ∨ ((ex a.eval op ty).run P w = .ok .skip w' ∧ cv = undef)) ∧
    Sim N Hd S0 w0 ρ' S' st' a sv w' ∧ VR ρ' S' w' st'.heap v cv

theorem br_cases {c : Bool} {x y : Option R} {r : R} (h : br c x y = some r) : (c = true ∧ x = some r) ∨ (c = false ∧ y = some r) := by
  cases c
  · exact .inr ⟨rfl, h⟩
  · exact .inl ⟨rfl, h⟩

theorem agree_both {x y : Option R} {r : R} (h : agree x y = some r) : x = some r ∧ y = some r := by
  unfold agree at h
  split at h
  · rename_i e; exact ⟨h, e ▸ h⟩
  · cases h

/-- a pure operation -/
theorem OpOK.pure {op : Op} {ty : TypeId} {K : AV → St → Option R} {r : R} (h : Sim N Hd S0 w0 ρ S st a sv w) {v : AV} {cv : Value} (hk : K v st = some r) (he : (ex a.eval op ty).run P w = .ok (.value cv) w)
    (hv : VR ρ S w st.heap v cv) : OpOK P N Hd S0 w0 sv a op ty w K r :=
  ⟨v, st, ρ, S, cv, w, hk, .inl he, h, hv⟩

theorem VR.int_inv {k : IntKind} {n : Int} {v : Value} (h : VR ρ S w H (.int k n) v) : v = .int k n ∧ k.min ≤ n ∧ n ≤ k.max := by
  have := VR.rel rfl (by simp) h
  obtain ⟨h1, h2⟩ := this
  exact ⟨by simpa using h1, h2⟩

theorem VR.bool_inv {b : Bool} {v : Value} (h : VR ρ S w H (.bool b) v) : v = .bool b := by
  have : [v] = [Value.bool b] := VR.rel rfl (by simp) h
  simpa using this

theorem VR.str_inv {s : List Int} {v : Value} (h : VR ρ S w H (.str s) v) : v = .string (strVal s) ∧ ∀ n ∈ s, byteB n := by
  obtain ⟨h1, h2⟩ := VR.rel rfl (by simp) h
  exact ⟨by simpa using h1, h2⟩

theorem VR.bool_mk (b : Bool) : VR ρ S w H (.bool b) (.bool b) := VR.of_rel rfl rfl

theorem VR.int_mk {k : IntKind} {n : Int} (h : k.min ≤ n ∧ n ≤ k.max) : VR ρ S w H (.int k n) (.int k n) := VR.of_rel rfl ⟨rfl, h⟩

theorem wrap_range (k : IntKind) (n : Int) : k.min ≤ k.wrap n ∧ k.wrap n ≤ k.max := by
  unfold IntKind.wrap IntKind.min IntKind.max
  cases k <;> simp [IntKind.signed, IntKind.bits] <;> (try split) <;> omega

theorem minmax_zero (k : IntKind) : k.min ≤ 0 ∧ 0 ≤ k.max := by cases k <;> decide

theorem tmod_range {k : IntKind} {x y : Int} (hx : k.min ≤ x ∧ x ≤ k.max) (_hy : y ≠ 0) : k.min ≤ x.tmod y ∧ x.tmod y ≤ k.max := by
  have h0 := minmax_zero k
  have ha : (x.tmod y).natAbs ≤ x.natAbs := by rw [Int.natAbs_tmod]; exact Nat.mod_le _ _
  rcases Int.le_total 0 x with h | h
  · have h1 := Int.tmod_nonneg y h
    omega
  · have h1 : 0 ≤ (-x).tmod y := Int.tmod_nonneg y (by omega)
    rw [Int.neg_tmod] at h1
    omega

theorem fdiv_range {k : IntKind} {x : Int} (m : Nat) (hx : k.min ≤ x ∧ x ≤ k.max) : k.min ≤ x.fdiv (2 ^ m) ∧ x.fdiv (2 ^ m) ≤ k.max := by
  have h0 := minmax_zero k
  have hp : (1 : Int) ≤ 2 ^ m := by
    have : 0 < (2 : Int) ^ m := Int.pow_pos (by decide)
    omega
  rw [Int.fdiv_eq_ediv_of_nonneg _ (by omega)]
  rcases Int.le_total 0 x with h | h
  · have h1 : 0 ≤ x / 2 ^ m := Int.ediv_nonneg h (by omega)
    have h2 : x / 2 ^ m ≤ x := Int.ediv_le_self _ h
    omega
  · have h1 : x / 2 ^ m ≤ 0 := by
      have := Int.ediv_le_ediv (c := 2 ^ m) (by omega) h
      simpa using this
    have h2 : x ≤ x / 2 ^ m := by
      have e := Int.mul_ediv_add_emod x (2 ^ m)
      have e2 := Int.emod_nonneg x (b := 2 ^ m) (by omega)
      rw [Int.le_ediv_iff_mul_le (by omega)]
      have : x * 2 ^ m ≤ x * 1 := Int.mul_le_mul_of_nonpos_left h hp
      omega
    omega

section ints
theorem intOp_sound {t : TypeId} {op : BinOp} {k : IntKind} {x y : Int} {K : AV → Option R} {r : R} (hx : k.min ≤ x ∧ x ≤ k.max) (h : intOp op k x y K = some r) (hs : op ≠ .shl) (hs' : op ≠ .shr) :
    ∃ v cv, K v = some r ∧ (binOp op t (.int k x) (.int k y)).run P w = .ok cv w ∧ VR ρ S w H v cv := by
  cases op <;> simp only [intOp] at h <;> try (first | exact absurd rfl hs | exact absurd rfl hs')
  case add => exact ⟨_, _, h, by simp [binOp, Op.intArith], VR.int_mk (wrap_range _ _)⟩
  case sub => exact ⟨_, _, h, by simp [binOp, Op.intArith], VR.int_mk (wrap_range _ _)⟩
  case mul => exact ⟨_, _, h, by simp [binOp, Op.intArith], VR.int_mk (wrap_range _ _)⟩
  case quo =>
    rcases br_cases h with ⟨_, h⟩ | ⟨h0, h⟩
    · cases h
    · have h0 : y ≠ 0 := by simpa using h0
      exact ⟨_, _, h, by simp [binOp, Op.intDiv, h0], VR.int_mk (wrap_range _ _)⟩
  case rem =>
    rcases br_cases h with ⟨_, h⟩ | ⟨h0, h⟩
    · cases h
    · have h0 : y ≠ 0 := by simpa using h0
      exact ⟨_, _, h, by simp [binOp, Op.intDiv, h0], VR.int_mk (tmod_range hx h0)⟩
  case eql => exact ⟨_, _, h, by simp [binOp, Op.intCmp], VR.bool_mk _⟩
  case neq => exact ⟨_, _, h, by simp [binOp, Op.intCmp], VR.bool_mk _⟩
  case lss => exact ⟨_, _, h, by simp [binOp, Op.intCmp], VR.bool_mk _⟩
  case leq => exact ⟨_, _, h, by simp [binOp, Op.intCmp], VR.bool_mk _⟩
  case gtr => exact ⟨_, _, h, by simp [binOp, Op.intCmp], VR.bool_mk _⟩
  case geq => exact ⟨_, _, h, by simp [binOp, Op.intCmp], VR.bool_mk _⟩
  case and => simp only [bits] at h; exact ⟨_, _, h, by simp [binOp, Op.intBits], VR.int_mk (wrap_range _ _)⟩
  case or => simp only [bits] at h; exact ⟨_, _, h, by simp [binOp, Op.intBits], VR.int_mk (wrap_range _ _)⟩
  case xor => simp only [bits] at h; exact ⟨_, _, h, by simp [binOp, Op.intBits], VR.int_mk (wrap_range _ _)⟩
  case andNot => simp only [bits] at h; exact ⟨_, _, h, by simp [binOp, Op.intBits], VR.int_mk (wrap_range _ _)⟩

theorem shiftOp_sound {op : BinOp} {k l : IntKind} {x y : Int} {K : AV → Option R} {r : R} (hx : k.min ≤ x ∧ x ≤ k.max) (h : shiftOp op k x y K = some r) :
    ∃ v cv, K v = some r ∧ (Op.shift op k x l y).run P w = .ok cv w ∧ VR ρ S w H v cv := by
  unfold shiftOp at h
  rcases br_cases h with ⟨_, h⟩ | ⟨h0, h⟩
  · cases h
  · have h0 : ¬ y < 0 := by simpa using h0
    cases op <;> simp only at h <;> try (cases h; done)
    · exact ⟨_, _, h, by simp [Op.shift, h0], VR.int_mk (wrap_range _ _)⟩
    · exact ⟨_, _, h, by simp [Op.shift, h0], VR.int_mk (fdiv_range _ hx)⟩
end ints

end Go.Am
