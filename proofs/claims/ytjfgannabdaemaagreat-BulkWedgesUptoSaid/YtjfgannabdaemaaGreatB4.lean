/-
  A part of the proof of the statement that this claim names: for every input up to the bound, the law returns true, and the arguments read as before.
-/
import Derived.Test.YtjfgannabdaemaaGreatB3
import Derived.Laws.Bits64
import Derived.Laws.BitsAllLaws
set_option linter.all false
namespace Go.Am
open Go
set_option linter.unusedVariables false
set_option linter.unusedSimpArgs false
set_option maxRecDepth 100000

/-- bytes -/
def bytesL (l : List Int) : Prop := ∀ x ∈ l, 0 ≤ x ∧ x ≤ 255

theorem bOr_add (a b k : Nat) (ha : a < 2 ^ k) (hb : b * 2 ^ k + a < 2 ^ 64) : bOr .u64 (a : Int) (((b * 2 ^ k : Nat)) : Int) = ((a + b * 2 ^ k : Nat) : Int) := by
  unfold bOr
  have hx : b * 2 ^ k < 2 ^ 64 := by omega
  have ha' : a < 2 ^ 64 := by omega
  rw [show IntKind.u64.bits = 64 from rfl, BitVec.ofInt_natCast, BitVec.ofInt_natCast, BitVec.toNat_or, BitVec.toNat_ofNat, BitVec.toNat_ofNat, Nat.mod_eq_of_lt ha', Nat.mod_eq_of_lt hx]
  rw [Nat.or_comm, Nat.mul_comm b, ← Nat.two_pow_add_eq_or_of_lt ha, IntKind.wrap_u64]
  have : 2 ^ k * b + a < 18446744073709551616 := by rw [Nat.mul_comm]; exact hb
  omega

theorem step114 (l : List Int) (b : Bool) (k z i : Nat) (hl : l.length ≤ 4) (x : Nat) (hx : l[i]? = some (x : Int)) (hx2 : x < 256) (hz : z < 2 ^ (8 * i)) (z' i' : Nat) (hz' : z' = z + x * 2 ^ (8 * i)) (hi' : i' = i + 1) :
    L114_0 NN F150 (l, (b, ())) (k + 1) (z : Int) (i : Int) = L114_0 NN F150 (l, (b, ())) k (z' : Int) (i' : Int) := by
  subst hz' hi'
  have hi : i < l.length := (List.getElem?_eq_some_iff.1 hx).1
  have hi4 : i < 4 := by omega
  rw [L114_0, decide_eq_true (by show (i : Int) < ((l.length : Nat) : Int); omega), br_t]
  show obind (idx l (i : Int)) _ = _
  rw [idx_nat, hx]
  simp only [obind]
  have e8 : IntKind.i64.wrap (8 * (i : Int)) = ((8 * i : Nat) : Int) := by rw [w64 (by omega)]; omega
  rw [e8, decide_eq_false (by omega), br_f, Int.toNat_natCast, Nat.min_eq_left (by omega : 8 * i ≤ 64)]
  have ex : IntKind.u64.wrap (x : Int) = (x : Int) := by rw [IntKind.wrap_u64]; omega
  have hp : x * 2 ^ (8 * i) < 2 ^ 32 := by
    have : i = 0 ∨ i = 1 ∨ i = 2 ∨ i = 3 := by omega
    rcases this with rfl | rfl | rfl | rfl <;> simp <;> omega
  have ep : IntKind.u64.wrap ((x : Int) * 2 ^ (8 * i)) = ((x * 2 ^ (8 * i) : Nat) : Int) := by
    have : ((x : Int) * 2 ^ (8 * i)) = ((x * 2 ^ (8 * i) : Nat) : Int) := by simp
    rw [this, IntKind.wrap_u64]
    omega
  have hz32 : z < 2 ^ 32 := Nat.lt_of_lt_of_le hz (Nat.pow_le_pow_right (by omega) (by omega))
  rw [ex, ep, bOr_add z x (8 * i) hz (by omega), w64 (by omega)]
  rfl

theorem end114 (l : List Int) (b : Bool) (k : Nat) (z : Int) (n : Nat) (hn : l.length = n) : L114_0 NN F150 (l, (b, ())) (k + 1) z (n : Int) = some z := by
  subst hn
  rw [L114_0, decide_eq_false (by show ¬ ((l.length : Int) < ((l.length : Nat) : Int)); omega), br_f]

theorem four_of {l : List Int} (h : 4 ≤ l.length) : ∃ a b c d r, l = a :: b :: c :: d :: r := by
  match l, h with
  | a :: b :: c :: d :: r, _ => exact ⟨a, b, c, d, r, rfl⟩

theorem little4 (l : List Int) (hb : bytesL l) (hl : 4 ≤ l.length) (hm : l.length ≤ 1048576) :
    ∃ v : Int, F114 (l, (0, (4, ()))) = some (v, (true, ())) ∧ (v = 1128420181 → l.take 4 = [85, 83, 66, 67]) := by
  have e150 : F150 (l, (0, (4, ()))) = some (l.take 4, (true, ())) := by
    rw [n150, decide_eq_false (by omega), br_f, decide_eq_false (by omega), br_f, decide_eq_false (by omega), br_f, ble_lim hm, br_t]
    rw [decide_eq_false (by rw [w64 (by omega)]; omega), br_f, w64 (by omega), decide_eq_true (by omega), br_t]
    rfl
  obtain ⟨a, b, c, d, r, rfl⟩ : ∃ a b c d r, l = a :: b :: c :: d :: r := four_of hl
  obtain ⟨a', ra⟩ : ∃ n : Nat, a = n := ⟨a.toNat, by have := hb a (by simp); omega⟩
  obtain ⟨b', rb⟩ : ∃ n : Nat, b = n := ⟨b.toNat, by have := hb b (by simp); omega⟩
  obtain ⟨c', rc⟩ : ∃ n : Nat, c = n := ⟨c.toNat, by have := hb c (by simp); omega⟩
  obtain ⟨d', rd⟩ : ∃ n : Nat, d = n := ⟨d.toNat, by have := hb d (by simp); omega⟩
  have ha' := hb a (by simp)
  have hb' := hb b (by simp)
  have hc' := hb c (by simp)
  have hd' := hb d (by simp)
  subst ra rb rc rd
  have hN : ∃ k, NN + 100 = k + 1 + 1 + 1 + 1 + 1 := ⟨NN + 95, by omega⟩
  obtain ⟨k, hk⟩ := hN
  have key : L114_0 NN F150 ([(a' : Int), b', c', d'], (true, ())) (NN + 100) 0 0 = some (((a' + b' * 256 + c' * 65536 + d' * 16777216 : Nat)) : Int) := by
    rw [hk]
    have s0 := step114 [(a' : Int), b', c', d'] true (k + 1 + 1 + 1 + 1) 0 0 (by simp) a' rfl (by omega) (by simp) a' 1 (by simp) rfl
    have s1 := step114 [(a' : Int), b', c', d'] true (k + 1 + 1 + 1) a' 1 (by simp) b' rfl (by omega) (by simp; omega) (a' + b' * 256) 2 (by simp) rfl
    have s2 := step114 [(a' : Int), b', c', d'] true (k + 1 + 1) (a' + b' * 256) 2 (by simp) c' rfl (by omega) (by simp; omega) (a' + b' * 256 + c' * 65536) 3 (by simp) rfl
    have s3 := step114 [(a' : Int), b', c', d'] true (k + 1) (a' + b' * 256 + c' * 65536) 3 (by simp) d' rfl (by omega) (by simp; omega) (a' + b' * 256 + c' * 65536 + d' * 16777216) 4 (by simp) rfl
    have s4 := end114 [(a' : Int), b', c', d'] true k (((a' + b' * 256 + c' * 65536 + d' * 16777216 : Nat)) : Int) 4 rfl
    have z0 : (0 : Int) = ((0 : Nat) : Int) := rfl
    rw [z0, s0, s1, s2, s3, s4]
  refine ⟨((a' + b' * 256 + c' * 65536 + d' * 16777216 : Nat) : Int), ?_, ?_⟩
  · rw [n114, e150]
    simp only [obind]
    show br (Nat.ble (List.take 4 ((a' : Int) :: b' :: c' :: d' :: r)).length lim) _ _ = _
    have et : List.take 4 ((a' : Int) :: b' :: c' :: d' :: r) = [(a' : Int), b', c', d'] := rfl
    rw [et, ble_lim (by simp), br_t, key]
  · intro hv
    have h1 : a' = 85 ∧ b' = 83 ∧ c' = 66 ∧ d' = 67 := by
      omega
    obtain ⟨rfl, rfl, rfl, rfl⟩ := h1
    rfl

theorem little_short (l : List Int) (hl : l.length < 4) : F114 (l, (0, (4, ()))) = some (0, (false, ())) := by
  have e150 : F150 (l, (0, (4, ()))) = some ([], (false, ())) := by
    rw [n150, decide_eq_false (by omega), br_f, decide_eq_false (by omega), br_f, decide_eq_false (by omega), br_f, ble_lim (by omega), br_t]
    rw [decide_eq_true (by rw [w64 (by omega)]; omega), br_t]
  rw [n114, e150]
  simp only [obind]
  have hN : ∃ k, NN + 100 = k + 1 := ⟨NN + 99, by omega⟩
  obtain ⟨k, hk⟩ := hN
  have h0 := end114 [] false k 0 0 rfl
  have z0 : (0 : Int) = ((0 : Nat) : Int) := rfl
  rw [hk, show Nat.ble ([] : List Int).length lim = true from rfl, br_t]
  have h0' : L114_0 NN F150 ([], (false, ())) (k + 1) 0 0 = some 0 := h0
  rw [h0']

/-- is it a wrapper, by the program? -/
theorem valid78 (l : List Int) (hb : bytesL l) (hm : l.length ≤ 1048576) : ∃ b, F78 (l, ()) = some b ∧ (b = true → l.length = 31 ∧ l.take 4 = [85, 83, 66, 67]) := by
  rw [n78]
  have key : ∃ b, F113 (l, (31, (1128420181, ()))) = some b ∧ (b = true → l.length = 31 ∧ l.take 4 = [85, 83, 66, 67]) := by
    rw [n113]
    by_cases h4 : 4 ≤ l.length
    · obtain ⟨v, h1, h2⟩ := little4 l hb h4 hm
      rw [h1]
      simp only [obind, br_t]
      rw [ble_lim hm, br_t]
      by_cases h31 : l.length = 31
      · refine ⟨v == 1128420181, ?_, fun h => ⟨h31, h2 (by simpa using h)⟩⟩
        rw [h31]; rfl
      · refine ⟨false, ?_, fun h => by cases h⟩
        have : (((l.length : Nat) : Int) == 31) = false := by simp; omega
        rw [this, br_f]
    · rw [little_short l (by omega)]
      exact ⟨false, rfl, fun h => by cases h⟩
  obtain ⟨b, h1, h2⟩ := key
  rw [h1]
  exact ⟨b, rfl, h2⟩

/-- .. by the document -/
theorem valid41 (l : List Int) (hm : l.length ≤ 1048576) : F41 (l, ()) = some (decide (l.length = 31 ∧ l.take 4 = [85, 83, 66, 67])) := by
  rw [n41, ble_lim hm, br_t]
  by_cases h31 : l.length = 31
  · have e : (((l.length : Nat) : Int) == 31) = true := by simp; omega
    rw [e, br_t, decide_eq_true (by omega), br_t]
    simp [h31]
  · have e : (((l.length : Nat) : Int) == 31) = false := by simp; omega
    rw [e, br_f]
    simp [h31]

theorem flags_eq : ∀ x : Fin 256, (bAndNot .u8 (x.val : Int) 128 != 0) = ((x.val : Int) != 0 && (x.val : Int) != 128) := by decide +kernel

theorem flags (x : Int) (h : 0 ≤ x ∧ x ≤ 255) : (bAndNot .u8 x 128 != 0) = (x != 0 && x != 128) := by
  have := flags_eq ⟨x.toNat, by omega⟩
  have e : ((x.toNat : Nat) : Int) = x := by omega
  simpa [e] using this

theorem lun_eq (x : Int) (h : 0 ≤ x ∧ x ≤ 255) : (Int.fdiv x (2 ^ 4) != 0) = decide (x > 15) := by
  rw [Int.fdiv_eq_ediv_of_nonneg _ (by decide)]
  rw [Bool.eq_iff_iff]
  simp
  omega

theorem big55 (l : List Int) (at_ : Nat) (hl : l.length ≤ 1048576) (ha : at_ + 4 ≤ l.length) : ∃ v, F55 (l, ((at_ : Int), (4, ()))) = some (v, (true, ())) := by
  have key : ∀ (i k : Nat) (z : Int), i ≤ 4 → i < k → ∃ v, L55_0 NN l (at_ : Int) k z ((i : Int) - 1) = some v := by
    intro i
    induction i with
    | zero =>
      intro k z _ hk
      obtain ⟨k, rfl⟩ : ∃ m, k = m + 1 := ⟨k - 1, by omega⟩
      rw [L55_0, decide_eq_false (by omega), br_f]
      exact ⟨_, rfl⟩
    | succ i ih =>
      intro k z hi hk
      obtain ⟨k, rfl⟩ : ∃ m, k = m + 1 := ⟨k - 1, by omega⟩
      have e1 : (((i + 1 : Nat) : Int) - 1) = (i : Int) := by omega
      rw [L55_0, e1, decide_eq_true (by omega), br_t]
      have e2 : IntKind.i64.wrap ((at_ : Int) + (i : Int)) = ((at_ + i : Nat) : Int) := by rw [w64 (by omega)]; omega
      rw [e2, idx_nat]
      obtain ⟨x, hx⟩ : ∃ x, l[at_ + i]? = some x := ⟨l[at_ + i], by simp [show at_ + i < l.length by omega]⟩
      rw [hx]
      simp only [obind]
      rw [w64 (by omega)]
      exact ih k _ (by omega) (by omega)
  rw [n55, decide_eq_false (by omega), br_f, decide_eq_false (by omega), br_f, decide_eq_false (by omega), br_f, ble_lim hl, br_t, decide_eq_false (by omega), br_f, br_t,
    decide_eq_false (by rw [w64 (by omega)]; omega), br_f]
  obtain ⟨v, hv⟩ := key 4 (NN + 100) 0 (by omega) (by omega)
  rw [w64 (by omega)]
  rw [show ((4 : Int) - 1) = (((4 : Nat) : Int) - 1) from rfl, hv]
  exact ⟨v, rfl⟩

theorem four30 (l : List Int) (at_ : Nat) (hl : l.length ≤ 1048576) (ha : at_ + 4 ≤ l.length) : ∃ v, F30 (l, ((at_ : Int), ())) = some v := by
  rw [n30]
  obtain ⟨v, hv⟩ := big55 l at_ hl ha
  rw [hv]
  exact ⟨_, rfl⟩

/-- what the document doesn't take for a wrapper, the program doesn't either -/
theorem read_rel (l : List Int) (n : Int) (hb : bytesL l) (hm : l.length ≤ 1048576) :
    (∃ c, F17 (l, (n, ())) = some (c, (true, ()))) ∨ ((∃ c, F17 (l, (n, ())) = some (c, (false, ()))) ∧ ∃ c, F45 (l, (n, ())) = some (c, (false, ()))) := by
  obtain ⟨b, h78, hbt⟩ := valid78 l hb hm
  have h41 := valid41 l hm
  by_cases hv : l.length = 31 ∧ l.take 4 = [85, 83, 66, 67]
  rotate_left
  · right
    rw [decide_eq_false hv] at h41
    constructor
    · rw [n17, h41]; exact ⟨_, rfl⟩
    · have : b = false := by cases b with | false => rfl | true => exact absurd (hbt rfl) hv
      subst this
      rw [n45, h78]; exact ⟨_, rfl⟩
  · rw [decide_eq_true hv] at h41
    have hlen := hv.1
    obtain ⟨x, hx⟩ : ∃ x, l[12]? = some x := ⟨l[12], by simp [hlen]⟩
    obtain ⟨y, hy⟩ : ∃ y, l[13]? = some y := ⟨l[13], by simp [hlen]⟩
    obtain ⟨z, hz⟩ : ∃ z, l[14]? = some z := ⟨l[14], by simp [hlen]⟩
    have bx := hb x (List.mem_of_getElem? hx)
    have by_ := hb y (List.mem_of_getElem? hy)
    have bz := hb z (List.mem_of_getElem? hz)
    have ix : idx l 12 = some x := (idx_nat l 12).trans hx
    have iy : idx l 13 = some y := (idx_nat l 13).trans hy
    have iz : idx l 14 = some z := (idx_nat l 14).trans hz
    have wy : IntKind.i64.wrap y = y := w64 (by omega)
    have wz : IntKind.i64.wrap z = z := w64 (by omega)
    -- the program's answer, where something is amiss
    have no45 : ((x != 0 && x != 128) = true ∨ decide (y > 15) = true ∨ decide (y ≥ n) = true ∨ decide (z < 1) = true ∨ decide (z > 16) = true) → ∃ c, F45 (l, (n, ())) = some (c, (false, ())) := by
      intro h
      rw [n45, h78]
      simp only [obind]
      cases b with
      | false => exact ⟨_, rfl⟩
      | true =>
        simp only [Bool.not_true, br_f]
        rw [ix, iy, iz]
        simp only [obind]
        rw [flags x bx, wy, lun_eq y by_, wz]
        cases h1 : (x != 0 && x != 128) with
        | true => exact ⟨_, rfl⟩
        | false =>
          rw [br_f]
          cases h2 : decide (y > 15) with
          | true => exact ⟨_, rfl⟩
          | false =>
            rw [br_f]
            cases h3 : decide (y ≥ n) with
            | true => exact ⟨_, rfl⟩
            | false =>
              rw [br_f]
              cases h4 : decide (z < 1) with
              | true => exact ⟨_, rfl⟩
              | false =>
                rw [br_f]
                cases h5 : decide (z > 16) with
                | true => exact ⟨_, rfl⟩
                | false => rw [h1, h2, h3, h4, h5] at h; simp at h
    obtain ⟨v1, hv1⟩ := four30 l 4 hm (by omega)
    obtain ⟨v2, hv2⟩ := four30 l 8 hm (by omega)
    have hv1 : F30 (l, (4, ())) = some v1 := hv1
    have hv2 : F30 (l, (8, ())) = some v2 := hv2
    -- the rest of the document's walk
    have tail : ∃ c ok, (br (decide (y > 15)) (some ((0, (0, (false, (0, ([], ()))))), (false, ())))
        (obind (idx l 13) fun x14 => (br (decide ((IntKind.i64.wrap x14) ≥ n)) (some ((0, (0, (false, (0, ([], ()))))), (false, ())))
          (obind (idx l 14) fun x15 => (br (decide (x15 < 1)) (some ((0, (0, (false, (0, ([], ()))))), (false, ())))
            (obind (idx l 14) fun x16 => (br (decide (x16 > 16)) (some ((0, (0, (false, (0, ([], ()))))), (false, ())))
              (obind (F30 (l, (4, ()))) fun r17 => (obind (F30 (l, (8, ()))) fun r18 => (obind (idx l 12) fun x19 => (obind (idx l 13) fun x20 => (obind (idx l 14) fun x21 =>
                (br (decide ((0 : Int) ≤ 15 ∧ 15 ≤ (IntKind.i64.wrap (15 + (IntKind.i64.wrap x21))) ∧ (IntKind.i64.wrap (15 + (IntKind.i64.wrap x21))) ≤ (((List.length l) : Nat) : Int)))
                (br (decide ((0 + (List.length (List.drop 15 (List.take (Int.toNat (IntKind.i64.wrap (15 + (IntKind.i64.wrap x21)))) l)))) ≤ lim))
                  (some ((r17, (r18, ((x19 == 128), ((IntKind.i64.wrap x20), ((List.drop 15 (List.take (Int.toNat (IntKind.i64.wrap (15 + (IntKind.i64.wrap x21)))) l)), ()))))), (true, ())))
                  (none))
                (none)))))))))))))) = some (c, (ok, ())) ∧ (ok = false → decide (y > 15) = true ∨ decide (y ≥ n) = true ∨ decide (z < 1) = true ∨ decide (z > 16) = true) := by
      rw [ix, iy, iz, hv1, hv2]
      simp only [obind]
      rw [wy, wz]
      cases h2 : decide (y > 15) with
      | true => exact ⟨_, false, rfl, fun _ => .inl rfl⟩
      | false =>
        rw [br_f]
        cases h3 : decide (y ≥ n) with
        | true => exact ⟨_, false, rfl, fun _ => .inr (.inl rfl)⟩
        | false =>
          rw [br_f]
          cases h4 : decide (z < 1) with
          | true => exact ⟨_, false, rfl, fun _ => .inr (.inr (.inl rfl))⟩
          | false =>
            rw [br_f]
            cases h5 : decide (z > 16) with
            | true => exact ⟨_, false, rfl, fun _ => .inr (.inr (.inr rfl))⟩
            | false =>
              rw [br_f]
              have g4 := of_decide_eq_false h4
              have g5 := of_decide_eq_false h5
              have hle : (List.drop 15 (List.take (Int.toNat (15 + z)) l)).length ≤ l.length := by
                rw [List.length_drop, List.length_take]; omega
              have hle2 : 0 + (List.drop 15 (List.take (Int.toNat (15 + z)) l)).length ≤ lim := by rw [lim_val]; omega
              rw [w64 (x := 15 + z) (by omega), decide_eq_true (by omega), br_t, decide_eq_true hle2, br_t]
              exact ⟨_, true, rfl, fun h => by cases h⟩
    obtain ⟨c, ok, ht, hno⟩ := tail
    have fin : (F17 (l, (n, ())) = some ((0, (0, (false, (0, ([], ()))))), (false, ())) ∧ (x != 0 && x != 128) = true) ∨ F17 (l, (n, ())) = some (c, (ok, ())) := by
      rw [n17, h41]
      simp only [obind, Bool.not_true, br_f]
      rw [ix]
      simp only
      cases h1 : (x != 0) with
      | false =>
        right
        rw [br_f, iy]
        simp only
        rw [← ht, ix, iy]
        rfl
      | true =>
        rw [br_t]
        cases h2 : (x != 128) with
        | true => left; exact ⟨rfl, rfl⟩
        | false =>
          right
          rw [br_f, iy]
          simp only
          rw [← ht, ix, iy]
          rfl
    rcases fin with ⟨h, hx⟩ | h
    · exact .inr ⟨⟨_, h⟩, no45 (.inl hx)⟩
    · cases ok with
      | true => exact .inl ⟨c, h⟩
      | false => exact .inr ⟨⟨c, h⟩, no45 (.inr (hno rfl))⟩

end Go.Am
