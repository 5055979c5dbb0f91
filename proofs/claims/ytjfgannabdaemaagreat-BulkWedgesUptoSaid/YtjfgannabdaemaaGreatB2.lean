/-
  A part of the proof of the statement that this claim names: for every input up to the bound, the law returns true, and the arguments read as before.
-/
import Derived.Test.YtjfgannabdaemaaGreatB1
set_option linter.all false
namespace Go.Am
open Go
set_option maxRecDepth 1000000
set_option linter.unusedVariables false
set_option linter.unusedSimpArgs false
noncomputable def X9_0_0   : St := { tmps := [.dead, .dead, (.bool true), .dead, .dead, .dead, .dead, .dead, .dead, .dead, .dead, .dead, .dead, .dead, .dead, .dead, .dead, .dead, .dead, .dead, .dead, .dead, .dead, .dead, .dead, .dead, .dead, .dead, .dead, .dead, .dead, .dead, .dead, .dead, .dead, .dead, .dead, .dead, .dead, .dead, .dead, .dead], saved := [], heap := [] }
noncomputable def X9_0_1   : St := { tmps := [.dead, .dead, .dead, .dead, .dead, .dead, .dead, .dead, .dead, .dead, .dead, .dead, .dead, .dead, .dead, .dead, .dead, .dead, .dead, .dead, .dead, .dead, .dead, .dead, .dead, .dead, .dead, .dead, .dead, .dead, .dead, .dead, .dead, .dead, .dead, .dead, .dead, .dead, .dead, .dead, .dead, .dead], saved := [], heap := [] }
noncomputable def S9_0 (a0 : (Ty.den (.sl TUnit))) (z9_0_1 : Int) : St := { tmps := [(.dsl TUnit a0 false), .dead, .dead, (.int .i64 z9_0_1), .dead, .dead, .dead, .dead, .dead, .dead, .dead, .dead, .dead, .dead, .dead, .dead, .dead, .dead, .dead, .dead, .dead, .dead, .dead, .dead, .dead, .dead, .dead, .dead, .dead, .dead, .dead, .dead, .dead, .dead, .dead, .dead, .dead, .dead, .dead, .dead, .dead, .dead], saved := [], heap := [] }
noncomputable def L9_0 (N : Nat)  (a0 : (Ty.den (.sl TUnit))) : Nat → Int → Option (((Unit) ⊕ (Unit)))
  | 0, _ => none
  | k + 1, z9_0_1 =>
  (br (Nat.ble (List.length a0) lim)
  (br (decide (z9_0_1 < (((List.length a0) : Nat) : Int)))
    (obind (idx a0 z9_0_1) fun x1 =>
      (br (Nat.ble (List.length x1.1.1.1) lim)
      (br (decide ((((List.length x1.1.1.1) : Nat) : Int) > 70))
        (some (Sum.inl ()))
        (obind (idx a0 z9_0_1) fun x2 =>
          (br (Nat.ble (List.length x2.1.1.2.1) lim)
          (br (decide ((((List.length x2.1.1.2.1) : Nat) : Int) > 70))
            (some (Sum.inl ()))
            (obind (idx a0 z9_0_1) fun x3 =>
              (br (Nat.ble (List.length x3.2.2.1) lim)
              (br (decide ((((List.length x3.2.2.1) : Nat) : Int) > 20))
                (some (Sum.inl ()))
                (L9_0 N a0 k (IntKind.i64.wrap (z9_0_1 + 1))))
              (none))))
          (none))))
      (none)))
    (some (Sum.inr ())))
  (none))
theorem LL9_0 {R : Type} (N : Nat)  (a0 : (Ty.den (.sl TUnit))) : ∀ (k : Nat) (z9_0_1 : Int) (K : Ex → St → Option R), loopR (c9 N) 40 9 (bodyF Go.Proofs.Tryz.f9).s2.s2.s1.s2.bd.bd k (S9_0 a0 z9_0_1) K = obind (L9_0 N a0 k z9_0_1) (Sum.elim (fun o => K .ret (X9_0_0 )) (fun o => K (.exit 0) (X9_0_1 ))) := by
  intro k
  induction k with
  | zero => intros; kernel_rfl
  | succ k ih =>
    intro z9_0_1 K
    have e : loopR (c9 N) 40 9 (bodyF Go.Proofs.Tryz.f9).s2.s2.s1.s2.bd.bd (k + 1) (S9_0 a0 z9_0_1) K =
      (br (Nat.ble (List.length a0) lim)
  (br (decide (z9_0_1 < (((List.length a0) : Nat) : Int)))
    (obind (idx a0 z9_0_1) fun x1 =>
      (br (Nat.ble (List.length x1.1.1.1) lim)
      (br (decide ((((List.length x1.1.1.1) : Nat) : Int) > 70))
        (K .ret (X9_0_0 ))
        (obind (idx a0 z9_0_1) fun x2 =>
          (br (Nat.ble (List.length x2.1.1.2.1) lim)
          (br (decide ((((List.length x2.1.1.2.1) : Nat) : Int) > 70))
            (K .ret (X9_0_0 ))
            (obind (idx a0 z9_0_1) fun x3 =>
              (br (Nat.ble (List.length x3.2.2.1) lim)
              (br (decide ((((List.length x3.2.2.1) : Nat) : Int) > 20))
                (K .ret (X9_0_0 ))
                (loopR (c9 N) 40 9 (bodyF Go.Proofs.Tryz.f9).s2.s2.s1.s2.bd.bd k (S9_0 a0 (IntKind.i64.wrap (z9_0_1 + 1))) K))
              (none))))
          (none))))
      (none)))
    (K (.exit 0) (X9_0_1 )))
  (none)) := by kernel_rfl
    rw [e]
    simp only [ih, L9_0, obind_br, obind_obind, obind_none, obind_some_eq, Sum.elim_inl, Sum.elim_inr]
noncomputable def K9_0  (N : Nat)    : Ex → St → Option (Ty.den .bool) := (blockK 0 (seqK (fun st K => exec (c9 N) (inl (c9 N) 40) 9 (bodyF Go.Proofs.Tryz.f9).s2.s2.s2 st K) (topK Go.Proofs.Tryz.prog Go.Proofs.Tryz.f9 (fun v H => handed H .bool 1 v))))
theorem E9_0_0  (N : Nat)    : (K9_0 N  ) .ret (X9_0_0 ) =
  (some true) := by kernel_rfl
theorem E9_0_1  (N : Nat)    : (K9_0 N  ) (.exit 0) (X9_0_1 ) =
  (some false) := by kernel_rfl
theorem N9 (N : Nat)  (a0 : (Ty.den (.sl TUnit))) : runFn (c9 N) 40 9 (.pair (.sl TUnit) .unit) .bool 1 (a0, ()) =
  (br (Nat.ble (List.length a0) lim)
  (br (decide ((((List.length a0) : Nat) : Int) > 6))
    (some true)
    (obind (L9_0 N a0 (N + 100) 0) (Sum.elim (fun o4 =>
      (some true)) (fun o5 =>
      (some false)))))
  (none)) := by
  have e : runFn (c9 N) 40 9 (.pair (.sl TUnit) .unit) .bool 1 (a0, ()) =
    (br (Nat.ble (List.length a0) lim)
  (br (decide ((((List.length a0) : Nat) : Int) > 6))
    (some true)
    (loopR (c9 N) 40 9 (bodyF Go.Proofs.Tryz.f9).s2.s2.s1.s2.bd.bd (N + 100) (S9_0 a0 0) (K9_0 N  )))
  (none)) := by kernel_rfl
  rw [e]
  simp only [LL9_0, E9_0_0, E9_0_1]
theorem n9 (a0 : (Ty.den (.sl TUnit))) : F9 (a0, ()) =
  (br (Nat.ble (List.length a0) lim)
  (br (decide ((((List.length a0) : Nat) : Int) > 6))
    (some true)
    (obind (L9_0 NN a0 (NN + 100) 0) (Sum.elim (fun o4 =>
      (some true)) (fun o5 =>
      (some false)))))
  (none)) := N9 NN  a0
theorem N30 (N : Nat) (g55 : Ty.den (.pair (.sl (.int .u8)) (.pair (.int .i64) (.pair (.int .i64) .unit))) → Option (Ty.den (.pair (.int .u64) (.pair .bool .unit)))) (a0 : (Ty.den (.sl (.int .u8)))) (a1 : Int) : runFn (c30 N g55) 40 30 (.pair (.sl (.int .u8)) (.pair (.int .i64) .unit)) (.int .u32) 1 (a0, a1, ()) =
  (obind (g55 (a0, (a1, (4, ())))) fun r1 =>
  (some (IntKind.u32.wrap r1.1))) := by kernel_rfl
theorem n30 (a0 : (Ty.den (.sl (.int .u8)))) (a1 : Int) : F30 (a0, a1, ()) =
  (obind (F55 (a0, (a1, (4, ())))) fun r1 =>
  (some (IntKind.u32.wrap r1.1))) := N30 NN F55 a0 a1
noncomputable def X55_0_0  (y0 : Int) : St := { tmps := [.dead, .dead, .dead, .dead, .dead, .dead, .dead, .dead, (.int .u64 y0), .dead, .dead, .dead, .dead, .dead, .dead, .dead, .dead, .dead, .dead, .dead, .dead, .dead, .dead, .dead, .dead, .dead, .dead, .dead, .dead, .dead, .dead, .dead, .dead, .dead, .dead, .dead, .dead, .dead, .dead, .dead, .dead, .dead, .dead, .dead, .dead, .dead, .dead, .dead, .dead, .dead, .dead], saved := [], heap := [] }
noncomputable def S55_0 (a0 : (Ty.den (.sl (.int .u8)))) (a1 : Int) (z55_0_2 : Int) (z55_0_3 : Int) : St := { tmps := [(.dsl (.int .u8) a0 false), (.int .i64 a1), .dead, .dead, .dead, .dead, .dead, .dead, (.int .u64 z55_0_2), (.int .i64 z55_0_3), .dead, .dead, .dead, .dead, .dead, .dead, .dead, .dead, .dead, .dead, .dead, .dead, .dead, .dead, .dead, .dead, .dead, .dead, .dead, .dead, .dead, .dead, .dead, .dead, .dead, .dead, .dead, .dead, .dead, .dead, .dead, .dead, .dead, .dead, .dead, .dead, .dead, .dead, .dead, .dead, .dead], saved := [], heap := [] }
noncomputable def L55_0 (N : Nat)  (a0 : (Ty.den (.sl (.int .u8)))) (a1 : Int) : Nat → Int → Int → Option (Int)
  | 0, _, _ => none
  | k + 1, z55_0_2, z55_0_3 =>
  (br (decide (z55_0_3 ≥ 0))
  (obind (idx a0 (IntKind.i64.wrap (a1 + z55_0_3))) fun x1 =>
    (L55_0 N a0 a1 k (IntKind.u64.wrap ((IntKind.u64.wrap (z55_0_2 * 256)) + (IntKind.u64.wrap x1))) (IntKind.i64.wrap (z55_0_3 - 1))))
  (some (z55_0_2)))
theorem LL55_0 {R : Type} (N : Nat)  (a0 : (Ty.den (.sl (.int .u8)))) (a1 : Int) : ∀ (k : Nat) (z55_0_2 : Int) (z55_0_3 : Int) (K : Ex → St → Option R), loopR (c55 N) 40 55 (bodyF Go.Proofs.Tryz.f55).s2.s2.s2.s1.s2.bd.bd k (S55_0 a0 a1 z55_0_2 z55_0_3) K = obind (L55_0 N a0 a1 k z55_0_2 z55_0_3) (fun o => K (.exit 0) (X55_0_0 o)) := by
  intro k
  induction k with
  | zero => intros; kernel_rfl
  | succ k ih =>
    intro z55_0_2 z55_0_3 K
    have e : loopR (c55 N) 40 55 (bodyF Go.Proofs.Tryz.f55).s2.s2.s2.s1.s2.bd.bd (k + 1) (S55_0 a0 a1 z55_0_2 z55_0_3) K =
      (br (decide (z55_0_3 ≥ 0))
  (obind (idx a0 (IntKind.i64.wrap (a1 + z55_0_3))) fun x1 =>
    (loopR (c55 N) 40 55 (bodyF Go.Proofs.Tryz.f55).s2.s2.s2.s1.s2.bd.bd k (S55_0 a0 a1 (IntKind.u64.wrap ((IntKind.u64.wrap (z55_0_2 * 256)) + (IntKind.u64.wrap x1))) (IntKind.i64.wrap (z55_0_3 - 1))) K))
  (K (.exit 0) (X55_0_0 z55_0_2))) := by kernel_rfl
    rw [e]
    simp only [ih, L55_0, obind_br, obind_obind, obind_none, obind_some_eq, Sum.elim_inl, Sum.elim_inr]
noncomputable def K55_0  (N : Nat)    : Ex → St → Option (Ty.den (.pair (.int .u64) (.pair .bool .unit))) := (blockK 0 (seqK (fun st K => exec (c55 N) (inl (c55 N) 40) 55 (bodyF Go.Proofs.Tryz.f55).s2.s2.s2.s2 st K) (topK Go.Proofs.Tryz.prog Go.Proofs.Tryz.f55 (fun v H => handed H (.pair (.int .u64) (.pair .bool .unit)) 2 v))))
theorem E55_0_0  (N : Nat)  (o2 : Int)  : (K55_0 N  ) (.exit 0) (X55_0_0 o2) =
  (some (o2, (true, ()))) := by kernel_rfl
theorem N55 (N : Nat)  (a0 : (Ty.den (.sl (.int .u8)))) (a1 : Int) (a2 : Int) : runFn (c55 N) 40 55 (.pair (.sl (.int .u8)) (.pair (.int .i64) (.pair (.int .i64) .unit))) (.pair (.int .u64) (.pair .bool .unit)) 2 (a0, a1, a2, ()) =
  (br (decide (a2 < 1))
  (some (0, (false, ())))
  (br (decide (a2 > 8))
    (some (0, (false, ())))
    (br (decide (a1 < 0))
      (some (0, (false, ())))
      (br (Nat.ble (List.length a0) lim)
        (br (decide ((((List.length a0) : Nat) : Int) < a2))
          (some (0, (false, ())))
          (br (Nat.ble (List.length a0) lim)
            (br (decide (a1 > (IntKind.i64.wrap ((((List.length a0) : Nat) : Int) - a2))))
              (some (0, (false, ())))
              (obind (L55_0 N a0 a1 (N + 100) 0 (IntKind.i64.wrap (a2 - 1))) (fun o2 =>
                (some (o2, (true, ()))))))
            (none)))
        (none))))) := by
  have e : runFn (c55 N) 40 55 (.pair (.sl (.int .u8)) (.pair (.int .i64) (.pair (.int .i64) .unit))) (.pair (.int .u64) (.pair .bool .unit)) 2 (a0, a1, a2, ()) =
    (br (decide (a2 < 1))
  (some (0, (false, ())))
  (br (decide (a2 > 8))
    (some (0, (false, ())))
    (br (decide (a1 < 0))
      (some (0, (false, ())))
      (br (Nat.ble (List.length a0) lim)
        (br (decide ((((List.length a0) : Nat) : Int) < a2))
          (some (0, (false, ())))
          (br (Nat.ble (List.length a0) lim)
            (br (decide (a1 > (IntKind.i64.wrap ((((List.length a0) : Nat) : Int) - a2))))
              (some (0, (false, ())))
              (loopR (c55 N) 40 55 (bodyF Go.Proofs.Tryz.f55).s2.s2.s2.s1.s2.bd.bd (N + 100) (S55_0 a0 a1 0 (IntKind.i64.wrap (a2 - 1))) (K55_0 N  )))
            (none)))
        (none))))) := by kernel_rfl
  rw [e]
  simp only [LL55_0, E55_0_0]
theorem n55 (a0 : (Ty.den (.sl (.int .u8)))) (a1 : Int) (a2 : Int) : F55 (a0, a1, a2, ()) =
  (br (decide (a2 < 1))
  (some (0, (false, ())))
  (br (decide (a2 > 8))
    (some (0, (false, ())))
    (br (decide (a1 < 0))
      (some (0, (false, ())))
      (br (Nat.ble (List.length a0) lim)
        (br (decide ((((List.length a0) : Nat) : Int) < a2))
          (some (0, (false, ())))
          (br (Nat.ble (List.length a0) lim)
            (br (decide (a1 > (IntKind.i64.wrap ((((List.length a0) : Nat) : Int) - a2))))
              (some (0, (false, ())))
              (obind (L55_0 NN a0 a1 (NN + 100) 0 (IntKind.i64.wrap (a2 - 1))) (fun o2 =>
                (some (o2, (true, ()))))))
            (none)))
        (none))))) := N55 NN  a0 a1 a2
theorem N17 (N : Nat) (g30 : Ty.den (.pair (.sl (.int .u8)) (.pair (.int .i64) .unit)) → Option (Ty.den (.int .u32))) (g41 : Ty.den (.pair (.sl (.int .u8)) .unit) → Option (Ty.den .bool)) (a0 : (Ty.den (.sl (.int .u8)))) (a1 : Int) : runFn (c17 N g30 g41) 40 17 (.pair (.sl (.int .u8)) (.pair (.int .i64) .unit)) (.pair TCbw (.pair .bool .unit)) 2 (a0, a1, ()) =
  (obind (g41 (a0, ())) fun r1 =>
  (br (!r1)
  (some ((0, (0, (false, (0, ([], ()))))), (false, ())))
  (obind (idx a0 12) fun x2 =>
    (br (x2 != 0)
    (obind (idx a0 12) fun x3 =>
      (br (x3 != 128)
      (some ((0, (0, (false, (0, ([], ()))))), (false, ())))
      (obind (idx a0 13) fun x4 =>
        (br (decide (x4 > 15))
        (some ((0, (0, (false, (0, ([], ()))))), (false, ())))
        (obind (idx a0 13) fun x5 =>
          (br (decide ((IntKind.i64.wrap x5) ≥ a1))
          (some ((0, (0, (false, (0, ([], ()))))), (false, ())))
          (obind (idx a0 14) fun x6 =>
            (br (decide (x6 < 1))
            (some ((0, (0, (false, (0, ([], ()))))), (false, ())))
            (obind (idx a0 14) fun x7 =>
              (br (decide (x7 > 16))
              (some ((0, (0, (false, (0, ([], ()))))), (false, ())))
              (obind (g30 (a0, (4, ()))) fun r8 =>
                (obind (g30 (a0, (8, ()))) fun r9 =>
                (obind (idx a0 12) fun x10 =>
                (obind (idx a0 13) fun x11 =>
                (obind (idx a0 14) fun x12 =>
                (br (decide ((0 : Int) ≤ 15 ∧ 15 ≤ (IntKind.i64.wrap (15 + (IntKind.i64.wrap x12))) ∧ (IntKind.i64.wrap (15 + (IntKind.i64.wrap x12))) ≤ (((List.length a0) : Nat) : Int)))
                (br (decide ((0 + (List.length (List.drop 15 (List.take (Int.toNat (IntKind.i64.wrap (15 + (IntKind.i64.wrap x12)))) a0)))) ≤ lim))
                  (some ((r8, (r9, ((x10 == 128), ((IntKind.i64.wrap x11), ((List.drop 15 (List.take (Int.toNat (IntKind.i64.wrap (15 + (IntKind.i64.wrap x12)))) a0)), ()))))), (true, ())))
                  (none))
                (none)))))))))))))))))
    (obind (idx a0 13) fun x13 =>
      (br (decide (x13 > 15))
      (some ((0, (0, (false, (0, ([], ()))))), (false, ())))
      (obind (idx a0 13) fun x14 =>
        (br (decide ((IntKind.i64.wrap x14) ≥ a1))
        (some ((0, (0, (false, (0, ([], ()))))), (false, ())))
        (obind (idx a0 14) fun x15 =>
          (br (decide (x15 < 1))
          (some ((0, (0, (false, (0, ([], ()))))), (false, ())))
          (obind (idx a0 14) fun x16 =>
            (br (decide (x16 > 16))
            (some ((0, (0, (false, (0, ([], ()))))), (false, ())))
            (obind (g30 (a0, (4, ()))) fun r17 =>
              (obind (g30 (a0, (8, ()))) fun r18 =>
              (obind (idx a0 12) fun x19 =>
              (obind (idx a0 13) fun x20 =>
              (obind (idx a0 14) fun x21 =>
              (br (decide ((0 : Int) ≤ 15 ∧ 15 ≤ (IntKind.i64.wrap (15 + (IntKind.i64.wrap x21))) ∧ (IntKind.i64.wrap (15 + (IntKind.i64.wrap x21))) ≤ (((List.length a0) : Nat) : Int)))
              (br (decide ((0 + (List.length (List.drop 15 (List.take (Int.toNat (IntKind.i64.wrap (15 + (IntKind.i64.wrap x21)))) a0)))) ≤ lim))
                (some ((r17, (r18, ((x19 == 128), ((IntKind.i64.wrap x20), ((List.drop 15 (List.take (Int.toNat (IntKind.i64.wrap (15 + (IntKind.i64.wrap x21)))) a0)), ()))))), (true, ())))
                (none))
              (none))))))))))))))))))) := by kernel_rfl
theorem n17 (a0 : (Ty.den (.sl (.int .u8)))) (a1 : Int) : F17 (a0, a1, ()) =
  (obind (F41 (a0, ())) fun r1 =>
  (br (!r1)
  (some ((0, (0, (false, (0, ([], ()))))), (false, ())))
  (obind (idx a0 12) fun x2 =>
    (br (x2 != 0)
    (obind (idx a0 12) fun x3 =>
      (br (x3 != 128)
      (some ((0, (0, (false, (0, ([], ()))))), (false, ())))
      (obind (idx a0 13) fun x4 =>
        (br (decide (x4 > 15))
        (some ((0, (0, (false, (0, ([], ()))))), (false, ())))
        (obind (idx a0 13) fun x5 =>
          (br (decide ((IntKind.i64.wrap x5) ≥ a1))
          (some ((0, (0, (false, (0, ([], ()))))), (false, ())))
          (obind (idx a0 14) fun x6 =>
            (br (decide (x6 < 1))
            (some ((0, (0, (false, (0, ([], ()))))), (false, ())))
            (obind (idx a0 14) fun x7 =>
              (br (decide (x7 > 16))
              (some ((0, (0, (false, (0, ([], ()))))), (false, ())))
              (obind (F30 (a0, (4, ()))) fun r8 =>
                (obind (F30 (a0, (8, ()))) fun r9 =>
                (obind (idx a0 12) fun x10 =>
                (obind (idx a0 13) fun x11 =>
                (obind (idx a0 14) fun x12 =>
                (br (decide ((0 : Int) ≤ 15 ∧ 15 ≤ (IntKind.i64.wrap (15 + (IntKind.i64.wrap x12))) ∧ (IntKind.i64.wrap (15 + (IntKind.i64.wrap x12))) ≤ (((List.length a0) : Nat) : Int)))
                (br (decide ((0 + (List.length (List.drop 15 (List.take (Int.toNat (IntKind.i64.wrap (15 + (IntKind.i64.wrap x12)))) a0)))) ≤ lim))
                  (some ((r8, (r9, ((x10 == 128), ((IntKind.i64.wrap x11), ((List.drop 15 (List.take (Int.toNat (IntKind.i64.wrap (15 + (IntKind.i64.wrap x12)))) a0)), ()))))), (true, ())))
                  (none))
                (none)))))))))))))))))
    (obind (idx a0 13) fun x13 =>
      (br (decide (x13 > 15))
      (some ((0, (0, (false, (0, ([], ()))))), (false, ())))
      (obind (idx a0 13) fun x14 =>
        (br (decide ((IntKind.i64.wrap x14) ≥ a1))
        (some ((0, (0, (false, (0, ([], ()))))), (false, ())))
        (obind (idx a0 14) fun x15 =>
          (br (decide (x15 < 1))
          (some ((0, (0, (false, (0, ([], ()))))), (false, ())))
          (obind (idx a0 14) fun x16 =>
            (br (decide (x16 > 16))
            (some ((0, (0, (false, (0, ([], ()))))), (false, ())))
            (obind (F30 (a0, (4, ()))) fun r17 =>
              (obind (F30 (a0, (8, ()))) fun r18 =>
              (obind (idx a0 12) fun x19 =>
              (obind (idx a0 13) fun x20 =>
              (obind (idx a0 14) fun x21 =>
              (br (decide ((0 : Int) ≤ 15 ∧ 15 ≤ (IntKind.i64.wrap (15 + (IntKind.i64.wrap x21))) ∧ (IntKind.i64.wrap (15 + (IntKind.i64.wrap x21))) ≤ (((List.length a0) : Nat) : Int)))
              (br (decide ((0 + (List.length (List.drop 15 (List.take (Int.toNat (IntKind.i64.wrap (15 + (IntKind.i64.wrap x21)))) a0)))) ≤ lim))
                (some ((r17, (r18, ((x19 == 128), ((IntKind.i64.wrap x20), ((List.drop 15 (List.take (Int.toNat (IntKind.i64.wrap (15 + (IntKind.i64.wrap x21)))) a0)), ()))))), (true, ())))
                (none))
              (none))))))))))))))))))) := N17 NN F30 F41 a0 a1
theorem N41 (N : Nat)  (a0 : (Ty.den (.sl (.int .u8)))) : runFn (c41 N) 40 41 (.pair (.sl (.int .u8)) .unit) .bool 1 (a0, ()) =
  (br (Nat.ble (List.length a0) lim)
  (br ((((List.length a0) : Nat) : Int) == 31)
    (br (decide ((0 : Int) ≤ 0 ∧ (0 : Int) ≤ 4 ∧ 4 ≤ (((List.length a0) : Nat) : Int)))
      (some (decide ((List.take 4 a0) = [85, 83, 66, 67])))
      (none))
    (some false))
  (none)) := by kernel_rfl
theorem n41 (a0 : (Ty.den (.sl (.int .u8)))) : F41 (a0, ()) =
  (br (Nat.ble (List.length a0) lim)
  (br ((((List.length a0) : Nat) : Int) == 31)
    (br (decide ((0 : Int) ≤ 0 ∧ (0 : Int) ≤ 4 ∧ 4 ≤ (((List.length a0) : Nat) : Int)))
      (some (decide ((List.take 4 a0) = [85, 83, 66, 67])))
      (none))
    (some false))
  (none)) := N41 NN  a0
theorem N150 (N : Nat)  (a0 : (Ty.den (.sl (.int .u8)))) (a1 : Int) (a2 : Int) : runFn (c150 N) 40 150 (.pair (.sl (.int .u8)) (.pair (.int .i64) (.pair (.int .i64) .unit))) THow 2 (a0, a1, a2, ()) =
  (br (decide (a2 < 1))
  (some ([], (false, ())))
  (br (decide (a2 > 8))
    (some ([], (false, ())))
    (br (decide (a1 < 0))
      (some ([], (false, ())))
      (br (Nat.ble (List.length a0) lim)
        (br (decide (a1 > (IntKind.i64.wrap ((((List.length a0) : Nat) : Int) - a2))))
          (some ([], (false, ())))
          (br (decide (0 ≤ a1 ∧ a1 ≤ (IntKind.i64.wrap (a1 + a2)) ∧ (IntKind.i64.wrap (a1 + a2)) ≤ (((List.length a0) : Nat) : Int)))
            (some ((List.drop (Int.toNat a1) (List.take (Int.toNat (IntKind.i64.wrap (a1 + a2))) a0)), (true, ())))
            (none)))
        (none))))) := by kernel_rfl
theorem n150 (a0 : (Ty.den (.sl (.int .u8)))) (a1 : Int) (a2 : Int) : F150 (a0, a1, a2, ()) =
  (br (decide (a2 < 1))
  (some ([], (false, ())))
  (br (decide (a2 > 8))
    (some ([], (false, ())))
    (br (decide (a1 < 0))
      (some ([], (false, ())))
      (br (Nat.ble (List.length a0) lim)
        (br (decide (a1 > (IntKind.i64.wrap ((((List.length a0) : Nat) : Int) - a2))))
          (some ([], (false, ())))
          (br (decide (0 ≤ a1 ∧ a1 ≤ (IntKind.i64.wrap (a1 + a2)) ∧ (IntKind.i64.wrap (a1 + a2)) ≤ (((List.length a0) : Nat) : Int)))
            (some ((List.drop (Int.toNat a1) (List.take (Int.toNat (IntKind.i64.wrap (a1 + a2))) a0)), (true, ())))
            (none)))
        (none))))) := N150 NN  a0 a1 a2
noncomputable def X114_0_0 (r1 : (Ty.den THow)) (y0 : Int) : St := { tmps := [.dead, .dead, .dead, .dead, .dead, .dead, (.int .u64 y0), (.bool r1.2.1), .dead, .dead, .dead, .dead, .dead, .dead, .dead, .dead, .dead, .dead, .dead, .dead, .dead, .dead, .dead, .dead, .dead, .dead, .dead, .dead, .dead, .dead, .dead, .dead, .dead, .dead, .dead], saved := [], heap := [] }
noncomputable def S114_0 (r1 : (Ty.den THow)) (z114_0_0 : Int) (z114_0_4 : Int) : St := { tmps := [.dead, .dead, .dead, .dead, .dead, .dead, (.int .u64 z114_0_0), (.bool r1.2.1), .dead, .dead, .dead, .dead, .dead, .dead, .dead, .dead, .dead, .dead, (.dsl (.int .u8) r1.1 false), (.int .i64 (((List.length r1.1) : Nat) : Int)), (.int .i64 z114_0_4), .dead, .dead, .dead, .dead, .dead, .dead, .dead, .dead, .dead, .dead, .dead, .dead, .dead, .dead], saved := [], heap := [] }
noncomputable def L114_0 (N : Nat) (g150 : Ty.den (.pair (.sl (.int .u8)) (.pair (.int .i64) (.pair (.int .i64) .unit))) → Option (Ty.den THow)) (r1 : (Ty.den THow)) : Nat → Int → Int → Option (Int)
  | 0, _, _ => none
  | k + 1, z114_0_0, z114_0_4 =>
  (br (decide (z114_0_4 < (((List.length r1.1) : Nat) : Int)))
  (obind (idx r1.1 z114_0_4) fun x2 =>
    (br (decide ((IntKind.i64.wrap (8 * z114_0_4)) < 0))
    (none)
    (L114_0 N g150 r1 k (bOr .u64 z114_0_0 (IntKind.u64.wrap ((IntKind.u64.wrap x2) * 2 ^ (min (Int.toNat (IntKind.i64.wrap (8 * z114_0_4))) 64)))) (IntKind.i64.wrap (z114_0_4 + 1)))))
  (some (z114_0_0)))
theorem LL114_0 {R : Type} (N : Nat) (g150 : Ty.den (.pair (.sl (.int .u8)) (.pair (.int .i64) (.pair (.int .i64) .unit))) → Option (Ty.den THow)) (r1 : (Ty.den THow)) : ∀ (k : Nat) (z114_0_0 : Int) (z114_0_4 : Int) (K : Ex → St → Option R), loopR (c114 N g150) 40 114 (bodyF Go.Proofs.Tryz.f114).s2.s2.s1.s2.bd.bd k (S114_0 r1 z114_0_0 z114_0_4) K = obind (L114_0 N g150 r1 k z114_0_0 z114_0_4) (fun o => K (.exit 0) (X114_0_0 r1 o)) := by
  intro k
  induction k with
  | zero => intros; kernel_rfl
  | succ k ih =>
    intro z114_0_0 z114_0_4 K
    have e : loopR (c114 N g150) 40 114 (bodyF Go.Proofs.Tryz.f114).s2.s2.s1.s2.bd.bd (k + 1) (S114_0 r1 z114_0_0 z114_0_4) K =
      (br (decide (z114_0_4 < (((List.length r1.1) : Nat) : Int)))
  (obind (idx r1.1 z114_0_4) fun x2 =>
    (br (decide ((IntKind.i64.wrap (8 * z114_0_4)) < 0))
    (none)
    (loopR (c114 N g150) 40 114 (bodyF Go.Proofs.Tryz.f114).s2.s2.s1.s2.bd.bd k (S114_0 r1 (bOr .u64 z114_0_0 (IntKind.u64.wrap ((IntKind.u64.wrap x2) * 2 ^ (min (Int.toNat (IntKind.i64.wrap (8 * z114_0_4))) 64)))) (IntKind.i64.wrap (z114_0_4 + 1))) K)))
  (K (.exit 0) (X114_0_0 r1 z114_0_0))) := by kernel_rfl
    rw [e]
    simp only [ih, L114_0, obind_br, obind_obind, obind_none, obind_some_eq, Sum.elim_inl, Sum.elim_inr]
noncomputable def K114_0  (N : Nat) (g150 : Ty.den (.pair (.sl (.int .u8)) (.pair (.int .i64) (.pair (.int .i64) .unit))) → Option (Ty.den THow))   : Ex → St → Option (Ty.den (.pair (.int .u64) (.pair .bool .unit))) := (blockK 0 (seqK (fun st K => exec (c114 N g150) (inl (c114 N g150) 40) 114 (bodyF Go.Proofs.Tryz.f114).s2.s2.s2 st K) (topK Go.Proofs.Tryz.prog Go.Proofs.Tryz.f114 (fun v H => handed H (.pair (.int .u64) (.pair .bool .unit)) 2 v))))
theorem E114_0_0  (N : Nat) (g150 : Ty.den (.pair (.sl (.int .u8)) (.pair (.int .i64) (.pair (.int .i64) .unit))) → Option (Ty.den THow)) (r1 : (Ty.den THow)) (o3 : Int)  : (K114_0 N g150  ) (.exit 0) (X114_0_0 r1 o3) =
  (some (o3, (r1.2.1, ()))) := by kernel_rfl
theorem N114 (N : Nat) (g150 : Ty.den (.pair (.sl (.int .u8)) (.pair (.int .i64) (.pair (.int .i64) .unit))) → Option (Ty.den THow)) (a0 : (Ty.den (.sl (.int .u8)))) (a1 : Int) (a2 : Int) : runFn (c114 N g150) 40 114 (.pair (.sl (.int .u8)) (.pair (.int .i64) (.pair (.int .i64) .unit))) (.pair (.int .u64) (.pair .bool .unit)) 2 (a0, a1, a2, ()) =
  (obind (g150 (a0, (a1, (a2, ())))) fun r1 =>
  (br (Nat.ble (List.length r1.1) lim)
  (obind (L114_0 N g150 r1 (N + 100) 0 0) (fun o3 =>
    (some (o3, (r1.2.1, ())))))
  (none))) := by
  have e : runFn (c114 N g150) 40 114 (.pair (.sl (.int .u8)) (.pair (.int .i64) (.pair (.int .i64) .unit))) (.pair (.int .u64) (.pair .bool .unit)) 2 (a0, a1, a2, ()) =
    (obind (g150 (a0, (a1, (a2, ())))) fun r1 =>
  (br (Nat.ble (List.length r1.1) lim)
  (loopR (c114 N g150) 40 114 (bodyF Go.Proofs.Tryz.f114).s2.s2.s1.s2.bd.bd (N + 100) (S114_0 r1 0 0) (K114_0 N g150  ))
  (none))) := by kernel_rfl
  rw [e]
  simp only [LL114_0, E114_0_0]
theorem n114 (a0 : (Ty.den (.sl (.int .u8)))) (a1 : Int) (a2 : Int) : F114 (a0, a1, a2, ()) =
  (obind (F150 (a0, (a1, (a2, ())))) fun r1 =>
  (br (Nat.ble (List.length r1.1) lim)
  (obind (L114_0 NN F150 r1 (NN + 100) 0 0) (fun o3 =>
    (some (o3, (r1.2.1, ())))))
  (none))) := N114 NN F150 a0 a1 a2
theorem N113 (N : Nat) (g114 : Ty.den (.pair (.sl (.int .u8)) (.pair (.int .i64) (.pair (.int .i64) .unit))) → Option (Ty.den (.pair (.int .u64) (.pair .bool .unit)))) (a0 : (Ty.den (.sl (.int .u8)))) (a1 : Int) (a2 : Int) : runFn (c113 N g114) 40 113 (.pair (.sl (.int .u8)) (.pair (.int .i64) (.pair (.int .u64) .unit))) .bool 1 (a0, a1, a2, ()) =
  (obind (g114 (a0, (0, (4, ())))) fun r1 =>
  (br r1.2.1
  (br (Nat.ble (List.length a0) lim)
    (br ((((List.length a0) : Nat) : Int) == a1)
      (some (r1.1 == a2))
      (some false))
    (none))
  (some false))) := by kernel_rfl
theorem n113 (a0 : (Ty.den (.sl (.int .u8)))) (a1 : Int) (a2 : Int) : F113 (a0, a1, a2, ()) =
  (obind (F114 (a0, (0, (4, ())))) fun r1 =>
  (br r1.2.1
  (br (Nat.ble (List.length a0) lim)
    (br ((((List.length a0) : Nat) : Int) == a1)
      (some (r1.1 == a2))
      (some false))
    (none))
  (some false))) := N113 NN F114 a0 a1 a2
theorem N78 (N : Nat) (g113 : Ty.den (.pair (.sl (.int .u8)) (.pair (.int .i64) (.pair (.int .u64) .unit))) → Option (Ty.den .bool)) (a0 : (Ty.den (.sl (.int .u8)))) : runFn (c78 N g113) 40 78 (.pair (.sl (.int .u8)) .unit) .bool 1 (a0, ()) =
  (obind (g113 (a0, (31, (1128420181, ())))) fun r1 =>
  (some r1)) := by kernel_rfl
theorem n78 (a0 : (Ty.den (.sl (.int .u8)))) : F78 (a0, ()) =
  (obind (F113 (a0, (31, (1128420181, ())))) fun r1 =>
  (some r1)) := N78 NN F113 a0
theorem N45 (N : Nat) (g27 : Ty.den (.pair (.sl (.int .u8)) .unit) → Option (Ty.den (.sl (.int .u8)))) (g78 : Ty.den (.pair (.sl (.int .u8)) .unit) → Option (Ty.den .bool)) (g79 : Ty.den (.pair (.sl (.int .u8)) (.pair (.int .i64) .unit)) → Option (Ty.den (.int .u32))) (a0 : (Ty.den (.sl (.int .u8)))) (a1 : Int) : runFn (c45 N g27 g78 g79) 40 45 (.pair (.sl (.int .u8)) (.pair (.int .i64) .unit)) (.pair TCbw (.pair .bool .unit)) 2 (a0, a1, ()) =
  (obind (g78 (a0, ())) fun r1 =>
  (br (!r1)
  (some ((0, (0, (false, (0, ([], ()))))), (false, ())))
  (obind (idx a0 12) fun x2 =>
    (obind (idx a0 13) fun x3 =>
    (obind (idx a0 14) fun x4 =>
    (br ((bAndNot .u8 x2 128) != 0)
    (some ((0, (0, (false, (0, ([], ()))))), (false, ())))
    (br ((Int.fdiv (IntKind.i64.wrap x3) (2 ^ 4)) != 0)
      (some ((0, (0, (false, (0, ([], ()))))), (false, ())))
      (br (decide ((IntKind.i64.wrap x3) ≥ a1))
        (some ((0, (0, (false, (0, ([], ()))))), (false, ())))
        (br (decide ((IntKind.i64.wrap x4) < 1))
          (some ((0, (0, (false, (0, ([], ()))))), (false, ())))
          (br (decide ((IntKind.i64.wrap x4) > 16))
            (some ((0, (0, (false, (0, ([], ()))))), (false, ())))
            (obind (g79 (a0, (4, ()))) fun r5 =>
              (obind (g79 (a0, (8, ()))) fun r6 =>
              (br (decide ((0 : Int) ≤ 15 ∧ 15 ≤ (IntKind.i64.wrap (15 + (IntKind.i64.wrap x4))) ∧ (IntKind.i64.wrap (15 + (IntKind.i64.wrap x4))) ≤ (((List.length a0) : Nat) : Int)))
              (obind (g27 ((List.drop 15 (List.take (Int.toNat (IntKind.i64.wrap (15 + (IntKind.i64.wrap x4)))) a0)), ())) fun r7 =>
                (some ((r5, (r6, ((x2 == 128), ((IntKind.i64.wrap x3), (r7, ()))))), (true, ()))))
              (none)))))))))))))) := by kernel_rfl
theorem n45 (a0 : (Ty.den (.sl (.int .u8)))) (a1 : Int) : F45 (a0, a1, ()) =
  (obind (F78 (a0, ())) fun r1 =>
  (br (!r1)
  (some ((0, (0, (false, (0, ([], ()))))), (false, ())))
  (obind (idx a0 12) fun x2 =>
    (obind (idx a0 13) fun x3 =>
    (obind (idx a0 14) fun x4 =>
    (br ((bAndNot .u8 x2 128) != 0)
    (some ((0, (0, (false, (0, ([], ()))))), (false, ())))
    (br ((Int.fdiv (IntKind.i64.wrap x3) (2 ^ 4)) != 0)
      (some ((0, (0, (false, (0, ([], ()))))), (false, ())))
      (br (decide ((IntKind.i64.wrap x3) ≥ a1))
        (some ((0, (0, (false, (0, ([], ()))))), (false, ())))
        (br (decide ((IntKind.i64.wrap x4) < 1))
          (some ((0, (0, (false, (0, ([], ()))))), (false, ())))
          (br (decide ((IntKind.i64.wrap x4) > 16))
            (some ((0, (0, (false, (0, ([], ()))))), (false, ())))
            (obind (F79 (a0, (4, ()))) fun r5 =>
              (obind (F79 (a0, (8, ()))) fun r6 =>
              (br (decide ((0 : Int) ≤ 15 ∧ 15 ≤ (IntKind.i64.wrap (15 + (IntKind.i64.wrap x4))) ∧ (IntKind.i64.wrap (15 + (IntKind.i64.wrap x4))) ≤ (((List.length a0) : Nat) : Int)))
              (obind (F27 ((List.drop 15 (List.take (Int.toNat (IntKind.i64.wrap (15 + (IntKind.i64.wrap x4)))) a0)), ())) fun r7 =>
                (some ((r5, (r6, ((x2 == 128), ((IntKind.i64.wrap x3), (r7, ()))))), (true, ()))))
              (none)))))))))))))) := N45 NN F27 F78 F79 a0 a1
noncomputable def X77_0_0   : St := { tmps := [.dead, .dead, .dead, .dead, (.bool false), .dead, .dead, .dead, .dead, .dead, .dead, .dead, .dead, .dead, .dead, .dead, .dead, .dead, .dead, .dead, .dead, .dead, .dead, .dead, .dead, .dead], saved := [], heap := [] }
noncomputable def X77_0_1   : St := { tmps := [.dead, .dead, .dead, .dead, .dead, .dead, .dead, .dead, .dead, .dead, .dead, .dead, .dead, .dead, .dead, .dead, .dead, .dead, .dead, .dead, .dead, .dead, .dead, .dead, .dead, .dead], saved := [], heap := [] }
noncomputable def S77_0 (a0 : (Ty.den (.sl TSense))) (a1 : (Ty.den (.sl TSense))) (z77_0_2 : Int) : St := { tmps := [(.dsl TSense a0 false), (.dsl TSense a1 false), .dead, .dead, .dead, (.int .i64 z77_0_2), .dead, .dead, .dead, .dead, .dead, .dead, .dead, .dead, .dead, .dead, .dead, .dead, .dead, .dead, .dead, .dead, .dead, .dead, .dead, .dead], saved := [], heap := [] }
noncomputable def L77_0 (N : Nat)  (a0 : (Ty.den (.sl TSense))) (a1 : (Ty.den (.sl TSense))) : Nat → Int → Option (((Unit) ⊕ (Unit)))
  | 0, _ => none
  | k + 1, z77_0_2 =>
  (br (Nat.ble (List.length a0) lim)
  (br (decide (z77_0_2 < (((List.length a0) : Nat) : Int)))
    (obind (idx a0 z77_0_2) fun x1 =>
      (obind (idx a1 z77_0_2) fun x2 =>
      (br (!(Ty.eqB TSense (x1.1, (x1.2.1, (x1.2.2.1, ()))) (x2.1, (x2.2.1, (x2.2.2.1, ())))))
      (some (Sum.inl ()))
      (L77_0 N a0 a1 k (IntKind.i64.wrap (z77_0_2 + 1))))))
    (some (Sum.inr ())))
  (none))
theorem LL77_0 {R : Type} (N : Nat)  (a0 : (Ty.den (.sl TSense))) (a1 : (Ty.den (.sl TSense))) : ∀ (k : Nat) (z77_0_2 : Int) (K : Ex → St → Option R), loopR (c77 N) 40 77 (bodyF Go.Proofs.Tryz.f77).s2.s2.s1.s2.bd.bd k (S77_0 a0 a1 z77_0_2) K = obind (L77_0 N a0 a1 k z77_0_2) (Sum.elim (fun o => K .ret (X77_0_0 )) (fun o => K (.exit 0) (X77_0_1 ))) := by
  intro k
  induction k with
  | zero => intros; kernel_rfl
  | succ k ih =>
    intro z77_0_2 K
    have e : loopR (c77 N) 40 77 (bodyF Go.Proofs.Tryz.f77).s2.s2.s1.s2.bd.bd (k + 1) (S77_0 a0 a1 z77_0_2) K =
      (br (Nat.ble (List.length a0) lim)
  (br (decide (z77_0_2 < (((List.length a0) : Nat) : Int)))
    (obind (idx a0 z77_0_2) fun x1 =>
      (obind (idx a1 z77_0_2) fun x2 =>
      (br (!(Ty.eqB TSense (x1.1, (x1.2.1, (x1.2.2.1, ()))) (x2.1, (x2.2.1, (x2.2.2.1, ())))))
      (K .ret (X77_0_0 ))
      (loopR (c77 N) 40 77 (bodyF Go.Proofs.Tryz.f77).s2.s2.s1.s2.bd.bd k (S77_0 a0 a1 (IntKind.i64.wrap (z77_0_2 + 1))) K))))
    (K (.exit 0) (X77_0_1 )))
  (none)) := by kernel_rfl
    rw [e]
    simp only [ih, L77_0, obind_br, obind_obind, obind_none, obind_some_eq, Sum.elim_inl, Sum.elim_inr]
noncomputable def K77_0  (N : Nat)    : Ex → St → Option (Ty.den .bool) := (blockK 0 (seqK (fun st K => exec (c77 N) (inl (c77 N) 40) 77 (bodyF Go.Proofs.Tryz.f77).s2.s2.s2 st K) (topK Go.Proofs.Tryz.prog Go.Proofs.Tryz.f77 (fun v H => handed H .bool 1 v))))
theorem E77_0_0  (N : Nat)    : (K77_0 N  ) .ret (X77_0_0 ) =
  (some false) := by kernel_rfl
theorem E77_0_1  (N : Nat)    : (K77_0 N  ) (.exit 0) (X77_0_1 ) =
  (some true) := by kernel_rfl
theorem N77 (N : Nat)  (a0 : (Ty.den (.sl TSense))) (a1 : (Ty.den (.sl TSense))) : runFn (c77 N) 40 77 (.pair (.sl TSense) (.pair (.sl TSense) .unit)) .bool 1 (a0, a1, ()) =
  (br (Nat.ble (List.length a0) lim)
  (br (Nat.ble (List.length a1) lim)
    (br ((((List.length a0) : Nat) : Int) != (((List.length a1) : Nat) : Int))
      (some false)
      (obind (L77_0 N a0 a1 (N + 100) 0) (Sum.elim (fun o3 =>
        (some false)) (fun o4 =>
        (some true)))))
    (none))
  (none)) := by
  have e : runFn (c77 N) 40 77 (.pair (.sl TSense) (.pair (.sl TSense) .unit)) .bool 1 (a0, a1, ()) =
    (br (Nat.ble (List.length a0) lim)
  (br (Nat.ble (List.length a1) lim)
    (br ((((List.length a0) : Nat) : Int) != (((List.length a1) : Nat) : Int))
      (some false)
      (loopR (c77 N) 40 77 (bodyF Go.Proofs.Tryz.f77).s2.s2.s1.s2.bd.bd (N + 100) (S77_0 a0 a1 0) (K77_0 N  )))
    (none))
  (none)) := by kernel_rfl
  rw [e]
  simp only [LL77_0, E77_0_0, E77_0_1]
theorem n77 (a0 : (Ty.den (.sl TSense))) (a1 : (Ty.den (.sl TSense))) : F77 (a0, a1, ()) =
  (br (Nat.ble (List.length a0) lim)
  (br (Nat.ble (List.length a1) lim)
    (br ((((List.length a0) : Nat) : Int) != (((List.length a1) : Nat) : Int))
      (some false)
      (obind (L77_0 NN a0 a1 (NN + 100) 0) (Sum.elim (fun o3 =>
        (some false)) (fun o4 =>
        (some true)))))
    (none))
  (none)) := N77 NN  a0 a1
noncomputable def X149_0_0   : St := { tmps := [.dead, .dead, .dead, .dead, (.bool false), .dead, .dead, .dead, .dead, .dead, .dead, .dead, .dead, .dead, .dead, .dead, .dead, .dead, .dead, .dead, .dead, .dead, .dead, .dead, .dead, .dead], saved := [], heap := [] }
noncomputable def X149_0_1   : St := { tmps := [.dead, .dead, .dead, .dead, .dead, .dead, .dead, .dead, .dead, .dead, .dead, .dead, .dead, .dead, .dead, .dead, .dead, .dead, .dead, .dead, .dead, .dead, .dead, .dead, .dead, .dead], saved := [], heap := [] }
noncomputable def S149_0 (a0 : (Ty.den (.sl (.arr 64 (.int .u8))))) (a1 : (Ty.den (.sl (.arr 64 (.int .u8))))) (z149_0_2 : Int) : St := { tmps := [(.dsl (.arr 64 (.int .u8)) a0 false), (.dsl (.arr 64 (.int .u8)) a1 false), .dead, .dead, .dead, (.int .i64 z149_0_2), .dead, .dead, .dead, .dead, .dead, .dead, .dead, .dead, .dead, .dead, .dead, .dead, .dead, .dead, .dead, .dead, .dead, .dead, .dead, .dead], saved := [], heap := [] }
noncomputable def L149_0 (N : Nat)  (a0 : (Ty.den (.sl (.arr 64 (.int .u8))))) (a1 : (Ty.den (.sl (.arr 64 (.int .u8))))) : Nat → Int → Option (((Unit) ⊕ (Unit)))
  | 0, _ => none
  | k + 1, z149_0_2 =>
  (br (Nat.ble (List.length a0) lim)
  (br (decide (z149_0_2 < (((List.length a0) : Nat) : Int)))
    (obind (idx a0 z149_0_2) fun x1 =>
      (obind (idx a1 z149_0_2) fun x2 =>
      (br (!(Ty.eqB (.arr 64 (.int .u8)) x1 x2))
      (some (Sum.inl ()))
      (L149_0 N a0 a1 k (IntKind.i64.wrap (z149_0_2 + 1))))))
    (some (Sum.inr ())))
  (none))
theorem LL149_0 {R : Type} (N : Nat)  (a0 : (Ty.den (.sl (.arr 64 (.int .u8))))) (a1 : (Ty.den (.sl (.arr 64 (.int .u8))))) : ∀ (k : Nat) (z149_0_2 : Int) (K : Ex → St → Option R), loopR (c149 N) 40 149 (bodyF Go.Proofs.Tryz.f149).s2.s2.s1.s2.bd.bd k (S149_0 a0 a1 z149_0_2) K = obind (L149_0 N a0 a1 k z149_0_2) (Sum.elim (fun o => K .ret (X149_0_0 )) (fun o => K (.exit 0) (X149_0_1 ))) := by
  intro k
  induction k with
  | zero => intros; kernel_rfl
  | succ k ih =>
    intro z149_0_2 K
    have e : loopR (c149 N) 40 149 (bodyF Go.Proofs.Tryz.f149).s2.s2.s1.s2.bd.bd (k + 1) (S149_0 a0 a1 z149_0_2) K =
      (br (Nat.ble (List.length a0) lim)
  (br (decide (z149_0_2 < (((List.length a0) : Nat) : Int)))
    (obind (idx a0 z149_0_2) fun x1 =>
      (obind (idx a1 z149_0_2) fun x2 =>
      (br (!(Ty.eqB (.arr 64 (.int .u8)) x1 x2))
      (K .ret (X149_0_0 ))
      (loopR (c149 N) 40 149 (bodyF Go.Proofs.Tryz.f149).s2.s2.s1.s2.bd.bd k (S149_0 a0 a1 (IntKind.i64.wrap (z149_0_2 + 1))) K))))
    (K (.exit 0) (X149_0_1 )))
  (none)) := by kernel_rfl
    rw [e]
    simp only [ih, L149_0, obind_br, obind_obind, obind_none, obind_some_eq, Sum.elim_inl, Sum.elim_inr]
noncomputable def K149_0  (N : Nat)    : Ex → St → Option (Ty.den .bool) := (blockK 0 (seqK (fun st K => exec (c149 N) (inl (c149 N) 40) 149 (bodyF Go.Proofs.Tryz.f149).s2.s2.s2 st K) (topK Go.Proofs.Tryz.prog Go.Proofs.Tryz.f149 (fun v H => handed H .bool 1 v))))
theorem E149_0_0  (N : Nat)    : (K149_0 N  ) .ret (X149_0_0 ) =
  (some false) := by kernel_rfl
theorem E149_0_1  (N : Nat)    : (K149_0 N  ) (.exit 0) (X149_0_1 ) =
  (some true) := by kernel_rfl
theorem N149 (N : Nat)  (a0 : (Ty.den (.sl (.arr 64 (.int .u8))))) (a1 : (Ty.den (.sl (.arr 64 (.int .u8))))) : runFn (c149 N) 40 149 (.pair (.sl (.arr 64 (.int .u8))) (.pair (.sl (.arr 64 (.int .u8))) .unit)) .bool 1 (a0, a1, ()) =
  (br (Nat.ble (List.length a0) lim)
  (br (Nat.ble (List.length a1) lim)
    (br ((((List.length a0) : Nat) : Int) != (((List.length a1) : Nat) : Int))
      (some false)
      (obind (L149_0 N a0 a1 (N + 100) 0) (Sum.elim (fun o3 =>
        (some false)) (fun o4 =>
        (some true)))))
    (none))
  (none)) := by
  have e : runFn (c149 N) 40 149 (.pair (.sl (.arr 64 (.int .u8))) (.pair (.sl (.arr 64 (.int .u8))) .unit)) .bool 1 (a0, a1, ()) =
    (br (Nat.ble (List.length a0) lim)
  (br (Nat.ble (List.length a1) lim)
    (br ((((List.length a0) : Nat) : Int) != (((List.length a1) : Nat) : Int))
      (some false)
      (loopR (c149 N) 40 149 (bodyF Go.Proofs.Tryz.f149).s2.s2.s1.s2.bd.bd (N + 100) (S149_0 a0 a1 0) (K149_0 N  )))
    (none))
  (none)) := by kernel_rfl
  rw [e]
  simp only [LL149_0, E149_0_0, E149_0_1]
theorem n149 (a0 : (Ty.den (.sl (.arr 64 (.int .u8))))) (a1 : (Ty.den (.sl (.arr 64 (.int .u8))))) : F149 (a0, a1, ()) =
  (br (Nat.ble (List.length a0) lim)
  (br (Nat.ble (List.length a1) lim)
    (br ((((List.length a0) : Nat) : Int) != (((List.length a1) : Nat) : Int))
      (some false)
      (obind (L149_0 NN a0 a1 (NN + 100) 0) (Sum.elim (fun o3 =>
        (some false)) (fun o4 =>
        (some true)))))
    (none))
  (none)) := N149 NN  a0 a1
noncomputable def X112_0_0   : St := { tmps := [.dead, .dead, .dead, .dead, (.bool false), .dead, .dead, .dead, .dead, .dead, .dead, .dead, .dead, .dead, .dead, .dead, .dead, .dead, .dead, .dead, .dead, .dead, .dead, .dead, .dead, .dead, .dead, .dead, .dead, .dead, .dead, .dead, .dead, .dead, .dead, .dead, .dead, .dead, .dead], saved := [], heap := [] }
noncomputable def X112_0_1   : St := { tmps := [.dead, .dead, .dead, .dead, .dead, .dead, .dead, .dead, .dead, .dead, .dead, .dead, .dead, .dead, .dead, .dead, .dead, .dead, .dead, .dead, .dead, .dead, .dead, .dead, .dead, .dead, .dead, .dead, .dead, .dead, .dead, .dead, .dead, .dead, .dead, .dead, .dead, .dead, .dead], saved := [], heap := [] }
noncomputable def S112_0 (a0 : (Ty.den TMedium)) (a1 : (Ty.den TMedium)) (z112_0_0 : Int) : St := { tmps := [.dead, .dead, (.ptr 0 []), (.ptr 1 []), .dead, (.int .i64 z112_0_0), .dead, .dead, .dead, .dead, .dead, .dead, .dead, .dead, .dead, .dead, .dead, .dead, .dead, .dead, .dead, .dead, .dead, .dead, .dead, .dead, .dead, .dead, .dead, .dead, .dead, .dead, .dead, .dead, .dead, .dead, .dead, .dead, .dead], saved := [], heap := [some (.var (.pair (.dsl (.arr 64 (.int .u8)) a0.1 false) (.pair (.dsl TDirty a0.2.1 false) .unit)) false), some (.var (.pair (.dsl (.arr 64 (.int .u8)) a1.1 false) (.pair (.dsl TDirty a1.2.1 false) .unit)) false)] }
noncomputable def L112_0 (N : Nat) (g149 : Ty.den (.pair (.sl (.arr 64 (.int .u8))) (.pair (.sl (.arr 64 (.int .u8))) .unit)) → Option (Ty.den .bool)) (a0 : (Ty.den TMedium)) (a1 : (Ty.den TMedium)) : Nat → Int → Option (((Unit) ⊕ (Unit)))
  | 0, _ => none
  | k + 1, z112_0_0 =>
  (br (Nat.ble (List.length a0.2.1) lim)
  (br (decide (z112_0_0 < (((List.length a0.2.1) : Nat) : Int)))
    (obind (idx a0.2.1 z112_0_0) fun x2 =>
      (obind (idx a1.2.1 z112_0_0) fun x3 =>
      (br (!(Ty.eqB TDirty (x2.1, (x2.2.1, ())) (x3.1, (x3.2.1, ()))))
      (some (Sum.inl ()))
      (L112_0 N g149 a0 a1 k (IntKind.i64.wrap (z112_0_0 + 1))))))
    (some (Sum.inr ())))
  (none))
theorem LL112_0 {R : Type} (N : Nat) (g149 : Ty.den (.pair (.sl (.arr 64 (.int .u8))) (.pair (.sl (.arr 64 (.int .u8))) .unit)) → Option (Ty.den .bool)) (a0 : (Ty.den TMedium)) (a1 : (Ty.den TMedium)) : ∀ (k : Nat) (z112_0_0 : Int) (K : Ex → St → Option R), loopR (c112 N g149) 40 112 (bodyF Go.Proofs.Tryz.f112).s2.s2.s1.s2.bd.bd k (S112_0 a0 a1 z112_0_0) K = obind (L112_0 N g149 a0 a1 k z112_0_0) (Sum.elim (fun o => K .ret (X112_0_0 )) (fun o => K (.exit 0) (X112_0_1 ))) := by
  intro k
  induction k with
  | zero => intros; kernel_rfl
  | succ k ih =>
    intro z112_0_0 K
    have e : loopR (c112 N g149) 40 112 (bodyF Go.Proofs.Tryz.f112).s2.s2.s1.s2.bd.bd (k + 1) (S112_0 a0 a1 z112_0_0) K =
      (br (Nat.ble (List.length a0.2.1) lim)
  (br (decide (z112_0_0 < (((List.length a0.2.1) : Nat) : Int)))
    (obind (idx a0.2.1 z112_0_0) fun x2 =>
      (obind (idx a1.2.1 z112_0_0) fun x3 =>
      (br (!(Ty.eqB TDirty (x2.1, (x2.2.1, ())) (x3.1, (x3.2.1, ()))))
      (K .ret (X112_0_0 ))
      (loopR (c112 N g149) 40 112 (bodyF Go.Proofs.Tryz.f112).s2.s2.s1.s2.bd.bd k (S112_0 a0 a1 (IntKind.i64.wrap (z112_0_0 + 1))) K))))
    (K (.exit 0) (X112_0_1 )))
  (none)) := by kernel_rfl
    rw [e]
    simp only [ih, L112_0, obind_br, obind_obind, obind_none, obind_some_eq, Sum.elim_inl, Sum.elim_inr]
noncomputable def K112_0  (N : Nat) (g149 : Ty.den (.pair (.sl (.arr 64 (.int .u8))) (.pair (.sl (.arr 64 (.int .u8))) .unit)) → Option (Ty.den .bool))   : Ex → St → Option (Ty.den .bool) := (blockK 0 (seqK (fun st K => exec (c112 N g149) (inl (c112 N g149) 40) 112 (bodyF Go.Proofs.Tryz.f112).s2.s2.s2 st K) (topK Go.Proofs.Tryz.prog Go.Proofs.Tryz.f112 (fun v H => handed H .bool 1 v))))
theorem E112_0_0  (N : Nat) (g149 : Ty.den (.pair (.sl (.arr 64 (.int .u8))) (.pair (.sl (.arr 64 (.int .u8))) .unit)) → Option (Ty.den .bool))   : (K112_0 N g149  ) .ret (X112_0_0 ) =
  (some false) := by kernel_rfl
theorem E112_0_1  (N : Nat) (g149 : Ty.den (.pair (.sl (.arr 64 (.int .u8))) (.pair (.sl (.arr 64 (.int .u8))) .unit)) → Option (Ty.den .bool))   : (K112_0 N g149  ) (.exit 0) (X112_0_1 ) =
  (some true) := by kernel_rfl
theorem N112 (N : Nat) (g149 : Ty.den (.pair (.sl (.arr 64 (.int .u8))) (.pair (.sl (.arr 64 (.int .u8))) .unit)) → Option (Ty.den .bool)) (a0 : (Ty.den TMedium)) (a1 : (Ty.den TMedium)) : runFn (c112 N g149) 40 112 (.pair TMedium (.pair TMedium .unit)) .bool 1 (a0, a1, ()) =
  (obind (g149 (a0.1, (a1.1, ()))) fun r1 =>
  (br (!r1)
  (some false)
  (br (Nat.ble (List.length a0.2.1) lim)
    (br (Nat.ble (List.length a1.2.1) lim)
      (br ((((List.length a0.2.1) : Nat) : Int) != (((List.length a1.2.1) : Nat) : Int))
        (some false)
        (obind (L112_0 N g149 a0 a1 (N + 100) 0) (Sum.elim (fun o4 =>
          (some false)) (fun o5 =>
          (some true)))))
      (none))
    (none)))) := by
  have e : runFn (c112 N g149) 40 112 (.pair TMedium (.pair TMedium .unit)) .bool 1 (a0, a1, ()) =
    (obind (g149 (a0.1, (a1.1, ()))) fun r1 =>
  (br (!r1)
  (some false)
  (br (Nat.ble (List.length a0.2.1) lim)
    (br (Nat.ble (List.length a1.2.1) lim)
      (br ((((List.length a0.2.1) : Nat) : Int) != (((List.length a1.2.1) : Nat) : Int))
        (some false)
        (loopR (c112 N g149) 40 112 (bodyF Go.Proofs.Tryz.f112).s2.s2.s1.s2.bd.bd (N + 100) (S112_0 a0 a1 0) (K112_0 N g149  )))
      (none))
    (none)))) := by kernel_rfl
  rw [e]
  simp only [LL112_0, E112_0_0, E112_0_1]
theorem n112 (a0 : (Ty.den TMedium)) (a1 : (Ty.den TMedium)) : F112 (a0, a1, ()) =
  (obind (F149 (a0.1, (a1.1, ()))) fun r1 =>
  (br (!r1)
  (some false)
  (br (Nat.ble (List.length a0.2.1) lim)
    (br (Nat.ble (List.length a1.2.1) lim)
      (br ((((List.length a0.2.1) : Nat) : Int) != (((List.length a1.2.1) : Nat) : Int))
        (some false)
        (obind (L112_0 NN F149 a0 a1 (NN + 100) 0) (Sum.elim (fun o4 =>
          (some false)) (fun o5 =>
          (some true)))))
      (none))
    (none)))) := N112 NN F149 a0 a1
theorem N76 (N : Nat) (g112 : Ty.den (.pair TMedium (.pair TMedium .unit)) → Option (Ty.den .bool)) (a0 : (Ty.den TSlot)) (a1 : (Ty.den TSlot)) : runFn (c76 N g112) 40 76 (.pair TSlot (.pair TSlot .unit)) .bool 1 (a0, a1, ()) =
  (br (a0.2.1 == a1.2.1)
  (br (a0.2.2.1 == a1.2.2.1)
    (br (a0.2.2.2.1 == a1.2.2.2.1)
      (obind (g112 ((a0.1.1, (a0.1.2.1, ())), ((a1.1.1, (a1.1.2.1, ())), ()))) fun r1 =>
        (some r1))
      (some false))
    (some false))
  (some false)) := by kernel_rfl
theorem n76 (a0 : (Ty.den TSlot)) (a1 : (Ty.den TSlot)) : F76 (a0, a1, ()) =
  (br (a0.2.1 == a1.2.1)
  (br (a0.2.2.1 == a1.2.2.1)
    (br (a0.2.2.2.1 == a1.2.2.2.1)
      (obind (F112 ((a0.1.1, (a0.1.2.1, ())), ((a1.1.1, (a1.1.2.1, ())), ()))) fun r1 =>
        (some r1))
      (some false))
    (some false))
  (some false)) := N76 NN F112 a0 a1
theorem N42 (N : Nat) (g76 : Ty.den (.pair TSlot (.pair TSlot .unit)) → Option (Ty.den .bool)) (g77 : Ty.den (.pair (.sl TSense) (.pair (.sl TSense) .unit)) → Option (Ty.den .bool)) (a0 : (Ty.den TUnit)) (a1 : (Ty.den TUnit)) : runFn (c42 N g76 g77) 40 42 (.pair TUnit (.pair TUnit .unit)) .bool 1 (a0, a1, ()) =
  (obind (g76 (((a0.1.1.1, (a0.1.1.2.1, ())), (a0.1.2.1, (a0.1.2.2.1, (a0.1.2.2.2.1, ())))), (((a1.1.1.1, (a1.1.1.2.1, ())), (a1.1.2.1, (a1.1.2.2.1, (a1.1.2.2.2.1, ())))), ()))) fun r1 =>
  (br r1
  (br (a0.2.1 == a1.2.1)
    (br (Ty.eqB TSense (a0.2.2.2.1.1, (a0.2.2.2.1.2.1, (a0.2.2.2.1.2.2.1, ()))) (a1.2.2.2.1.1, (a1.2.2.2.1.2.1, (a1.2.2.2.1.2.2.1, ()))))
      (obind (g77 (a0.2.2.1, (a1.2.2.1, ()))) fun r2 =>
        (some r2))
      (some false))
    (some false))
  (some false))) := by kernel_rfl
theorem n42 (a0 : (Ty.den TUnit)) (a1 : (Ty.den TUnit)) : F42 (a0, a1, ()) =
  (obind (F76 (((a0.1.1.1, (a0.1.1.2.1, ())), (a0.1.2.1, (a0.1.2.2.1, (a0.1.2.2.2.1, ())))), (((a1.1.1.1, (a1.1.1.2.1, ())), (a1.1.2.1, (a1.1.2.2.1, (a1.1.2.2.2.1, ())))), ()))) fun r1 =>
  (br r1
  (br (a0.2.1 == a1.2.1)
    (br (Ty.eqB TSense (a0.2.2.2.1.1, (a0.2.2.2.1.2.1, (a0.2.2.2.1.2.2.1, ()))) (a1.2.2.2.1.1, (a1.2.2.2.1.2.1, (a1.2.2.2.1.2.2.1, ()))))
      (obind (F77 (a0.2.2.1, (a1.2.2.1, ()))) fun r2 =>
        (some r2))
      (some false))
    (some false))
  (some false))) := N42 NN F76 F77 a0 a1
noncomputable def X18_0_0   : St := { tmps := [.dead, .dead, .dead, .dead, (.bool false), .dead, .dead, .dead, .dead, .dead, .dead, .dead, .dead, .dead, .dead, .dead, .dead, .dead, .dead, .dead, .dead, .dead, .dead, .dead, .dead, .dead, .dead], saved := [], heap := [] }
noncomputable def X18_0_1   : St := { tmps := [.dead, .dead, .dead, .dead, .dead, .dead, .dead, .dead, .dead, .dead, .dead, .dead, .dead, .dead, .dead, .dead, .dead, .dead, .dead, .dead, .dead, .dead, .dead, .dead, .dead, .dead, .dead], saved := [], heap := [] }
noncomputable def S18_0 (a0 : (Ty.den (.sl TUnit))) (a1 : (Ty.den (.sl TUnit))) (z18_0_2 : Int) : St := { tmps := [(.dsl TUnit a0 false), (.dsl TUnit a1 false), .dead, .dead, .dead, (.int .i64 z18_0_2), .dead, .dead, .dead, .dead, .dead, .dead, .dead, .dead, .dead, .dead, .dead, .dead, .dead, .dead, .dead, .dead, .dead, .dead, .dead, .dead, .dead], saved := [], heap := [] }
noncomputable def L18_0 (N : Nat) (g42 : Ty.den (.pair TUnit (.pair TUnit .unit)) → Option (Ty.den .bool)) (a0 : (Ty.den (.sl TUnit))) (a1 : (Ty.den (.sl TUnit))) : Nat → Int → Option (((Unit) ⊕ (Unit)))
  | 0, _ => none
  | k + 1, z18_0_2 =>
  (br (Nat.ble (List.length a0) lim)
  (br (decide (z18_0_2 < (((List.length a0) : Nat) : Int)))
    (obind (idx a0 z18_0_2) fun x1 =>
      (obind (idx a1 z18_0_2) fun x2 =>
      (obind (g42 ((((x1.1.1.1, (x1.1.1.2.1, ())), (x1.1.2.1, (x1.1.2.2.1, (x1.1.2.2.2.1, ())))), (x1.2.1, (x1.2.2.1, ((x1.2.2.2.1.1, (x1.2.2.2.1.2.1, (x1.2.2.2.1.2.2.1, ()))), ())))), ((((x2.1.1.1, (x2.1.1.2.1, ())), (x2.1.2.1, (x2.1.2.2.1, (x2.1.2.2.2.1, ())))), (x2.2.1, (x2.2.2.1, ((x2.2.2.2.1.1, (x2.2.2.2.1.2.1, (x2.2.2.2.1.2.2.1, ()))), ())))), ()))) fun r3 =>
      (br (!r3)
      (some (Sum.inl ()))
      (L18_0 N g42 a0 a1 k (IntKind.i64.wrap (z18_0_2 + 1)))))))
    (some (Sum.inr ())))
  (none))
theorem LL18_0 {R : Type} (N : Nat) (g42 : Ty.den (.pair TUnit (.pair TUnit .unit)) → Option (Ty.den .bool)) (a0 : (Ty.den (.sl TUnit))) (a1 : (Ty.den (.sl TUnit))) : ∀ (k : Nat) (z18_0_2 : Int) (K : Ex → St → Option R), loopR (c18 N g42) 40 18 (bodyF Go.Proofs.Tryz.f18).s2.s2.s1.s2.bd.bd k (S18_0 a0 a1 z18_0_2) K = obind (L18_0 N g42 a0 a1 k z18_0_2) (Sum.elim (fun o => K .ret (X18_0_0 )) (fun o => K (.exit 0) (X18_0_1 ))) := by
  intro k
  induction k with
  | zero => intros; kernel_rfl
  | succ k ih =>
    intro z18_0_2 K
    have e : loopR (c18 N g42) 40 18 (bodyF Go.Proofs.Tryz.f18).s2.s2.s1.s2.bd.bd (k + 1) (S18_0 a0 a1 z18_0_2) K =
      (br (Nat.ble (List.length a0) lim)
  (br (decide (z18_0_2 < (((List.length a0) : Nat) : Int)))
    (obind (idx a0 z18_0_2) fun x1 =>
      (obind (idx a1 z18_0_2) fun x2 =>
      (obind (g42 ((((x1.1.1.1, (x1.1.1.2.1, ())), (x1.1.2.1, (x1.1.2.2.1, (x1.1.2.2.2.1, ())))), (x1.2.1, (x1.2.2.1, ((x1.2.2.2.1.1, (x1.2.2.2.1.2.1, (x1.2.2.2.1.2.2.1, ()))), ())))), ((((x2.1.1.1, (x2.1.1.2.1, ())), (x2.1.2.1, (x2.1.2.2.1, (x2.1.2.2.2.1, ())))), (x2.2.1, (x2.2.2.1, ((x2.2.2.2.1.1, (x2.2.2.2.1.2.1, (x2.2.2.2.1.2.2.1, ()))), ())))), ()))) fun r3 =>
      (br (!r3)
      (K .ret (X18_0_0 ))
      (loopR (c18 N g42) 40 18 (bodyF Go.Proofs.Tryz.f18).s2.s2.s1.s2.bd.bd k (S18_0 a0 a1 (IntKind.i64.wrap (z18_0_2 + 1))) K)))))
    (K (.exit 0) (X18_0_1 )))
  (none)) := by kernel_rfl
    rw [e]
    simp only [ih, L18_0, obind_br, obind_obind, obind_none, obind_some_eq, Sum.elim_inl, Sum.elim_inr]
noncomputable def K18_0  (N : Nat) (g42 : Ty.den (.pair TUnit (.pair TUnit .unit)) → Option (Ty.den .bool))   : Ex → St → Option (Ty.den .bool) := (blockK 0 (seqK (fun st K => exec (c18 N g42) (inl (c18 N g42) 40) 18 (bodyF Go.Proofs.Tryz.f18).s2.s2.s2 st K) (topK Go.Proofs.Tryz.prog Go.Proofs.Tryz.f18 (fun v H => handed H .bool 1 v))))
theorem E18_0_0  (N : Nat) (g42 : Ty.den (.pair TUnit (.pair TUnit .unit)) → Option (Ty.den .bool))   : (K18_0 N g42  ) .ret (X18_0_0 ) =
  (some false) := by kernel_rfl
theorem E18_0_1  (N : Nat) (g42 : Ty.den (.pair TUnit (.pair TUnit .unit)) → Option (Ty.den .bool))   : (K18_0 N g42  ) (.exit 0) (X18_0_1 ) =
  (some true) := by kernel_rfl
theorem N18 (N : Nat) (g42 : Ty.den (.pair TUnit (.pair TUnit .unit)) → Option (Ty.den .bool)) (a0 : (Ty.den (.sl TUnit))) (a1 : (Ty.den (.sl TUnit))) : runFn (c18 N g42) 40 18 (.pair (.sl TUnit) (.pair (.sl TUnit) .unit)) .bool 1 (a0, a1, ()) =
  (br (Nat.ble (List.length a0) lim)
  (br (Nat.ble (List.length a1) lim)
    (br ((((List.length a0) : Nat) : Int) != (((List.length a1) : Nat) : Int))
      (some false)
      (obind (L18_0 N g42 a0 a1 (N + 100) 0) (Sum.elim (fun o4 =>
        (some false)) (fun o5 =>
        (some true)))))
    (none))
  (none)) := by
  have e : runFn (c18 N g42) 40 18 (.pair (.sl TUnit) (.pair (.sl TUnit) .unit)) .bool 1 (a0, a1, ()) =
    (br (Nat.ble (List.length a0) lim)
  (br (Nat.ble (List.length a1) lim)
    (br ((((List.length a0) : Nat) : Int) != (((List.length a1) : Nat) : Int))
      (some false)
      (loopR (c18 N g42) 40 18 (bodyF Go.Proofs.Tryz.f18).s2.s2.s1.s2.bd.bd (N + 100) (S18_0 a0 a1 0) (K18_0 N g42  )))
    (none))
  (none)) := by kernel_rfl
  rw [e]
  simp only [LL18_0, E18_0_0, E18_0_1]
theorem n18 (a0 : (Ty.den (.sl TUnit))) (a1 : (Ty.den (.sl TUnit))) : F18 (a0, a1, ()) =
  (br (Nat.ble (List.length a0) lim)
  (br (Nat.ble (List.length a1) lim)
    (br ((((List.length a0) : Nat) : Int) != (((List.length a1) : Nat) : Int))
      (some false)
      (obind (L18_0 NN F42 a0 a1 (NN + 100) 0) (Sum.elim (fun o4 =>
        (some false)) (fun o5 =>
        (some true)))))
    (none))
  (none)) := N18 NN F42 a0 a1
theorem N10z (N : Nat) (g21 : Ty.den (.pair TBulk .unit) → Option (Ty.den .bool)) (g27 : Ty.den (.pair (.sl (.int .u8)) .unit) → Option (Ty.den (.sl (.int .u8)))) (g45 : Ty.den (.pair (.sl (.int .u8)) (.pair (.int .i64) .unit)) → Option (Ty.den (.pair TCbw (.pair .bool .unit)))) (g46 : Ty.den (.pair (.sl TUnit) (.pair (.int .i64) (.pair (.sl (.int .u8)) .unit))) → Option (Ty.den (.pair (.sl TUnit) (.pair TIntent .unit)))) (g47 : Ty.den (.pair (.int .i64) (.pair .bool .unit)) → Option (Ty.den TPlan)) (g48 : Ty.den (.pair TCbw (.pair TIntent .unit)) → Option (Ty.den (.int .i64))) (g49 : Ty.den (.pair TSense .unit) → Option (Ty.den .bool)) (g52 : Ty.den (.pair (.sl TUnit) (.pair (.int .i64) (.pair TJob (.pair (.sl (.int .u8)) .unit)))) → Option (Ty.den (.pair (.sl TUnit) (.pair TJob .unit)))) (g89 : Ty.den (.pair (.sl TUnit) (.pair (.int .i64) (.pair TJob .unit))) → Option (Ty.den (.pair (.sl TUnit) (.pair TSense .unit)))) (g90 : Ty.den (.pair (.sl TUnit) (.pair (.int .i64) (.pair TSense .unit))) → Option (Ty.den (.sl TUnit))) (a1 : (List (Ty.den TUnit))) (a2 : (List Int)) (a3 : Bool) : runFn (c10 N g21 g27 g45 g46 g47 g48 g49 g52 g89 g90) 40 10 (.pair TBulk (.pair (.sl TUnit) THow)) (.pair TBulk (.pair (.sl TUnit) .unit)) 2 ((0, ((0, (0, (false, (0, ([], ()))))), ([], (((0, (0, (0, (0, (0, ()))))), (0, (0, ([], ((0, (0, (0, ()))), ()))))), (false, (0, (0, (0, ((0, (0, (0, ()))), (false, (false, ()))))))))))), a1, a2, a3, ()) =
  (obind (g21 ((0, ((0, (0, (false, (0, ([], ()))))), ([], (((0, (0, (0, (0, (0, ()))))), (0, (0, ([], ((0, (0, (0, ()))), ()))))), (false, (0, (0, (0, ((0, (0, (0, ()))), (false, (false, ()))))))))))), ())) fun r1 =>
  (br (!r1)
  (some ((0, ((0, (0, (false, (0, ([], ()))))), ([], (((0, (0, (0, (0, (0, ()))))), (0, (0, ([], ((0, (0, (0, ()))), ()))))), (false, (0, (0, (0, ((0, (0, (0, ()))), (false, (false, ()))))))))))), (a1, ())))
  (br (Nat.ble (List.length a1) lim)
    (obind (g45 (a2, ((((List.length a1) : Nat) : Int), ()))) fun r2 =>
      (br (!r2.2.1)
      (some ((4, ((0, (0, (false, (0, ([], ()))))), ([], (((0, (0, (0, (0, (0, ()))))), (0, (0, ([], ((0, (0, (0, ()))), ()))))), (false, (0, (0, (0, ((0, (0, (0, ()))), (true, (true, ()))))))))))), (a1, ())))
      (obind (g46 (a1, (r2.1.2.2.2.1, (r2.1.2.2.2.2.1, ())))) fun r3 =>
        (obind (g48 ((r2.1.1, (r2.1.2.1, (r2.1.2.2.1, (r2.1.2.2.2.1, (r2.1.2.2.2.2.1, ()))))), ((r3.2.1.1, (r3.2.1.2.1, (r3.2.1.2.2.1, (((r3.2.1.2.2.2.1.1.1, (r3.2.1.2.2.2.1.1.2.1, (r3.2.1.2.2.2.1.1.2.2.1, (r3.2.1.2.2.2.1.1.2.2.2.1, (r3.2.1.2.2.2.1.1.2.2.2.2.1, ()))))), (r3.2.1.2.2.2.1.2.1, (r3.2.1.2.2.2.1.2.2.1, (r3.2.1.2.2.2.1.2.2.2.1, ((r3.2.1.2.2.2.1.2.2.2.2.1.1, (r3.2.1.2.2.2.1.2.2.2.2.1.2.1, (r3.2.1.2.2.2.1.2.2.2.2.1.2.2.1, ()))), ()))))), ((r3.2.1.2.2.2.2.1.1, (r3.2.1.2.2.2.2.1.2.1, (r3.2.1.2.2.2.2.1.2.2.1, ()))), ()))))), ()))) fun r4 =>
        (obind (g47 (r4, (a3, ()))) fun r5 =>
        (br r5.2.2.2.1
        (br r5.2.2.1
          (br (r5.1 == 1)
            (br (Nat.ble (List.length r3.2.1.2.2.1) lim)
              (br (decide ((0 : Int) ≤ 0 ∧ 0 ≤ (min (((List.length r3.2.1.2.2.1) : Nat) : Int) (IntKind.i64.wrap r2.1.2.1)) ∧ (min (((List.length r3.2.1.2.2.1) : Nat) : Int) (IntKind.i64.wrap r2.1.2.1)) ≤ (((List.length r3.2.1.2.2.1) : Nat) : Int)))
                (obind (g27 ((List.take (Int.toNat (min (((List.length r3.2.1.2.2.1) : Nat) : Int) (IntKind.i64.wrap r2.1.2.1))) r3.2.1.2.2.1), ())) fun r6 =>
                  (some ((r5.1, ((r2.1.1, (r2.1.2.1, (r2.1.2.2.1, (r2.1.2.2.2.1, (r2.1.2.2.2.2.1, ()))))), (r6, (((r3.2.1.2.2.2.1.1.1, (r3.2.1.2.2.2.1.1.2.1, (r3.2.1.2.2.2.1.1.2.2.1, (r3.2.1.2.2.2.1.1.2.2.2.1, (r3.2.1.2.2.2.1.1.2.2.2.2.1, ()))))), (r3.2.1.2.2.2.1.2.1, (r3.2.1.2.2.2.1.2.2.1, (r3.2.1.2.2.2.1.2.2.2.1, ((r3.2.1.2.2.2.1.2.2.2.2.1.1, (r3.2.1.2.2.2.1.2.2.2.2.1.2.1, (r3.2.1.2.2.2.1.2.2.2.2.1.2.2.1, ()))), ()))))), (true, ((IntKind.i64.wrap r2.1.2.1), (0, (2, ((r3.2.1.2.2.2.2.1.1, (r3.2.1.2.2.2.2.1.2.1, (r3.2.1.2.2.2.2.1.2.2.1, ()))), ((r5.2.1 == 1), ((r5.2.1 == 2), ()))))))))))), (r3.1, ()))))
                (none))
              (none))
            (br (r5.1 == 3)
              (obind (g89 (r3.1, (r2.1.2.2.2.1, (((r3.2.1.2.2.2.1.1.1, (r3.2.1.2.2.2.1.1.2.1, (r3.2.1.2.2.2.1.1.2.2.1, (r3.2.1.2.2.2.1.1.2.2.2.1, (r3.2.1.2.2.2.1.1.2.2.2.2.1, ()))))), (r3.2.1.2.2.2.1.2.1, (r3.2.1.2.2.2.1.2.2.1, (r3.2.1.2.2.2.1.2.2.2.1, ((r3.2.1.2.2.2.1.2.2.2.2.1.1, (r3.2.1.2.2.2.1.2.2.2.2.1.2.1, (r3.2.1.2.2.2.1.2.2.2.2.1.2.2.1, ()))), ()))))), ())))) fun r7 =>
                (obind (g90 (r7.1, (r2.1.2.2.2.1, ((r7.2.1.1, (r7.2.1.2.1, (r7.2.1.2.2.1, ()))), ())))) fun r8 =>
                (some ((3, ((r2.1.1, (r2.1.2.1, (r2.1.2.2.1, (r2.1.2.2.2.1, (r2.1.2.2.2.2.1, ()))))), ([], (((0, (0, (0, (0, (0, ()))))), (0, (0, ([], ((0, (0, (0, ()))), ()))))), (false, ((IntKind.i64.wrap r2.1.2.1), (0, (2, ((r7.2.1.1, (r7.2.1.2.1, (r7.2.1.2.2.1, ()))), ((r5.2.1 == 1), ((r5.2.1 == 2), ()))))))))))), (r8, ())))))
              (some ((r5.1, ((r2.1.1, (r2.1.2.1, (r2.1.2.2.1, (r2.1.2.2.2.1, (r2.1.2.2.2.2.1, ()))))), ([], (((r3.2.1.2.2.2.1.1.1, (r3.2.1.2.2.2.1.1.2.1, (r3.2.1.2.2.2.1.1.2.2.1, (r3.2.1.2.2.2.1.1.2.2.2.1, (r3.2.1.2.2.2.1.1.2.2.2.2.1, ()))))), (r3.2.1.2.2.2.1.2.1, (r3.2.1.2.2.2.1.2.2.1, (r3.2.1.2.2.2.1.2.2.2.1, ((r3.2.1.2.2.2.1.2.2.2.2.1.1, (r3.2.1.2.2.2.1.2.2.2.2.1.2.1, (r3.2.1.2.2.2.1.2.2.2.2.1.2.2.1, ()))), ()))))), (true, ((IntKind.i64.wrap r2.1.2.1), (0, (2, ((r3.2.1.2.2.2.2.1.1, (r3.2.1.2.2.2.2.1.2.1, (r3.2.1.2.2.2.2.1.2.2.1, ()))), ((r5.2.1 == 1), ((r5.2.1 == 2), ()))))))))))), (r3.1, ())))))
          (br (r5.1 == 1)
            (br (Nat.ble (List.length r3.2.1.2.2.1) lim)
              (br (decide ((0 : Int) ≤ 0 ∧ 0 ≤ (min (((List.length r3.2.1.2.2.1) : Nat) : Int) (IntKind.i64.wrap r2.1.2.1)) ∧ (min (((List.length r3.2.1.2.2.1) : Nat) : Int) (IntKind.i64.wrap r2.1.2.1)) ≤ (((List.length r3.2.1.2.2.1) : Nat) : Int)))
                (obind (g27 ((List.take (Int.toNat (min (((List.length r3.2.1.2.2.1) : Nat) : Int) (IntKind.i64.wrap r2.1.2.1))) r3.2.1.2.2.1), ())) fun r9 =>
                  (some ((r5.1, ((r2.1.1, (r2.1.2.1, (r2.1.2.2.1, (r2.1.2.2.2.1, (r2.1.2.2.2.2.1, ()))))), (r9, (((0, (0, (0, (0, (0, ()))))), (0, (0, ([], ((0, (0, (0, ()))), ()))))), (false, ((IntKind.i64.wrap r2.1.2.1), (0, (2, ((r3.2.1.2.2.2.2.1.1, (r3.2.1.2.2.2.2.1.2.1, (r3.2.1.2.2.2.2.1.2.2.1, ()))), ((r5.2.1 == 1), ((r5.2.1 == 2), ()))))))))))), (r3.1, ()))))
                (none))
              (none))
            (br (r5.1 == 3)
              (obind (g90 (r3.1, (r2.1.2.2.2.1, ((r3.2.1.2.2.2.2.1.1, (r3.2.1.2.2.2.2.1.2.1, (r3.2.1.2.2.2.2.1.2.2.1, ()))), ())))) fun r10 =>
                (some ((3, ((r2.1.1, (r2.1.2.1, (r2.1.2.2.1, (r2.1.2.2.2.1, (r2.1.2.2.2.2.1, ()))))), ([], (((0, (0, (0, (0, (0, ()))))), (0, (0, ([], ((0, (0, (0, ()))), ()))))), (false, ((IntKind.i64.wrap r2.1.2.1), (0, (2, ((r3.2.1.2.2.2.2.1.1, (r3.2.1.2.2.2.2.1.2.1, (r3.2.1.2.2.2.2.1.2.2.1, ()))), ((r5.2.1 == 1), ((r5.2.1 == 2), ()))))))))))), (r10, ()))))
              (some ((r5.1, ((r2.1.1, (r2.1.2.1, (r2.1.2.2.1, (r2.1.2.2.2.1, (r2.1.2.2.2.2.1, ()))))), ([], (((0, (0, (0, (0, (0, ()))))), (0, (0, ([], ((0, (0, (0, ()))), ()))))), (false, ((IntKind.i64.wrap r2.1.2.1), (0, (2, ((r3.2.1.2.2.2.2.1.1, (r3.2.1.2.2.2.2.1.2.1, (r3.2.1.2.2.2.2.1.2.2.1, ()))), ((r5.2.1 == 1), ((r5.2.1 == 2), ()))))))))))), (r3.1, ()))))))
        (obind (g49 ((r3.2.1.2.2.2.2.1.1, (r3.2.1.2.2.2.2.1.2.1, (r3.2.1.2.2.2.2.1.2.2.1, ()))), ())) fun r11 =>
          (br (!r11)
          (br r5.2.2.1
            (br (r5.1 == 1)
              (br (Nat.ble (List.length r3.2.1.2.2.1) lim)
                (br (decide ((0 : Int) ≤ 0 ∧ 0 ≤ (min (((List.length r3.2.1.2.2.1) : Nat) : Int) (IntKind.i64.wrap r2.1.2.1)) ∧ (min (((List.length r3.2.1.2.2.1) : Nat) : Int) (IntKind.i64.wrap r2.1.2.1)) ≤ (((List.length r3.2.1.2.2.1) : Nat) : Int)))
                  (obind (g27 ((List.take (Int.toNat (min (((List.length r3.2.1.2.2.1) : Nat) : Int) (IntKind.i64.wrap r2.1.2.1))) r3.2.1.2.2.1), ())) fun r12 =>
                    (some ((r5.1, ((r2.1.1, (r2.1.2.1, (r2.1.2.2.1, (r2.1.2.2.2.1, (r2.1.2.2.2.2.1, ()))))), (r12, (((r3.2.1.2.2.2.1.1.1, (r3.2.1.2.2.2.1.1.2.1, (r3.2.1.2.2.2.1.1.2.2.1, (r3.2.1.2.2.2.1.1.2.2.2.1, (r3.2.1.2.2.2.1.1.2.2.2.2.1, ()))))), (r3.2.1.2.2.2.1.2.1, (r3.2.1.2.2.2.1.2.2.1, (r3.2.1.2.2.2.1.2.2.2.1, ((r3.2.1.2.2.2.1.2.2.2.2.1.1, (r3.2.1.2.2.2.1.2.2.2.2.1.2.1, (r3.2.1.2.2.2.1.2.2.2.2.1.2.2.1, ()))), ()))))), (true, ((IntKind.i64.wrap r2.1.2.1), (0, (1, ((r3.2.1.2.2.2.2.1.1, (r3.2.1.2.2.2.2.1.2.1, (r3.2.1.2.2.2.2.1.2.2.1, ()))), ((r5.2.1 == 1), ((r5.2.1 == 2), ()))))))))))), (r3.1, ()))))
                  (none))
                (none))
              (br (r5.1 == 3)
                (obind (g89 (r3.1, (r2.1.2.2.2.1, (((r3.2.1.2.2.2.1.1.1, (r3.2.1.2.2.2.1.1.2.1, (r3.2.1.2.2.2.1.1.2.2.1, (r3.2.1.2.2.2.1.1.2.2.2.1, (r3.2.1.2.2.2.1.1.2.2.2.2.1, ()))))), (r3.2.1.2.2.2.1.2.1, (r3.2.1.2.2.2.1.2.2.1, (r3.2.1.2.2.2.1.2.2.2.1, ((r3.2.1.2.2.2.1.2.2.2.2.1.1, (r3.2.1.2.2.2.1.2.2.2.2.1.2.1, (r3.2.1.2.2.2.1.2.2.2.2.1.2.2.1, ()))), ()))))), ())))) fun r13 =>
                  (obind (g90 (r13.1, (r2.1.2.2.2.1, ((r13.2.1.1, (r13.2.1.2.1, (r13.2.1.2.2.1, ()))), ())))) fun r14 =>
                  (some ((3, ((r2.1.1, (r2.1.2.1, (r2.1.2.2.1, (r2.1.2.2.2.1, (r2.1.2.2.2.2.1, ()))))), ([], (((0, (0, (0, (0, (0, ()))))), (0, (0, ([], ((0, (0, (0, ()))), ()))))), (false, ((IntKind.i64.wrap r2.1.2.1), (0, (1, ((r13.2.1.1, (r13.2.1.2.1, (r13.2.1.2.2.1, ()))), ((r5.2.1 == 1), ((r5.2.1 == 2), ()))))))))))), (r14, ())))))
                (some ((r5.1, ((r2.1.1, (r2.1.2.1, (r2.1.2.2.1, (r2.1.2.2.2.1, (r2.1.2.2.2.2.1, ()))))), ([], (((r3.2.1.2.2.2.1.1.1, (r3.2.1.2.2.2.1.1.2.1, (r3.2.1.2.2.2.1.1.2.2.1, (r3.2.1.2.2.2.1.1.2.2.2.1, (r3.2.1.2.2.2.1.1.2.2.2.2.1, ()))))), (r3.2.1.2.2.2.1.2.1, (r3.2.1.2.2.2.1.2.2.1, (r3.2.1.2.2.2.1.2.2.2.1, ((r3.2.1.2.2.2.1.2.2.2.2.1.1, (r3.2.1.2.2.2.1.2.2.2.2.1.2.1, (r3.2.1.2.2.2.1.2.2.2.2.1.2.2.1, ()))), ()))))), (true, ((IntKind.i64.wrap r2.1.2.1), (0, (1, ((r3.2.1.2.2.2.2.1.1, (r3.2.1.2.2.2.2.1.2.1, (r3.2.1.2.2.2.2.1.2.2.1, ()))), ((r5.2.1 == 1), ((r5.2.1 == 2), ()))))))))))), (r3.1, ())))))
            (br (r5.1 == 1)
              (br (Nat.ble (List.length r3.2.1.2.2.1) lim)
                (br (decide ((0 : Int) ≤ 0 ∧ 0 ≤ (min (((List.length r3.2.1.2.2.1) : Nat) : Int) (IntKind.i64.wrap r2.1.2.1)) ∧ (min (((List.length r3.2.1.2.2.1) : Nat) : Int) (IntKind.i64.wrap r2.1.2.1)) ≤ (((List.length r3.2.1.2.2.1) : Nat) : Int)))
                  (obind (g27 ((List.take (Int.toNat (min (((List.length r3.2.1.2.2.1) : Nat) : Int) (IntKind.i64.wrap r2.1.2.1))) r3.2.1.2.2.1), ())) fun r15 =>
                    (some ((r5.1, ((r2.1.1, (r2.1.2.1, (r2.1.2.2.1, (r2.1.2.2.2.1, (r2.1.2.2.2.2.1, ()))))), (r15, (((0, (0, (0, (0, (0, ()))))), (0, (0, ([], ((0, (0, (0, ()))), ()))))), (false, ((IntKind.i64.wrap r2.1.2.1), (0, (1, ((r3.2.1.2.2.2.2.1.1, (r3.2.1.2.2.2.2.1.2.1, (r3.2.1.2.2.2.2.1.2.2.1, ()))), ((r5.2.1 == 1), ((r5.2.1 == 2), ()))))))))))), (r3.1, ()))))
                  (none))
                (none))
              (br (r5.1 == 3)
                (obind (g90 (r3.1, (r2.1.2.2.2.1, ((r3.2.1.2.2.2.2.1.1, (r3.2.1.2.2.2.2.1.2.1, (r3.2.1.2.2.2.2.1.2.2.1, ()))), ())))) fun r16 =>
                  (some ((3, ((r2.1.1, (r2.1.2.1, (r2.1.2.2.1, (r2.1.2.2.2.1, (r2.1.2.2.2.2.1, ()))))), ([], (((0, (0, (0, (0, (0, ()))))), (0, (0, ([], ((0, (0, (0, ()))), ()))))), (false, ((IntKind.i64.wrap r2.1.2.1), (0, (1, ((r3.2.1.2.2.2.2.1.1, (r3.2.1.2.2.2.2.1.2.1, (r3.2.1.2.2.2.2.1.2.2.1, ()))), ((r5.2.1 == 1), ((r5.2.1 == 2), ()))))))))))), (r16, ()))))
                (some ((r5.1, ((r2.1.1, (r2.1.2.1, (r2.1.2.2.1, (r2.1.2.2.2.1, (r2.1.2.2.2.2.1, ()))))), ([], (((0, (0, (0, (0, (0, ()))))), (0, (0, ([], ((0, (0, (0, ()))), ()))))), (false, ((IntKind.i64.wrap r2.1.2.1), (0, (1, ((r3.2.1.2.2.2.2.1.1, (r3.2.1.2.2.2.2.1.2.1, (r3.2.1.2.2.2.2.1.2.2.1, ()))), ((r5.2.1 == 1), ((r5.2.1 == 2), ()))))))))))), (r3.1, ()))))))
          (br r5.2.2.1
            (br (r5.1 == 1)
              (br (Nat.ble (List.length r3.2.1.2.2.1) lim)
                (br (decide ((0 : Int) ≤ 0 ∧ 0 ≤ (min (((List.length r3.2.1.2.2.1) : Nat) : Int) (IntKind.i64.wrap r2.1.2.1)) ∧ (min (((List.length r3.2.1.2.2.1) : Nat) : Int) (IntKind.i64.wrap r2.1.2.1)) ≤ (((List.length r3.2.1.2.2.1) : Nat) : Int)))
                  (obind (g27 ((List.take (Int.toNat (min (((List.length r3.2.1.2.2.1) : Nat) : Int) (IntKind.i64.wrap r2.1.2.1))) r3.2.1.2.2.1), ())) fun r17 =>
                    (some ((r5.1, ((r2.1.1, (r2.1.2.1, (r2.1.2.2.1, (r2.1.2.2.2.1, (r2.1.2.2.2.2.1, ()))))), (r17, (((r3.2.1.2.2.2.1.1.1, (r3.2.1.2.2.2.1.1.2.1, (r3.2.1.2.2.2.1.1.2.2.1, (r3.2.1.2.2.2.1.1.2.2.2.1, (r3.2.1.2.2.2.1.1.2.2.2.2.1, ()))))), (r3.2.1.2.2.2.1.2.1, (r3.2.1.2.2.2.1.2.2.1, (r3.2.1.2.2.2.1.2.2.2.1, ((r3.2.1.2.2.2.1.2.2.2.2.1.1, (r3.2.1.2.2.2.1.2.2.2.2.1.2.1, (r3.2.1.2.2.2.1.2.2.2.2.1.2.2.1, ()))), ()))))), (true, ((IntKind.i64.wrap r2.1.2.1), (0, (0, ((r3.2.1.2.2.2.2.1.1, (r3.2.1.2.2.2.2.1.2.1, (r3.2.1.2.2.2.2.1.2.2.1, ()))), ((r5.2.1 == 1), ((r5.2.1 == 2), ()))))))))))), (r3.1, ()))))
                  (none))
                (none))
              (br (r5.1 == 3)
                (obind (g89 (r3.1, (r2.1.2.2.2.1, (((r3.2.1.2.2.2.1.1.1, (r3.2.1.2.2.2.1.1.2.1, (r3.2.1.2.2.2.1.1.2.2.1, (r3.2.1.2.2.2.1.1.2.2.2.1, (r3.2.1.2.2.2.1.1.2.2.2.2.1, ()))))), (r3.2.1.2.2.2.1.2.1, (r3.2.1.2.2.2.1.2.2.1, (r3.2.1.2.2.2.1.2.2.2.1, ((r3.2.1.2.2.2.1.2.2.2.2.1.1, (r3.2.1.2.2.2.1.2.2.2.2.1.2.1, (r3.2.1.2.2.2.1.2.2.2.2.1.2.2.1, ()))), ()))))), ())))) fun r18 =>
                  (obind (g49 ((r18.2.1.1, (r18.2.1.2.1, (r18.2.1.2.2.1, ()))), ())) fun r19 =>
                  (br (!r19)
                  (obind (g90 (r18.1, (r2.1.2.2.2.1, ((r18.2.1.1, (r18.2.1.2.1, (r18.2.1.2.2.1, ()))), ())))) fun r20 =>
                    (some ((3, ((r2.1.1, (r2.1.2.1, (r2.1.2.2.1, (r2.1.2.2.2.1, (r2.1.2.2.2.2.1, ()))))), ([], (((0, (0, (0, (0, (0, ()))))), (0, (0, ([], ((0, (0, (0, ()))), ()))))), (false, ((IntKind.i64.wrap r2.1.2.1), (0, (1, ((r18.2.1.1, (r18.2.1.2.1, (r18.2.1.2.2.1, ()))), ((r5.2.1 == 1), ((r5.2.1 == 2), ()))))))))))), (r20, ()))))
                  (obind (g90 (r18.1, (r2.1.2.2.2.1, ((r18.2.1.1, (r18.2.1.2.1, (r18.2.1.2.2.1, ()))), ())))) fun r21 =>
                    (some ((3, ((r2.1.1, (r2.1.2.1, (r2.1.2.2.1, (r2.1.2.2.2.1, (r2.1.2.2.2.2.1, ()))))), ([], (((0, (0, (0, (0, (0, ()))))), (0, (0, ([], ((0, (0, (0, ()))), ()))))), (false, ((IntKind.i64.wrap r2.1.2.1), (0, (0, ((r18.2.1.1, (r18.2.1.2.1, (r18.2.1.2.2.1, ()))), ((r5.2.1 == 1), ((r5.2.1 == 2), ()))))))))))), (r21, ())))))))
                (some ((r5.1, ((r2.1.1, (r2.1.2.1, (r2.1.2.2.1, (r2.1.2.2.2.1, (r2.1.2.2.2.2.1, ()))))), ([], (((r3.2.1.2.2.2.1.1.1, (r3.2.1.2.2.2.1.1.2.1, (r3.2.1.2.2.2.1.1.2.2.1, (r3.2.1.2.2.2.1.1.2.2.2.1, (r3.2.1.2.2.2.1.1.2.2.2.2.1, ()))))), (r3.2.1.2.2.2.1.2.1, (r3.2.1.2.2.2.1.2.2.1, (r3.2.1.2.2.2.1.2.2.2.1, ((r3.2.1.2.2.2.1.2.2.2.2.1.1, (r3.2.1.2.2.2.1.2.2.2.2.1.2.1, (r3.2.1.2.2.2.1.2.2.2.2.1.2.2.1, ()))), ()))))), (true, ((IntKind.i64.wrap r2.1.2.1), (0, (0, ((r3.2.1.2.2.2.2.1.1, (r3.2.1.2.2.2.2.1.2.1, (r3.2.1.2.2.2.2.1.2.2.1, ()))), ((r5.2.1 == 1), ((r5.2.1 == 2), ()))))))))))), (r3.1, ())))))
            (br (r5.1 == 1)
              (br (Nat.ble (List.length r3.2.1.2.2.1) lim)
                (br (decide ((0 : Int) ≤ 0 ∧ 0 ≤ (min (((List.length r3.2.1.2.2.1) : Nat) : Int) (IntKind.i64.wrap r2.1.2.1)) ∧ (min (((List.length r3.2.1.2.2.1) : Nat) : Int) (IntKind.i64.wrap r2.1.2.1)) ≤ (((List.length r3.2.1.2.2.1) : Nat) : Int)))
                  (obind (g27 ((List.take (Int.toNat (min (((List.length r3.2.1.2.2.1) : Nat) : Int) (IntKind.i64.wrap r2.1.2.1))) r3.2.1.2.2.1), ())) fun r22 =>
                    (some ((r5.1, ((r2.1.1, (r2.1.2.1, (r2.1.2.2.1, (r2.1.2.2.2.1, (r2.1.2.2.2.2.1, ()))))), (r22, (((0, (0, (0, (0, (0, ()))))), (0, (0, ([], ((0, (0, (0, ()))), ()))))), (false, ((IntKind.i64.wrap r2.1.2.1), (0, (0, ((r3.2.1.2.2.2.2.1.1, (r3.2.1.2.2.2.2.1.2.1, (r3.2.1.2.2.2.2.1.2.2.1, ()))), ((r5.2.1 == 1), ((r5.2.1 == 2), ()))))))))))), (r3.1, ()))))
                  (none))
                (none))
              (br (r5.1 == 3)
                (obind (g90 (r3.1, (r2.1.2.2.2.1, ((r3.2.1.2.2.2.2.1.1, (r3.2.1.2.2.2.2.1.2.1, (r3.2.1.2.2.2.2.1.2.2.1, ()))), ())))) fun r23 =>
                  (some ((3, ((r2.1.1, (r2.1.2.1, (r2.1.2.2.1, (r2.1.2.2.2.1, (r2.1.2.2.2.2.1, ()))))), ([], (((0, (0, (0, (0, (0, ()))))), (0, (0, ([], ((0, (0, (0, ()))), ()))))), (false, ((IntKind.i64.wrap r2.1.2.1), (0, (0, ((r3.2.1.2.2.2.2.1.1, (r3.2.1.2.2.2.2.1.2.1, (r3.2.1.2.2.2.2.1.2.2.1, ()))), ((r5.2.1 == 1), ((r5.2.1 == 2), ()))))))))))), (r23, ()))))
                (some ((r5.1, ((r2.1.1, (r2.1.2.1, (r2.1.2.2.1, (r2.1.2.2.2.1, (r2.1.2.2.2.2.1, ()))))), ([], (((0, (0, (0, (0, (0, ()))))), (0, (0, ([], ((0, (0, (0, ()))), ()))))), (false, ((IntKind.i64.wrap r2.1.2.1), (0, (0, ((r3.2.1.2.2.2.2.1.1, (r3.2.1.2.2.2.2.1.2.1, (r3.2.1.2.2.2.2.1.2.2.1, ()))), ((r5.2.1 == 1), ((r5.2.1 == 2), ()))))))))))), (r3.1, ()))))))))))))))
    (none)))) := by kernel_rfl
theorem n10z (a1 : (List (Ty.den TUnit))) (a2 : (List Int)) (a3 : Bool) : F10 ((0, ((0, (0, (false, (0, ([], ()))))), ([], (((0, (0, (0, (0, (0, ()))))), (0, (0, ([], ((0, (0, (0, ()))), ()))))), (false, (0, (0, (0, ((0, (0, (0, ()))), (false, (false, ()))))))))))), a1, a2, a3, ()) =
  (obind (F21 ((0, ((0, (0, (false, (0, ([], ()))))), ([], (((0, (0, (0, (0, (0, ()))))), (0, (0, ([], ((0, (0, (0, ()))), ()))))), (false, (0, (0, (0, ((0, (0, (0, ()))), (false, (false, ()))))))))))), ())) fun r1 =>
  (br (!r1)
  (some ((0, ((0, (0, (false, (0, ([], ()))))), ([], (((0, (0, (0, (0, (0, ()))))), (0, (0, ([], ((0, (0, (0, ()))), ()))))), (false, (0, (0, (0, ((0, (0, (0, ()))), (false, (false, ()))))))))))), (a1, ())))
  (br (Nat.ble (List.length a1) lim)
    (obind (F45 (a2, ((((List.length a1) : Nat) : Int), ()))) fun r2 =>
      (br (!r2.2.1)
      (some ((4, ((0, (0, (false, (0, ([], ()))))), ([], (((0, (0, (0, (0, (0, ()))))), (0, (0, ([], ((0, (0, (0, ()))), ()))))), (false, (0, (0, (0, ((0, (0, (0, ()))), (true, (true, ()))))))))))), (a1, ())))
      (obind (F46 (a1, (r2.1.2.2.2.1, (r2.1.2.2.2.2.1, ())))) fun r3 =>
        (obind (F48 ((r2.1.1, (r2.1.2.1, (r2.1.2.2.1, (r2.1.2.2.2.1, (r2.1.2.2.2.2.1, ()))))), ((r3.2.1.1, (r3.2.1.2.1, (r3.2.1.2.2.1, (((r3.2.1.2.2.2.1.1.1, (r3.2.1.2.2.2.1.1.2.1, (r3.2.1.2.2.2.1.1.2.2.1, (r3.2.1.2.2.2.1.1.2.2.2.1, (r3.2.1.2.2.2.1.1.2.2.2.2.1, ()))))), (r3.2.1.2.2.2.1.2.1, (r3.2.1.2.2.2.1.2.2.1, (r3.2.1.2.2.2.1.2.2.2.1, ((r3.2.1.2.2.2.1.2.2.2.2.1.1, (r3.2.1.2.2.2.1.2.2.2.2.1.2.1, (r3.2.1.2.2.2.1.2.2.2.2.1.2.2.1, ()))), ()))))), ((r3.2.1.2.2.2.2.1.1, (r3.2.1.2.2.2.2.1.2.1, (r3.2.1.2.2.2.2.1.2.2.1, ()))), ()))))), ()))) fun r4 =>
        (obind (F47 (r4, (a3, ()))) fun r5 =>
        (br r5.2.2.2.1
        (br r5.2.2.1
          (br (r5.1 == 1)
            (br (Nat.ble (List.length r3.2.1.2.2.1) lim)
              (br (decide ((0 : Int) ≤ 0 ∧ 0 ≤ (min (((List.length r3.2.1.2.2.1) : Nat) : Int) (IntKind.i64.wrap r2.1.2.1)) ∧ (min (((List.length r3.2.1.2.2.1) : Nat) : Int) (IntKind.i64.wrap r2.1.2.1)) ≤ (((List.length r3.2.1.2.2.1) : Nat) : Int)))
                (obind (F27 ((List.take (Int.toNat (min (((List.length r3.2.1.2.2.1) : Nat) : Int) (IntKind.i64.wrap r2.1.2.1))) r3.2.1.2.2.1), ())) fun r6 =>
                  (some ((r5.1, ((r2.1.1, (r2.1.2.1, (r2.1.2.2.1, (r2.1.2.2.2.1, (r2.1.2.2.2.2.1, ()))))), (r6, (((r3.2.1.2.2.2.1.1.1, (r3.2.1.2.2.2.1.1.2.1, (r3.2.1.2.2.2.1.1.2.2.1, (r3.2.1.2.2.2.1.1.2.2.2.1, (r3.2.1.2.2.2.1.1.2.2.2.2.1, ()))))), (r3.2.1.2.2.2.1.2.1, (r3.2.1.2.2.2.1.2.2.1, (r3.2.1.2.2.2.1.2.2.2.1, ((r3.2.1.2.2.2.1.2.2.2.2.1.1, (r3.2.1.2.2.2.1.2.2.2.2.1.2.1, (r3.2.1.2.2.2.1.2.2.2.2.1.2.2.1, ()))), ()))))), (true, ((IntKind.i64.wrap r2.1.2.1), (0, (2, ((r3.2.1.2.2.2.2.1.1, (r3.2.1.2.2.2.2.1.2.1, (r3.2.1.2.2.2.2.1.2.2.1, ()))), ((r5.2.1 == 1), ((r5.2.1 == 2), ()))))))))))), (r3.1, ()))))
                (none))
              (none))
            (br (r5.1 == 3)
              (obind (F89 (r3.1, (r2.1.2.2.2.1, (((r3.2.1.2.2.2.1.1.1, (r3.2.1.2.2.2.1.1.2.1, (r3.2.1.2.2.2.1.1.2.2.1, (r3.2.1.2.2.2.1.1.2.2.2.1, (r3.2.1.2.2.2.1.1.2.2.2.2.1, ()))))), (r3.2.1.2.2.2.1.2.1, (r3.2.1.2.2.2.1.2.2.1, (r3.2.1.2.2.2.1.2.2.2.1, ((r3.2.1.2.2.2.1.2.2.2.2.1.1, (r3.2.1.2.2.2.1.2.2.2.2.1.2.1, (r3.2.1.2.2.2.1.2.2.2.2.1.2.2.1, ()))), ()))))), ())))) fun r7 =>
                (obind (F90 (r7.1, (r2.1.2.2.2.1, ((r7.2.1.1, (r7.2.1.2.1, (r7.2.1.2.2.1, ()))), ())))) fun r8 =>
                (some ((3, ((r2.1.1, (r2.1.2.1, (r2.1.2.2.1, (r2.1.2.2.2.1, (r2.1.2.2.2.2.1, ()))))), ([], (((0, (0, (0, (0, (0, ()))))), (0, (0, ([], ((0, (0, (0, ()))), ()))))), (false, ((IntKind.i64.wrap r2.1.2.1), (0, (2, ((r7.2.1.1, (r7.2.1.2.1, (r7.2.1.2.2.1, ()))), ((r5.2.1 == 1), ((r5.2.1 == 2), ()))))))))))), (r8, ())))))
              (some ((r5.1, ((r2.1.1, (r2.1.2.1, (r2.1.2.2.1, (r2.1.2.2.2.1, (r2.1.2.2.2.2.1, ()))))), ([], (((r3.2.1.2.2.2.1.1.1, (r3.2.1.2.2.2.1.1.2.1, (r3.2.1.2.2.2.1.1.2.2.1, (r3.2.1.2.2.2.1.1.2.2.2.1, (r3.2.1.2.2.2.1.1.2.2.2.2.1, ()))))), (r3.2.1.2.2.2.1.2.1, (r3.2.1.2.2.2.1.2.2.1, (r3.2.1.2.2.2.1.2.2.2.1, ((r3.2.1.2.2.2.1.2.2.2.2.1.1, (r3.2.1.2.2.2.1.2.2.2.2.1.2.1, (r3.2.1.2.2.2.1.2.2.2.2.1.2.2.1, ()))), ()))))), (true, ((IntKind.i64.wrap r2.1.2.1), (0, (2, ((r3.2.1.2.2.2.2.1.1, (r3.2.1.2.2.2.2.1.2.1, (r3.2.1.2.2.2.2.1.2.2.1, ()))), ((r5.2.1 == 1), ((r5.2.1 == 2), ()))))))))))), (r3.1, ())))))
          (br (r5.1 == 1)
            (br (Nat.ble (List.length r3.2.1.2.2.1) lim)
              (br (decide ((0 : Int) ≤ 0 ∧ 0 ≤ (min (((List.length r3.2.1.2.2.1) : Nat) : Int) (IntKind.i64.wrap r2.1.2.1)) ∧ (min (((List.length r3.2.1.2.2.1) : Nat) : Int) (IntKind.i64.wrap r2.1.2.1)) ≤ (((List.length r3.2.1.2.2.1) : Nat) : Int)))
                (obind (F27 ((List.take (Int.toNat (min (((List.length r3.2.1.2.2.1) : Nat) : Int) (IntKind.i64.wrap r2.1.2.1))) r3.2.1.2.2.1), ())) fun r9 =>
                  (some ((r5.1, ((r2.1.1, (r2.1.2.1, (r2.1.2.2.1, (r2.1.2.2.2.1, (r2.1.2.2.2.2.1, ()))))), (r9, (((0, (0, (0, (0, (0, ()))))), (0, (0, ([], ((0, (0, (0, ()))), ()))))), (false, ((IntKind.i64.wrap r2.1.2.1), (0, (2, ((r3.2.1.2.2.2.2.1.1, (r3.2.1.2.2.2.2.1.2.1, (r3.2.1.2.2.2.2.1.2.2.1, ()))), ((r5.2.1 == 1), ((r5.2.1 == 2), ()))))))))))), (r3.1, ()))))
                (none))
              (none))
            (br (r5.1 == 3)
              (obind (F90 (r3.1, (r2.1.2.2.2.1, ((r3.2.1.2.2.2.2.1.1, (r3.2.1.2.2.2.2.1.2.1, (r3.2.1.2.2.2.2.1.2.2.1, ()))), ())))) fun r10 =>
                (some ((3, ((r2.1.1, (r2.1.2.1, (r2.1.2.2.1, (r2.1.2.2.2.1, (r2.1.2.2.2.2.1, ()))))), ([], (((0, (0, (0, (0, (0, ()))))), (0, (0, ([], ((0, (0, (0, ()))), ()))))), (false, ((IntKind.i64.wrap r2.1.2.1), (0, (2, ((r3.2.1.2.2.2.2.1.1, (r3.2.1.2.2.2.2.1.2.1, (r3.2.1.2.2.2.2.1.2.2.1, ()))), ((r5.2.1 == 1), ((r5.2.1 == 2), ()))))))))))), (r10, ()))))
              (some ((r5.1, ((r2.1.1, (r2.1.2.1, (r2.1.2.2.1, (r2.1.2.2.2.1, (r2.1.2.2.2.2.1, ()))))), ([], (((0, (0, (0, (0, (0, ()))))), (0, (0, ([], ((0, (0, (0, ()))), ()))))), (false, ((IntKind.i64.wrap r2.1.2.1), (0, (2, ((r3.2.1.2.2.2.2.1.1, (r3.2.1.2.2.2.2.1.2.1, (r3.2.1.2.2.2.2.1.2.2.1, ()))), ((r5.2.1 == 1), ((r5.2.1 == 2), ()))))))))))), (r3.1, ()))))))
        (obind (F49 ((r3.2.1.2.2.2.2.1.1, (r3.2.1.2.2.2.2.1.2.1, (r3.2.1.2.2.2.2.1.2.2.1, ()))), ())) fun r11 =>
          (br (!r11)
          (br r5.2.2.1
            (br (r5.1 == 1)
              (br (Nat.ble (List.length r3.2.1.2.2.1) lim)
                (br (decide ((0 : Int) ≤ 0 ∧ 0 ≤ (min (((List.length r3.2.1.2.2.1) : Nat) : Int) (IntKind.i64.wrap r2.1.2.1)) ∧ (min (((List.length r3.2.1.2.2.1) : Nat) : Int) (IntKind.i64.wrap r2.1.2.1)) ≤ (((List.length r3.2.1.2.2.1) : Nat) : Int)))
                  (obind (F27 ((List.take (Int.toNat (min (((List.length r3.2.1.2.2.1) : Nat) : Int) (IntKind.i64.wrap r2.1.2.1))) r3.2.1.2.2.1), ())) fun r12 =>
                    (some ((r5.1, ((r2.1.1, (r2.1.2.1, (r2.1.2.2.1, (r2.1.2.2.2.1, (r2.1.2.2.2.2.1, ()))))), (r12, (((r3.2.1.2.2.2.1.1.1, (r3.2.1.2.2.2.1.1.2.1, (r3.2.1.2.2.2.1.1.2.2.1, (r3.2.1.2.2.2.1.1.2.2.2.1, (r3.2.1.2.2.2.1.1.2.2.2.2.1, ()))))), (r3.2.1.2.2.2.1.2.1, (r3.2.1.2.2.2.1.2.2.1, (r3.2.1.2.2.2.1.2.2.2.1, ((r3.2.1.2.2.2.1.2.2.2.2.1.1, (r3.2.1.2.2.2.1.2.2.2.2.1.2.1, (r3.2.1.2.2.2.1.2.2.2.2.1.2.2.1, ()))), ()))))), (true, ((IntKind.i64.wrap r2.1.2.1), (0, (1, ((r3.2.1.2.2.2.2.1.1, (r3.2.1.2.2.2.2.1.2.1, (r3.2.1.2.2.2.2.1.2.2.1, ()))), ((r5.2.1 == 1), ((r5.2.1 == 2), ()))))))))))), (r3.1, ()))))
                  (none))
                (none))
              (br (r5.1 == 3)
                (obind (F89 (r3.1, (r2.1.2.2.2.1, (((r3.2.1.2.2.2.1.1.1, (r3.2.1.2.2.2.1.1.2.1, (r3.2.1.2.2.2.1.1.2.2.1, (r3.2.1.2.2.2.1.1.2.2.2.1, (r3.2.1.2.2.2.1.1.2.2.2.2.1, ()))))), (r3.2.1.2.2.2.1.2.1, (r3.2.1.2.2.2.1.2.2.1, (r3.2.1.2.2.2.1.2.2.2.1, ((r3.2.1.2.2.2.1.2.2.2.2.1.1, (r3.2.1.2.2.2.1.2.2.2.2.1.2.1, (r3.2.1.2.2.2.1.2.2.2.2.1.2.2.1, ()))), ()))))), ())))) fun r13 =>
                  (obind (F90 (r13.1, (r2.1.2.2.2.1, ((r13.2.1.1, (r13.2.1.2.1, (r13.2.1.2.2.1, ()))), ())))) fun r14 =>
                  (some ((3, ((r2.1.1, (r2.1.2.1, (r2.1.2.2.1, (r2.1.2.2.2.1, (r2.1.2.2.2.2.1, ()))))), ([], (((0, (0, (0, (0, (0, ()))))), (0, (0, ([], ((0, (0, (0, ()))), ()))))), (false, ((IntKind.i64.wrap r2.1.2.1), (0, (1, ((r13.2.1.1, (r13.2.1.2.1, (r13.2.1.2.2.1, ()))), ((r5.2.1 == 1), ((r5.2.1 == 2), ()))))))))))), (r14, ())))))
                (some ((r5.1, ((r2.1.1, (r2.1.2.1, (r2.1.2.2.1, (r2.1.2.2.2.1, (r2.1.2.2.2.2.1, ()))))), ([], (((r3.2.1.2.2.2.1.1.1, (r3.2.1.2.2.2.1.1.2.1, (r3.2.1.2.2.2.1.1.2.2.1, (r3.2.1.2.2.2.1.1.2.2.2.1, (r3.2.1.2.2.2.1.1.2.2.2.2.1, ()))))), (r3.2.1.2.2.2.1.2.1, (r3.2.1.2.2.2.1.2.2.1, (r3.2.1.2.2.2.1.2.2.2.1, ((r3.2.1.2.2.2.1.2.2.2.2.1.1, (r3.2.1.2.2.2.1.2.2.2.2.1.2.1, (r3.2.1.2.2.2.1.2.2.2.2.1.2.2.1, ()))), ()))))), (true, ((IntKind.i64.wrap r2.1.2.1), (0, (1, ((r3.2.1.2.2.2.2.1.1, (r3.2.1.2.2.2.2.1.2.1, (r3.2.1.2.2.2.2.1.2.2.1, ()))), ((r5.2.1 == 1), ((r5.2.1 == 2), ()))))))))))), (r3.1, ())))))
            (br (r5.1 == 1)
              (br (Nat.ble (List.length r3.2.1.2.2.1) lim)
                (br (decide ((0 : Int) ≤ 0 ∧ 0 ≤ (min (((List.length r3.2.1.2.2.1) : Nat) : Int) (IntKind.i64.wrap r2.1.2.1)) ∧ (min (((List.length r3.2.1.2.2.1) : Nat) : Int) (IntKind.i64.wrap r2.1.2.1)) ≤ (((List.length r3.2.1.2.2.1) : Nat) : Int)))
                  (obind (F27 ((List.take (Int.toNat (min (((List.length r3.2.1.2.2.1) : Nat) : Int) (IntKind.i64.wrap r2.1.2.1))) r3.2.1.2.2.1), ())) fun r15 =>
                    (some ((r5.1, ((r2.1.1, (r2.1.2.1, (r2.1.2.2.1, (r2.1.2.2.2.1, (r2.1.2.2.2.2.1, ()))))), (r15, (((0, (0, (0, (0, (0, ()))))), (0, (0, ([], ((0, (0, (0, ()))), ()))))), (false, ((IntKind.i64.wrap r2.1.2.1), (0, (1, ((r3.2.1.2.2.2.2.1.1, (r3.2.1.2.2.2.2.1.2.1, (r3.2.1.2.2.2.2.1.2.2.1, ()))), ((r5.2.1 == 1), ((r5.2.1 == 2), ()))))))))))), (r3.1, ()))))
                  (none))
                (none))
              (br (r5.1 == 3)
                (obind (F90 (r3.1, (r2.1.2.2.2.1, ((r3.2.1.2.2.2.2.1.1, (r3.2.1.2.2.2.2.1.2.1, (r3.2.1.2.2.2.2.1.2.2.1, ()))), ())))) fun r16 =>
                  (some ((3, ((r2.1.1, (r2.1.2.1, (r2.1.2.2.1, (r2.1.2.2.2.1, (r2.1.2.2.2.2.1, ()))))), ([], (((0, (0, (0, (0, (0, ()))))), (0, (0, ([], ((0, (0, (0, ()))), ()))))), (false, ((IntKind.i64.wrap r2.1.2.1), (0, (1, ((r3.2.1.2.2.2.2.1.1, (r3.2.1.2.2.2.2.1.2.1, (r3.2.1.2.2.2.2.1.2.2.1, ()))), ((r5.2.1 == 1), ((r5.2.1 == 2), ()))))))))))), (r16, ()))))
                (some ((r5.1, ((r2.1.1, (r2.1.2.1, (r2.1.2.2.1, (r2.1.2.2.2.1, (r2.1.2.2.2.2.1, ()))))), ([], (((0, (0, (0, (0, (0, ()))))), (0, (0, ([], ((0, (0, (0, ()))), ()))))), (false, ((IntKind.i64.wrap r2.1.2.1), (0, (1, ((r3.2.1.2.2.2.2.1.1, (r3.2.1.2.2.2.2.1.2.1, (r3.2.1.2.2.2.2.1.2.2.1, ()))), ((r5.2.1 == 1), ((r5.2.1 == 2), ()))))))))))), (r3.1, ()))))))
          (br r5.2.2.1
            (br (r5.1 == 1)
              (br (Nat.ble (List.length r3.2.1.2.2.1) lim)
                (br (decide ((0 : Int) ≤ 0 ∧ 0 ≤ (min (((List.length r3.2.1.2.2.1) : Nat) : Int) (IntKind.i64.wrap r2.1.2.1)) ∧ (min (((List.length r3.2.1.2.2.1) : Nat) : Int) (IntKind.i64.wrap r2.1.2.1)) ≤ (((List.length r3.2.1.2.2.1) : Nat) : Int)))
                  (obind (F27 ((List.take (Int.toNat (min (((List.length r3.2.1.2.2.1) : Nat) : Int) (IntKind.i64.wrap r2.1.2.1))) r3.2.1.2.2.1), ())) fun r17 =>
                    (some ((r5.1, ((r2.1.1, (r2.1.2.1, (r2.1.2.2.1, (r2.1.2.2.2.1, (r2.1.2.2.2.2.1, ()))))), (r17, (((r3.2.1.2.2.2.1.1.1, (r3.2.1.2.2.2.1.1.2.1, (r3.2.1.2.2.2.1.1.2.2.1, (r3.2.1.2.2.2.1.1.2.2.2.1, (r3.2.1.2.2.2.1.1.2.2.2.2.1, ()))))), (r3.2.1.2.2.2.1.2.1, (r3.2.1.2.2.2.1.2.2.1, (r3.2.1.2.2.2.1.2.2.2.1, ((r3.2.1.2.2.2.1.2.2.2.2.1.1, (r3.2.1.2.2.2.1.2.2.2.2.1.2.1, (r3.2.1.2.2.2.1.2.2.2.2.1.2.2.1, ()))), ()))))), (true, ((IntKind.i64.wrap r2.1.2.1), (0, (0, ((r3.2.1.2.2.2.2.1.1, (r3.2.1.2.2.2.2.1.2.1, (r3.2.1.2.2.2.2.1.2.2.1, ()))), ((r5.2.1 == 1), ((r5.2.1 == 2), ()))))))))))), (r3.1, ()))))
                  (none))
                (none))
              (br (r5.1 == 3)
                (obind (F89 (r3.1, (r2.1.2.2.2.1, (((r3.2.1.2.2.2.1.1.1, (r3.2.1.2.2.2.1.1.2.1, (r3.2.1.2.2.2.1.1.2.2.1, (r3.2.1.2.2.2.1.1.2.2.2.1, (r3.2.1.2.2.2.1.1.2.2.2.2.1, ()))))), (r3.2.1.2.2.2.1.2.1, (r3.2.1.2.2.2.1.2.2.1, (r3.2.1.2.2.2.1.2.2.2.1, ((r3.2.1.2.2.2.1.2.2.2.2.1.1, (r3.2.1.2.2.2.1.2.2.2.2.1.2.1, (r3.2.1.2.2.2.1.2.2.2.2.1.2.2.1, ()))), ()))))), ())))) fun r18 =>
                  (obind (F49 ((r18.2.1.1, (r18.2.1.2.1, (r18.2.1.2.2.1, ()))), ())) fun r19 =>
                  (br (!r19)
                  (obind (F90 (r18.1, (r2.1.2.2.2.1, ((r18.2.1.1, (r18.2.1.2.1, (r18.2.1.2.2.1, ()))), ())))) fun r20 =>
                    (some ((3, ((r2.1.1, (r2.1.2.1, (r2.1.2.2.1, (r2.1.2.2.2.1, (r2.1.2.2.2.2.1, ()))))), ([], (((0, (0, (0, (0, (0, ()))))), (0, (0, ([], ((0, (0, (0, ()))), ()))))), (false, ((IntKind.i64.wrap r2.1.2.1), (0, (1, ((r18.2.1.1, (r18.2.1.2.1, (r18.2.1.2.2.1, ()))), ((r5.2.1 == 1), ((r5.2.1 == 2), ()))))))))))), (r20, ()))))
                  (obind (F90 (r18.1, (r2.1.2.2.2.1, ((r18.2.1.1, (r18.2.1.2.1, (r18.2.1.2.2.1, ()))), ())))) fun r21 =>
                    (some ((3, ((r2.1.1, (r2.1.2.1, (r2.1.2.2.1, (r2.1.2.2.2.1, (r2.1.2.2.2.2.1, ()))))), ([], (((0, (0, (0, (0, (0, ()))))), (0, (0, ([], ((0, (0, (0, ()))), ()))))), (false, ((IntKind.i64.wrap r2.1.2.1), (0, (0, ((r18.2.1.1, (r18.2.1.2.1, (r18.2.1.2.2.1, ()))), ((r5.2.1 == 1), ((r5.2.1 == 2), ()))))))))))), (r21, ())))))))
                (some ((r5.1, ((r2.1.1, (r2.1.2.1, (r2.1.2.2.1, (r2.1.2.2.2.1, (r2.1.2.2.2.2.1, ()))))), ([], (((r3.2.1.2.2.2.1.1.1, (r3.2.1.2.2.2.1.1.2.1, (r3.2.1.2.2.2.1.1.2.2.1, (r3.2.1.2.2.2.1.1.2.2.2.1, (r3.2.1.2.2.2.1.1.2.2.2.2.1, ()))))), (r3.2.1.2.2.2.1.2.1, (r3.2.1.2.2.2.1.2.2.1, (r3.2.1.2.2.2.1.2.2.2.1, ((r3.2.1.2.2.2.1.2.2.2.2.1.1, (r3.2.1.2.2.2.1.2.2.2.2.1.2.1, (r3.2.1.2.2.2.1.2.2.2.2.1.2.2.1, ()))), ()))))), (true, ((IntKind.i64.wrap r2.1.2.1), (0, (0, ((r3.2.1.2.2.2.2.1.1, (r3.2.1.2.2.2.2.1.2.1, (r3.2.1.2.2.2.2.1.2.2.1, ()))), ((r5.2.1 == 1), ((r5.2.1 == 2), ()))))))))))), (r3.1, ())))))
            (br (r5.1 == 1)
              (br (Nat.ble (List.length r3.2.1.2.2.1) lim)
                (br (decide ((0 : Int) ≤ 0 ∧ 0 ≤ (min (((List.length r3.2.1.2.2.1) : Nat) : Int) (IntKind.i64.wrap r2.1.2.1)) ∧ (min (((List.length r3.2.1.2.2.1) : Nat) : Int) (IntKind.i64.wrap r2.1.2.1)) ≤ (((List.length r3.2.1.2.2.1) : Nat) : Int)))
                  (obind (F27 ((List.take (Int.toNat (min (((List.length r3.2.1.2.2.1) : Nat) : Int) (IntKind.i64.wrap r2.1.2.1))) r3.2.1.2.2.1), ())) fun r22 =>
                    (some ((r5.1, ((r2.1.1, (r2.1.2.1, (r2.1.2.2.1, (r2.1.2.2.2.1, (r2.1.2.2.2.2.1, ()))))), (r22, (((0, (0, (0, (0, (0, ()))))), (0, (0, ([], ((0, (0, (0, ()))), ()))))), (false, ((IntKind.i64.wrap r2.1.2.1), (0, (0, ((r3.2.1.2.2.2.2.1.1, (r3.2.1.2.2.2.2.1.2.1, (r3.2.1.2.2.2.2.1.2.2.1, ()))), ((r5.2.1 == 1), ((r5.2.1 == 2), ()))))))))))), (r3.1, ()))))
                  (none))
                (none))
              (br (r5.1 == 3)
                (obind (F90 (r3.1, (r2.1.2.2.2.1, ((r3.2.1.2.2.2.2.1.1, (r3.2.1.2.2.2.2.1.2.1, (r3.2.1.2.2.2.2.1.2.2.1, ()))), ())))) fun r23 =>
                  (some ((3, ((r2.1.1, (r2.1.2.1, (r2.1.2.2.1, (r2.1.2.2.2.1, (r2.1.2.2.2.2.1, ()))))), ([], (((0, (0, (0, (0, (0, ()))))), (0, (0, ([], ((0, (0, (0, ()))), ()))))), (false, ((IntKind.i64.wrap r2.1.2.1), (0, (0, ((r3.2.1.2.2.2.2.1.1, (r3.2.1.2.2.2.2.1.2.1, (r3.2.1.2.2.2.2.1.2.2.1, ()))), ((r5.2.1 == 1), ((r5.2.1 == 2), ()))))))))))), (r23, ()))))
                (some ((r5.1, ((r2.1.1, (r2.1.2.1, (r2.1.2.2.1, (r2.1.2.2.2.1, (r2.1.2.2.2.2.1, ()))))), ([], (((0, (0, (0, (0, (0, ()))))), (0, (0, ([], ((0, (0, (0, ()))), ()))))), (false, ((IntKind.i64.wrap r2.1.2.1), (0, (0, ((r3.2.1.2.2.2.2.1.1, (r3.2.1.2.2.2.2.1.2.1, (r3.2.1.2.2.2.2.1.2.2.1, ()))), ((r5.2.1 == 1), ((r5.2.1 == 2), ()))))))))))), (r3.1, ()))))))))))))))
    (none)))) := N10z NN F21 F27 F45 F46 F47 F48 F49 F52 F89 F90 a1 a2 a3
theorem N10w (N : Nat) (g21 : Ty.den (.pair TBulk .unit) → Option (Ty.den .bool)) (g27 : Ty.den (.pair (.sl (.int .u8)) .unit) → Option (Ty.den (.sl (.int .u8)))) (g45 : Ty.den (.pair (.sl (.int .u8)) (.pair (.int .i64) .unit)) → Option (Ty.den (.pair TCbw (.pair .bool .unit)))) (g46 : Ty.den (.pair (.sl TUnit) (.pair (.int .i64) (.pair (.sl (.int .u8)) .unit))) → Option (Ty.den (.pair (.sl TUnit) (.pair TIntent .unit)))) (g47 : Ty.den (.pair (.int .i64) (.pair .bool .unit)) → Option (Ty.den TPlan)) (g48 : Ty.den (.pair TCbw (.pair TIntent .unit)) → Option (Ty.den (.int .i64))) (g49 : Ty.den (.pair TSense .unit) → Option (Ty.den .bool)) (g52 : Ty.den (.pair (.sl TUnit) (.pair (.int .i64) (.pair TJob (.pair (.sl (.int .u8)) .unit)))) → Option (Ty.den (.pair (.sl TUnit) (.pair TJob .unit)))) (g89 : Ty.den (.pair (.sl TUnit) (.pair (.int .i64) (.pair TJob .unit))) → Option (Ty.den (.pair (.sl TUnit) (.pair TSense .unit)))) (g90 : Ty.den (.pair (.sl TUnit) (.pair (.int .i64) (.pair TSense .unit))) → Option (Ty.den (.sl TUnit))) (a1 : (List (Ty.den TUnit))) (a2 : (List Int)) (a3 : Bool) (a4 : Bool) (a5 : Bool) : runFn (c10 N g21 g27 g45 g46 g47 g48 g49 g52 g89 g90) 40 10 (.pair TBulk (.pair (.sl TUnit) THow)) (.pair TBulk (.pair (.sl TUnit) .unit)) 2 ((4, ((0, (0, (false, (0, ([], ()))))), ([], (((0, (0, (0, (0, (0, ()))))), (0, (0, ([], ((0, (0, (0, ()))), ()))))), (false, (0, (0, (0, ((0, (0, (0, ()))), (a4, (a5, ()))))))))))), a1, a2, a3, ()) =
  (obind (g21 ((4, ((0, (0, (false, (0, ([], ()))))), ([], (((0, (0, (0, (0, (0, ()))))), (0, (0, ([], ((0, (0, (0, ()))), ()))))), (false, (0, (0, (0, ((0, (0, (0, ()))), (a4, (a5, ()))))))))))), ())) fun r1 =>
  (br (!r1)
  (some ((4, ((0, (0, (false, (0, ([], ()))))), ([], (((0, (0, (0, (0, (0, ()))))), (0, (0, ([], ((0, (0, (0, ()))), ()))))), (false, (0, (0, (0, ((0, (0, (0, ()))), (a4, (a5, ()))))))))))), (a1, ())))
  (some ((4, ((0, (0, (false, (0, ([], ()))))), ([], (((0, (0, (0, (0, (0, ()))))), (0, (0, ([], ((0, (0, (0, ()))), ()))))), (false, (0, (0, (0, ((0, (0, (0, ()))), (false, (false, ()))))))))))), (a1, ()))))) := by kernel_rfl
theorem n10w (a1 : (List (Ty.den TUnit))) (a2 : (List Int)) (a3 : Bool) (a4 : Bool) (a5 : Bool) : F10 ((4, ((0, (0, (false, (0, ([], ()))))), ([], (((0, (0, (0, (0, (0, ()))))), (0, (0, ([], ((0, (0, (0, ()))), ()))))), (false, (0, (0, (0, ((0, (0, (0, ()))), (a4, (a5, ()))))))))))), a1, a2, a3, ()) =
  (obind (F21 ((4, ((0, (0, (false, (0, ([], ()))))), ([], (((0, (0, (0, (0, (0, ()))))), (0, (0, ([], ((0, (0, (0, ()))), ()))))), (false, (0, (0, (0, ((0, (0, (0, ()))), (a4, (a5, ()))))))))))), ())) fun r1 =>
  (br (!r1)
  (some ((4, ((0, (0, (false, (0, ([], ()))))), ([], (((0, (0, (0, (0, (0, ()))))), (0, (0, ([], ((0, (0, (0, ()))), ()))))), (false, (0, (0, (0, ((0, (0, (0, ()))), (a4, (a5, ()))))))))))), (a1, ())))
  (some ((4, ((0, (0, (false, (0, ([], ()))))), ([], (((0, (0, (0, (0, (0, ()))))), (0, (0, ([], ((0, (0, (0, ()))), ()))))), (false, (0, (0, (0, ((0, (0, (0, ()))), (false, (false, ()))))))))))), (a1, ()))))) := N10w NN F21 F27 F45 F46 F47 F48 F49 F52 F89 F90 a1 a2 a3 a4 a5
theorem N15w (N : Nat) (g21 : Ty.den (.pair TBulk .unit) → Option (Ty.den .bool)) (g27 : Ty.den (.pair (.sl (.int .u8)) .unit) → Option (Ty.den (.sl (.int .u8)))) (g28 : Ty.den (.pair TBulk .unit) → Option (Ty.den (.int .i64))) (g49 : Ty.den (.pair TSense .unit) → Option (Ty.den .bool)) (g89 : Ty.den (.pair (.sl TUnit) (.pair (.int .i64) (.pair TJob .unit))) → Option (Ty.den (.pair (.sl TUnit) (.pair TSense .unit)))) (g90 : Ty.den (.pair (.sl TUnit) (.pair (.int .i64) (.pair TSense .unit))) → Option (Ty.den (.sl TUnit))) (a1 : (List (Ty.den TUnit))) (a3 : Bool) (a4 : Bool) (a5 : Bool) : runFn (c15 N g21 g27 g28 g49 g89 g90) 40 15 TLine (.pair TBulk (.pair (.sl TUnit) .unit)) 2 ((4, ((0, (0, (false, (0, ([], ()))))), ([], (((0, (0, (0, (0, (0, ()))))), (0, (0, ([], ((0, (0, (0, ()))), ()))))), (false, (0, (0, (0, ((0, (0, (0, ()))), (a4, (a5, ()))))))))))), a1, a3, ()) =
  (obind (g21 ((4, ((0, (0, (false, (0, ([], ()))))), ([], (((0, (0, (0, (0, (0, ()))))), (0, (0, ([], ((0, (0, (0, ()))), ()))))), (false, (0, (0, (0, ((0, (0, (0, ()))), (a4, (a5, ()))))))))))), ())) fun r1 =>
  (br (!r1)
  (some ((4, ((0, (0, (false, (0, ([], ()))))), ([], (((0, (0, (0, (0, (0, ()))))), (0, (0, ([], ((0, (0, (0, ()))), ()))))), (false, (0, (0, (0, ((0, (0, (0, ()))), (a4, (a5, ()))))))))))), (a1, ())))
  (some ((4, ((0, (0, (false, (0, ([], ()))))), ([], (((0, (0, (0, (0, (0, ()))))), (0, (0, ([], ((0, (0, (0, ()))), ()))))), (false, (0, (0, (0, ((0, (0, (0, ()))), (false, (false, ()))))))))))), (a1, ()))))) := by kernel_rfl
theorem n15w (a1 : (List (Ty.den TUnit))) (a3 : Bool) (a4 : Bool) (a5 : Bool) : F15 ((4, ((0, (0, (false, (0, ([], ()))))), ([], (((0, (0, (0, (0, (0, ()))))), (0, (0, ([], ((0, (0, (0, ()))), ()))))), (false, (0, (0, (0, ((0, (0, (0, ()))), (a4, (a5, ()))))))))))), a1, a3, ()) =
  (obind (F21 ((4, ((0, (0, (false, (0, ([], ()))))), ([], (((0, (0, (0, (0, (0, ()))))), (0, (0, ([], ((0, (0, (0, ()))), ()))))), (false, (0, (0, (0, ((0, (0, (0, ()))), (a4, (a5, ()))))))))))), ())) fun r1 =>
  (br (!r1)
  (some ((4, ((0, (0, (false, (0, ([], ()))))), ([], (((0, (0, (0, (0, (0, ()))))), (0, (0, ([], ((0, (0, (0, ()))), ()))))), (false, (0, (0, (0, ((0, (0, (0, ()))), (a4, (a5, ()))))))))))), (a1, ())))
  (some ((4, ((0, (0, (false, (0, ([], ()))))), ([], (((0, (0, (0, (0, (0, ()))))), (0, (0, ([], ((0, (0, (0, ()))), ()))))), (false, (0, (0, (0, ((0, (0, (0, ()))), (false, (false, ()))))))))))), (a1, ()))))) := N15w NN F21 F27 F28 F49 F89 F90 a1 a3 a4 a5
theorem N21z (N : Nat)   : runFn (c21 N) 40 21 (.pair TBulk .unit) .bool 1 ((0, ((0, (0, (false, (0, ([], ()))))), ([], (((0, (0, (0, (0, (0, ()))))), (0, (0, ([], ((0, (0, (0, ()))), ()))))), (false, (0, (0, (0, ((0, (0, (0, ()))), (false, (false, ()))))))))))), ()) =
  (some true) := by kernel_rfl
theorem n21z  : F21 ((0, ((0, (0, (false, (0, ([], ()))))), ([], (((0, (0, (0, (0, (0, ()))))), (0, (0, ([], ((0, (0, (0, ()))), ()))))), (false, (0, (0, (0, ((0, (0, (0, ()))), (false, (false, ()))))))))))), ()) =
  (some true) := N21z NN  
theorem N21w (N : Nat)  (a4 : Bool) (a5 : Bool) : runFn (c21 N) 40 21 (.pair TBulk .unit) .bool 1 ((4, ((0, (0, (false, (0, ([], ()))))), ([], (((0, (0, (0, (0, (0, ()))))), (0, (0, ([], ((0, (0, (0, ()))), ()))))), (false, (0, (0, (0, ((0, (0, (0, ()))), (a4, (a5, ()))))))))))), ()) =
  (some true) := by kernel_rfl
theorem n21w (a4 : Bool) (a5 : Bool) : F21 ((4, ((0, (0, (false, (0, ([], ()))))), ([], (((0, (0, (0, (0, (0, ()))))), (0, (0, ([], ((0, (0, (0, ()))), ()))))), (false, (0, (0, (0, ((0, (0, (0, ()))), (a4, (a5, ()))))))))))), ()) =
  (some true) := N21w NN  a4 a5
theorem N11w (N : Nat) (g21 : Ty.den (.pair TBulk .unit) → Option (Ty.den .bool)) (a4 : Bool) (a5 : Bool) : runFn (c11 N g21) 40 11 (.pair TBulk .unit) .bool 1 ((4, ((0, (0, (false, (0, ([], ()))))), ([], (((0, (0, (0, (0, (0, ()))))), (0, (0, ([], ((0, (0, (0, ()))), ()))))), (false, (0, (0, (0, ((0, (0, (0, ()))), (a4, (a5, ()))))))))))), ()) =
  (obind (g21 ((4, ((0, (0, (false, (0, ([], ()))))), ([], (((0, (0, (0, (0, (0, ()))))), (0, (0, ([], ((0, (0, (0, ()))), ()))))), (false, (0, (0, (0, ((0, (0, (0, ()))), (a4, (a5, ()))))))))))), ())) fun r1 =>
  (br r1
  (some false)
  (some false))) := by kernel_rfl
theorem n11w (a4 : Bool) (a5 : Bool) : F11 ((4, ((0, (0, (false, (0, ([], ()))))), ([], (((0, (0, (0, (0, (0, ()))))), (0, (0, ([], ((0, (0, (0, ()))), ()))))), (false, (0, (0, (0, ((0, (0, (0, ()))), (a4, (a5, ()))))))))))), ()) =
  (obind (F21 ((4, ((0, (0, (false, (0, ([], ()))))), ([], (((0, (0, (0, (0, (0, ()))))), (0, (0, ([], ((0, (0, (0, ()))), ()))))), (false, (0, (0, (0, ((0, (0, (0, ()))), (a4, (a5, ()))))))))))), ())) fun r1 =>
  (br r1
  (some false)
  (some false))) := N11w NN F21 a4 a5
theorem N13w (N : Nat) (g21 : Ty.den (.pair TBulk .unit) → Option (Ty.den .bool)) (g27 : Ty.den (.pair (.sl (.int .u8)) .unit) → Option (Ty.den (.sl (.int .u8)))) (g28 : Ty.den (.pair TBulk .unit) → Option (Ty.den (.int .i64))) (g29 : Ty.den (.pair TCsw .unit) → Option (Ty.den (.sl (.int .u8)))) (a4 : Bool) (a5 : Bool) : runFn (c13 N g21 g27 g28 g29) 40 13 (.pair TBulk .unit) THow 2 ((4, ((0, (0, (false, (0, ([], ()))))), ([], (((0, (0, (0, (0, (0, ()))))), (0, (0, ([], ((0, (0, (0, ()))), ()))))), (false, (0, (0, (0, ((0, (0, (0, ()))), (a4, (a5, ()))))))))))), ()) =
  (obind (g21 ((4, ((0, (0, (false, (0, ([], ()))))), ([], (((0, (0, (0, (0, (0, ()))))), (0, (0, ([], ((0, (0, (0, ()))), ()))))), (false, (0, (0, (0, ((0, (0, (0, ()))), (a4, (a5, ()))))))))))), ())) fun r1 =>
  (br (!r1)
  (some ([], (false, ())))
  (some ([], (false, ()))))) := by kernel_rfl
theorem n13w (a4 : Bool) (a5 : Bool) : F13 ((4, ((0, (0, (false, (0, ([], ()))))), ([], (((0, (0, (0, (0, (0, ()))))), (0, (0, ([], ((0, (0, (0, ()))), ()))))), (false, (0, (0, (0, ((0, (0, (0, ()))), (a4, (a5, ()))))))))))), ()) =
  (obind (F21 ((4, ((0, (0, (false, (0, ([], ()))))), ([], (((0, (0, (0, (0, (0, ()))))), (0, (0, ([], ((0, (0, (0, ()))), ()))))), (false, (0, (0, (0, ((0, (0, (0, ()))), (a4, (a5, ()))))))))))), ())) fun r1 =>
  (br (!r1)
  (some ([], (false, ())))
  (some ([], (false, ()))))) := N13w NN F21 F27 F28 F29 a4 a5
noncomputable def X5_0_0  (y0 : Bool) : St := { tmps := [.dead, .dead, .dead, .dead, .dead, .dead, (.bool y0), .dead, .dead, .dead, .dead, .dead, .dead, .dead, .dead, .dead, .dead, .dead, .dead, .dead, .dead, .dead, .dead, .dead, .dead, .dead, .dead, .dead, .dead, .dead, .dead, .dead, .dead, .dead, .dead, .dead, .dead, .dead, .dead, .dead, .dead, .dead, .dead, .dead, .dead, .dead, .dead, .dead, .dead, .dead, .dead, .dead, .dead, .dead, .dead, .dead, .dead, .dead, .dead, .dead, .dead, .dead, .dead, .dead, .dead, .dead, .dead, .dead, .dead, .dead, .dead, .dead, .dead, .dead, .dead, .dead, .dead, .dead, .dead, .dead, .dead, .dead, .dead, .dead, .dead, .dead, .dead, .dead, .dead, .dead, .dead, .dead, .dead, .dead, .dead, .dead, .dead, .dead, .dead, .dead, .dead, .dead, .dead], saved := [], heap := [] }
noncomputable def X5_0_1 (a0 : (Ty.den (.sl TUnit))) (y0 : (List (Ty.den TUnit))) (y1 : Int) (y2 : Int) (y3 : Int) (y4 : Bool) (y5 : Int) (y6 : (List Int)) (y7 : (List Int)) (y8 : Int) (y9 : Int) (y10 : Int) (y11 : Int) (y12 : Int) (y13 : Int) (y14 : Int) (y15 : (List Int)) (y16 : Int) (y17 : Int) (y18 : Int) (y19 : Bool) (y20 : Int) (y21 : Int) (y22 : Int) (y23 : Int) (y24 : Int) (y25 : Int) (y26 : Bool) (y27 : Bool) : St := { tmps := [(.dsl TUnit a0 false), .dead, .dead, .dead, .dead, .dead, .dead, .dead, .dead, (.ptr 1 []), (.dsl TUnit y0 false), .dead, .dead, .dead, .dead, .dead, .dead, .dead, .dead, .dead, .dead, .dead, .dead, .dead, .dead, .dead, .dead, .dead, .dead, .dead, .dead, .dead, .dead, .dead, .dead, .dead, .dead, .dead, .dead, .dead, .dead, .dead, .dead, .dead, .dead, .dead, .dead, .dead, .dead, .dead, .dead, .dead, .dead, .dead, .dead, .dead, .dead, .dead, .dead, .dead, .dead, .dead, .dead, .dead, .dead, .dead, .dead, .dead, .dead, .dead, .dead, .dead, .dead, .dead, .dead, .dead, .dead, .dead, .dead, .dead, .dead, .dead, .dead, .dead, .dead, .dead, .dead, .dead, .dead, .dead, .dead, .dead, .dead, .dead, .dead, .dead, .dead, .dead, .dead, .dead, .dead, .dead, .dead], saved := [], heap := [none, some (.var (.pair (.int .i64 y1) (.pair (.pair (.int .u32 y2) (.pair (.int .u32 y3) (.pair (.bool y4) (.pair (.int .i64 y5) (.pair (.dsl (.int .u8) y6 false) .unit))))) (.pair (.dsl (.int .u8) y7 false) (.pair (.pair (.pair (.int .i64 y8) (.pair (.int .u64 y9) (.pair (.int .i64 y10) (.pair (.int .i64 y11) (.pair (.int .i64 y12) .unit))))) (.pair (.int .i64 y13) (.pair (.int .i64 y14) (.pair (.dsl (.int .u8) y15 false) (.pair (.pair (.int .i64 y16) (.pair (.int .i64 y17) (.pair (.int .i64 y18) .unit))) .unit))))) (.pair (.bool y19) (.pair (.int .i64 y20) (.pair (.int .i64 y21) (.pair (.int .i64 y22) (.pair (.pair (.int .i64 y23) (.pair (.int .i64 y24) (.pair (.int .i64 y25) .unit))) (.pair (.bool y26) (.pair (.bool y27) .unit))))))))))) false)] }
noncomputable def S5_0 (a0 : (Ty.den (.sl TUnit))) (a2 : (Ty.den (.sl THow))) (z5_0_2 : (List (Ty.den TUnit))) (z5_0_3 : Int) (z5_0_4 : Int) (z5_0_5 : Int) (z5_0_6 : Int) (z5_0_7 : Bool) (z5_0_8 : Int) (z5_0_9 : (List Int)) (z5_0_10 : (List Int)) (z5_0_11 : Int) (z5_0_12 : Int) (z5_0_13 : Int) (z5_0_14 : Int) (z5_0_15 : Int) (z5_0_16 : Int) (z5_0_17 : Int) (z5_0_18 : (List Int)) (z5_0_19 : Int) (z5_0_20 : Int) (z5_0_21 : Int) (z5_0_22 : Bool) (z5_0_23 : Int) (z5_0_24 : Int) (z5_0_25 : Int) (z5_0_26 : Int) (z5_0_27 : Int) (z5_0_28 : Int) (z5_0_29 : Bool) (z5_0_30 : Bool) : St := { tmps := [(.dsl TUnit a0 false), .dead, (.dsl THow a2 false), .dead, .dead, .dead, .dead, .dead, .dead, (.ptr 1 []), (.dsl TUnit z5_0_2 false), (.int .i64 z5_0_3), .dead, .dead, .dead, .dead, .dead, .dead, .dead, .dead, .dead, .dead, .dead, .dead, .dead, .dead, .dead, .dead, .dead, .dead, .dead, .dead, .dead, .dead, .dead, .dead, .dead, .dead, .dead, .dead, .dead, .dead, .dead, .dead, .dead, .dead, .dead, .dead, .dead, .dead, .dead, .dead, .dead, .dead, .dead, .dead, .dead, .dead, .dead, .dead, .dead, .dead, .dead, .dead, .dead, .dead, .dead, .dead, .dead, .dead, .dead, .dead, .dead, .dead, .dead, .dead, .dead, .dead, .dead, .dead, .dead, .dead, .dead, .dead, .dead, .dead, .dead, .dead, .dead, .dead, .dead, .dead, .dead, .dead, .dead, .dead, .dead, .dead, .dead, .dead, .dead, .dead, .dead], saved := [], heap := [none, some (.var (.pair (.int .i64 z5_0_4) (.pair (.pair (.int .u32 z5_0_5) (.pair (.int .u32 z5_0_6) (.pair (.bool z5_0_7) (.pair (.int .i64 z5_0_8) (.pair (.dsl (.int .u8) z5_0_9 false) .unit))))) (.pair (.dsl (.int .u8) z5_0_10 false) (.pair (.pair (.pair (.int .i64 z5_0_11) (.pair (.int .u64 z5_0_12) (.pair (.int .i64 z5_0_13) (.pair (.int .i64 z5_0_14) (.pair (.int .i64 z5_0_15) .unit))))) (.pair (.int .i64 z5_0_16) (.pair (.int .i64 z5_0_17) (.pair (.dsl (.int .u8) z5_0_18 false) (.pair (.pair (.int .i64 z5_0_19) (.pair (.int .i64 z5_0_20) (.pair (.int .i64 z5_0_21) .unit))) .unit))))) (.pair (.bool z5_0_22) (.pair (.int .i64 z5_0_23) (.pair (.int .i64 z5_0_24) (.pair (.int .i64 z5_0_25) (.pair (.pair (.int .i64 z5_0_26) (.pair (.int .i64 z5_0_27) (.pair (.int .i64 z5_0_28) .unit))) (.pair (.bool z5_0_29) (.pair (.bool z5_0_30) .unit))))))))))) false)] }
noncomputable def L5_0 (N : Nat) (g7 : Ty.den .unit → Option (Ty.den .bool)) (g9 : Ty.den (.pair (.sl TUnit) .unit) → Option (Ty.den .bool)) (g10 : Ty.den (.pair TBulk (.pair (.sl TUnit) THow)) → Option (Ty.den (.pair TBulk (.pair (.sl TUnit) .unit)))) (g11 : Ty.den (.pair TBulk .unit) → Option (Ty.den .bool)) (g13 : Ty.den (.pair TBulk .unit) → Option (Ty.den THow)) (g15 : Ty.den TLine → Option (Ty.den (.pair TBulk (.pair (.sl TUnit) .unit)))) (g17 : Ty.den (.pair (.sl (.int .u8)) (.pair (.int .i64) .unit)) → Option (Ty.den (.pair TCbw (.pair .bool .unit)))) (g18 : Ty.den (.pair (.sl TUnit) (.pair (.sl TUnit) .unit)) → Option (Ty.den .bool)) (a0 : (Ty.den (.sl TUnit))) (a2 : (Ty.den (.sl THow))) : Nat → (List (Ty.den TUnit)) → Int → Int → Int → Int → Bool → Int → (List Int) → (List Int) → Int → Int → Int → Int → Int → Int → Int → (List Int) → Int → Int → Int → Bool → Int → Int → Int → Int → Int → Int → Bool → Bool → Option (((Bool) ⊕ ((List (Ty.den TUnit)) × Int × Int × Int × Bool × Int × (List Int) × (List Int) × Int × Int × Int × Int × Int × Int × Int × (List Int) × Int × Int × Int × Bool × Int × Int × Int × Int × Int × Int × Bool × Bool)))
  | 0, _, _, _, _, _, _, _, _, _, _, _, _, _, _, _, _, _, _, _, _, _, _, _, _, _, _, _, _, _ => none
  | k + 1, z5_0_2, z5_0_3, z5_0_4, z5_0_5, z5_0_6, z5_0_7, z5_0_8, z5_0_9, z5_0_10, z5_0_11, z5_0_12, z5_0_13, z5_0_14, z5_0_15, z5_0_16, z5_0_17, z5_0_18, z5_0_19, z5_0_20, z5_0_21, z5_0_22, z5_0_23, z5_0_24, z5_0_25, z5_0_26, z5_0_27, z5_0_28, z5_0_29, z5_0_30 =>
  (br (Nat.ble (List.length a2) lim)
  (br (decide (z5_0_3 < (((List.length a2) : Nat) : Int)))
    (obind (idx a2 z5_0_3) fun x5 =>
      (br (Nat.ble (List.length x5.1) lim)
      (br (decide ((((List.length x5.1) : Nat) : Int) > 1100))
        (some (Sum.inl (true)))
        (obind (g13 ((z5_0_4, ((z5_0_5, (z5_0_6, (z5_0_7, (z5_0_8, (z5_0_9, ()))))), (z5_0_10, (((z5_0_11, (z5_0_12, (z5_0_13, (z5_0_14, (z5_0_15, ()))))), (z5_0_16, (z5_0_17, (z5_0_18, ((z5_0_19, (z5_0_20, (z5_0_21, ()))), ()))))), (z5_0_22, (z5_0_23, (z5_0_24, (z5_0_25, ((z5_0_26, (z5_0_27, (z5_0_28, ()))), (z5_0_29, (z5_0_30, ()))))))))))), ())) fun r6 =>
          (br r6.2.1
          (some (Sum.inl (false)))
          (obind (g11 ((z5_0_4, ((z5_0_5, (z5_0_6, (z5_0_7, (z5_0_8, (z5_0_9, ()))))), (z5_0_10, (((z5_0_11, (z5_0_12, (z5_0_13, (z5_0_14, (z5_0_15, ()))))), (z5_0_16, (z5_0_17, (z5_0_18, ((z5_0_19, (z5_0_20, (z5_0_21, ()))), ()))))), (z5_0_22, (z5_0_23, (z5_0_24, (z5_0_25, ((z5_0_26, (z5_0_27, (z5_0_28, ()))), (z5_0_29, (z5_0_30, ()))))))))))), ())) fun r7 =>
            (br r7
            (some (Sum.inl (false)))
            (obind (idx a2 z5_0_3) fun x8 =>
              (obind (idx a2 z5_0_3) fun x9 =>
              (obind (g10 ((z5_0_4, ((z5_0_5, (z5_0_6, (z5_0_7, (z5_0_8, (z5_0_9, ()))))), (z5_0_10, (((z5_0_11, (z5_0_12, (z5_0_13, (z5_0_14, (z5_0_15, ()))))), (z5_0_16, (z5_0_17, (z5_0_18, ((z5_0_19, (z5_0_20, (z5_0_21, ()))), ()))))), (z5_0_22, (z5_0_23, (z5_0_24, (z5_0_25, ((z5_0_26, (z5_0_27, (z5_0_28, ()))), (z5_0_29, (z5_0_30, ()))))))))))), (z5_0_2, (x8.1, (x9.2.1, ()))))) fun r10 =>
              (obind (idx a2 z5_0_3) fun x11 =>
              (obind (g15 ((r10.1.1, ((r10.1.2.1.1, (r10.1.2.1.2.1, (r10.1.2.1.2.2.1, (r10.1.2.1.2.2.2.1, (r10.1.2.1.2.2.2.2.1, ()))))), (r10.1.2.2.1, (((r10.1.2.2.2.1.1.1, (r10.1.2.2.2.1.1.2.1, (r10.1.2.2.2.1.1.2.2.1, (r10.1.2.2.2.1.1.2.2.2.1, (r10.1.2.2.2.1.1.2.2.2.2.1, ()))))), (r10.1.2.2.2.1.2.1, (r10.1.2.2.2.1.2.2.1, (r10.1.2.2.2.1.2.2.2.1, ((r10.1.2.2.2.1.2.2.2.2.1.1, (r10.1.2.2.2.1.2.2.2.2.1.2.1, (r10.1.2.2.2.1.2.2.2.2.1.2.2.1, ()))), ()))))), (r10.1.2.2.2.2.1, (r10.1.2.2.2.2.2.1, (r10.1.2.2.2.2.2.2.1, (r10.1.2.2.2.2.2.2.2.1, ((r10.1.2.2.2.2.2.2.2.2.1.1, (r10.1.2.2.2.2.2.2.2.2.1.2.1, (r10.1.2.2.2.2.2.2.2.2.1.2.2.1, ()))), (r10.1.2.2.2.2.2.2.2.2.2.1, (r10.1.2.2.2.2.2.2.2.2.2.2.1, ()))))))))))), (r10.2.1, (x11.2.1, ())))) fun r12 =>
              (L5_0 N g7 g9 g10 g11 g13 g15 g17 g18 a0 a2 k r12.2.1 (IntKind.i64.wrap (z5_0_3 + 1)) r12.1.1 r12.1.2.1.1 r12.1.2.1.2.1 r12.1.2.1.2.2.1 r12.1.2.1.2.2.2.1 r12.1.2.1.2.2.2.2.1 r12.1.2.2.1 r12.1.2.2.2.1.1.1 r12.1.2.2.2.1.1.2.1 r12.1.2.2.2.1.1.2.2.1 r12.1.2.2.2.1.1.2.2.2.1 r12.1.2.2.2.1.1.2.2.2.2.1 r12.1.2.2.2.1.2.1 r12.1.2.2.2.1.2.2.1 r12.1.2.2.2.1.2.2.2.1 r12.1.2.2.2.1.2.2.2.2.1.1 r12.1.2.2.2.1.2.2.2.2.1.2.1 r12.1.2.2.2.1.2.2.2.2.1.2.2.1 r12.1.2.2.2.2.1 r12.1.2.2.2.2.2.1 r12.1.2.2.2.2.2.2.1 r12.1.2.2.2.2.2.2.2.1 r12.1.2.2.2.2.2.2.2.2.1.1 r12.1.2.2.2.2.2.2.2.2.1.2.1 r12.1.2.2.2.2.2.2.2.2.1.2.2.1 r12.1.2.2.2.2.2.2.2.2.2.1 r12.1.2.2.2.2.2.2.2.2.2.2.1)))))))))))
      (none)))
    (some (Sum.inr (z5_0_2, z5_0_4, z5_0_5, z5_0_6, z5_0_7, z5_0_8, z5_0_9, z5_0_10, z5_0_11, z5_0_12, z5_0_13, z5_0_14, z5_0_15, z5_0_16, z5_0_17, z5_0_18, z5_0_19, z5_0_20, z5_0_21, z5_0_22, z5_0_23, z5_0_24, z5_0_25, z5_0_26, z5_0_27, z5_0_28, z5_0_29, z5_0_30))))
  (none))
theorem LL5_0 {R : Type} (N : Nat) (g7 : Ty.den .unit → Option (Ty.den .bool)) (g9 : Ty.den (.pair (.sl TUnit) .unit) → Option (Ty.den .bool)) (g10 : Ty.den (.pair TBulk (.pair (.sl TUnit) THow)) → Option (Ty.den (.pair TBulk (.pair (.sl TUnit) .unit)))) (g11 : Ty.den (.pair TBulk .unit) → Option (Ty.den .bool)) (g13 : Ty.den (.pair TBulk .unit) → Option (Ty.den THow)) (g15 : Ty.den TLine → Option (Ty.den (.pair TBulk (.pair (.sl TUnit) .unit)))) (g17 : Ty.den (.pair (.sl (.int .u8)) (.pair (.int .i64) .unit)) → Option (Ty.den (.pair TCbw (.pair .bool .unit)))) (g18 : Ty.den (.pair (.sl TUnit) (.pair (.sl TUnit) .unit)) → Option (Ty.den .bool)) (a0 : (Ty.den (.sl TUnit))) (a2 : (Ty.den (.sl THow))) : ∀ (k : Nat) (z5_0_2 : (List (Ty.den TUnit))) (z5_0_3 : Int) (z5_0_4 : Int) (z5_0_5 : Int) (z5_0_6 : Int) (z5_0_7 : Bool) (z5_0_8 : Int) (z5_0_9 : (List Int)) (z5_0_10 : (List Int)) (z5_0_11 : Int) (z5_0_12 : Int) (z5_0_13 : Int) (z5_0_14 : Int) (z5_0_15 : Int) (z5_0_16 : Int) (z5_0_17 : Int) (z5_0_18 : (List Int)) (z5_0_19 : Int) (z5_0_20 : Int) (z5_0_21 : Int) (z5_0_22 : Bool) (z5_0_23 : Int) (z5_0_24 : Int) (z5_0_25 : Int) (z5_0_26 : Int) (z5_0_27 : Int) (z5_0_28 : Int) (z5_0_29 : Bool) (z5_0_30 : Bool) (K : Ex → St → Option R), loopR (c5 N g7 g9 g10 g11 g13 g15 g17 g18) 40 5 (bodyF Go.Proofs.Tryz.f5).s2.s2.s2.s2.s2.s1.s2.bd.bd k (S5_0 a0 a2 z5_0_2 z5_0_3 z5_0_4 z5_0_5 z5_0_6 z5_0_7 z5_0_8 z5_0_9 z5_0_10 z5_0_11 z5_0_12 z5_0_13 z5_0_14 z5_0_15 z5_0_16 z5_0_17 z5_0_18 z5_0_19 z5_0_20 z5_0_21 z5_0_22 z5_0_23 z5_0_24 z5_0_25 z5_0_26 z5_0_27 z5_0_28 z5_0_29 z5_0_30) K = obind (L5_0 N g7 g9 g10 g11 g13 g15 g17 g18 a0 a2 k z5_0_2 z5_0_3 z5_0_4 z5_0_5 z5_0_6 z5_0_7 z5_0_8 z5_0_9 z5_0_10 z5_0_11 z5_0_12 z5_0_13 z5_0_14 z5_0_15 z5_0_16 z5_0_17 z5_0_18 z5_0_19 z5_0_20 z5_0_21 z5_0_22 z5_0_23 z5_0_24 z5_0_25 z5_0_26 z5_0_27 z5_0_28 z5_0_29 z5_0_30) (Sum.elim (fun o => K .ret (X5_0_0 o)) (fun o => K (.exit 0) (X5_0_1 a0 o.1 o.2.1 o.2.2.1 o.2.2.2.1 o.2.2.2.2.1 o.2.2.2.2.2.1 o.2.2.2.2.2.2.1 o.2.2.2.2.2.2.2.1 o.2.2.2.2.2.2.2.2.1 o.2.2.2.2.2.2.2.2.2.1 o.2.2.2.2.2.2.2.2.2.2.1 o.2.2.2.2.2.2.2.2.2.2.2.1 o.2.2.2.2.2.2.2.2.2.2.2.2.1 o.2.2.2.2.2.2.2.2.2.2.2.2.2.1 o.2.2.2.2.2.2.2.2.2.2.2.2.2.2.1 o.2.2.2.2.2.2.2.2.2.2.2.2.2.2.2.1 o.2.2.2.2.2.2.2.2.2.2.2.2.2.2.2.2.1 o.2.2.2.2.2.2.2.2.2.2.2.2.2.2.2.2.2.1 o.2.2.2.2.2.2.2.2.2.2.2.2.2.2.2.2.2.2.1 o.2.2.2.2.2.2.2.2.2.2.2.2.2.2.2.2.2.2.2.1 o.2.2.2.2.2.2.2.2.2.2.2.2.2.2.2.2.2.2.2.2.1 o.2.2.2.2.2.2.2.2.2.2.2.2.2.2.2.2.2.2.2.2.2.1 o.2.2.2.2.2.2.2.2.2.2.2.2.2.2.2.2.2.2.2.2.2.2.1 o.2.2.2.2.2.2.2.2.2.2.2.2.2.2.2.2.2.2.2.2.2.2.2.1 o.2.2.2.2.2.2.2.2.2.2.2.2.2.2.2.2.2.2.2.2.2.2.2.2.1 o.2.2.2.2.2.2.2.2.2.2.2.2.2.2.2.2.2.2.2.2.2.2.2.2.2.1 o.2.2.2.2.2.2.2.2.2.2.2.2.2.2.2.2.2.2.2.2.2.2.2.2.2.2.1 o.2.2.2.2.2.2.2.2.2.2.2.2.2.2.2.2.2.2.2.2.2.2.2.2.2.2.2))) := by
  intro k
  induction k with
  | zero => intros; kernel_rfl
  | succ k ih =>
    intro z5_0_2 z5_0_3 z5_0_4 z5_0_5 z5_0_6 z5_0_7 z5_0_8 z5_0_9 z5_0_10 z5_0_11 z5_0_12 z5_0_13 z5_0_14 z5_0_15 z5_0_16 z5_0_17 z5_0_18 z5_0_19 z5_0_20 z5_0_21 z5_0_22 z5_0_23 z5_0_24 z5_0_25 z5_0_26 z5_0_27 z5_0_28 z5_0_29 z5_0_30 K
    have e : loopR (c5 N g7 g9 g10 g11 g13 g15 g17 g18) 40 5 (bodyF Go.Proofs.Tryz.f5).s2.s2.s2.s2.s2.s1.s2.bd.bd (k + 1) (S5_0 a0 a2 z5_0_2 z5_0_3 z5_0_4 z5_0_5 z5_0_6 z5_0_7 z5_0_8 z5_0_9 z5_0_10 z5_0_11 z5_0_12 z5_0_13 z5_0_14 z5_0_15 z5_0_16 z5_0_17 z5_0_18 z5_0_19 z5_0_20 z5_0_21 z5_0_22 z5_0_23 z5_0_24 z5_0_25 z5_0_26 z5_0_27 z5_0_28 z5_0_29 z5_0_30) K =
      (br (Nat.ble (List.length a2) lim)
  (br (decide (z5_0_3 < (((List.length a2) : Nat) : Int)))
    (obind (idx a2 z5_0_3) fun x5 =>
      (br (Nat.ble (List.length x5.1) lim)
      (br (decide ((((List.length x5.1) : Nat) : Int) > 1100))
        (K .ret (X5_0_0 true))
        (obind (g13 ((z5_0_4, ((z5_0_5, (z5_0_6, (z5_0_7, (z5_0_8, (z5_0_9, ()))))), (z5_0_10, (((z5_0_11, (z5_0_12, (z5_0_13, (z5_0_14, (z5_0_15, ()))))), (z5_0_16, (z5_0_17, (z5_0_18, ((z5_0_19, (z5_0_20, (z5_0_21, ()))), ()))))), (z5_0_22, (z5_0_23, (z5_0_24, (z5_0_25, ((z5_0_26, (z5_0_27, (z5_0_28, ()))), (z5_0_29, (z5_0_30, ()))))))))))), ())) fun r6 =>
          (br r6.2.1
          (K .ret (X5_0_0 false))
          (obind (g11 ((z5_0_4, ((z5_0_5, (z5_0_6, (z5_0_7, (z5_0_8, (z5_0_9, ()))))), (z5_0_10, (((z5_0_11, (z5_0_12, (z5_0_13, (z5_0_14, (z5_0_15, ()))))), (z5_0_16, (z5_0_17, (z5_0_18, ((z5_0_19, (z5_0_20, (z5_0_21, ()))), ()))))), (z5_0_22, (z5_0_23, (z5_0_24, (z5_0_25, ((z5_0_26, (z5_0_27, (z5_0_28, ()))), (z5_0_29, (z5_0_30, ()))))))))))), ())) fun r7 =>
            (br r7
            (K .ret (X5_0_0 false))
            (obind (idx a2 z5_0_3) fun x8 =>
              (obind (idx a2 z5_0_3) fun x9 =>
              (obind (g10 ((z5_0_4, ((z5_0_5, (z5_0_6, (z5_0_7, (z5_0_8, (z5_0_9, ()))))), (z5_0_10, (((z5_0_11, (z5_0_12, (z5_0_13, (z5_0_14, (z5_0_15, ()))))), (z5_0_16, (z5_0_17, (z5_0_18, ((z5_0_19, (z5_0_20, (z5_0_21, ()))), ()))))), (z5_0_22, (z5_0_23, (z5_0_24, (z5_0_25, ((z5_0_26, (z5_0_27, (z5_0_28, ()))), (z5_0_29, (z5_0_30, ()))))))))))), (z5_0_2, (x8.1, (x9.2.1, ()))))) fun r10 =>
              (obind (idx a2 z5_0_3) fun x11 =>
              (obind (g15 ((r10.1.1, ((r10.1.2.1.1, (r10.1.2.1.2.1, (r10.1.2.1.2.2.1, (r10.1.2.1.2.2.2.1, (r10.1.2.1.2.2.2.2.1, ()))))), (r10.1.2.2.1, (((r10.1.2.2.2.1.1.1, (r10.1.2.2.2.1.1.2.1, (r10.1.2.2.2.1.1.2.2.1, (r10.1.2.2.2.1.1.2.2.2.1, (r10.1.2.2.2.1.1.2.2.2.2.1, ()))))), (r10.1.2.2.2.1.2.1, (r10.1.2.2.2.1.2.2.1, (r10.1.2.2.2.1.2.2.2.1, ((r10.1.2.2.2.1.2.2.2.2.1.1, (r10.1.2.2.2.1.2.2.2.2.1.2.1, (r10.1.2.2.2.1.2.2.2.2.1.2.2.1, ()))), ()))))), (r10.1.2.2.2.2.1, (r10.1.2.2.2.2.2.1, (r10.1.2.2.2.2.2.2.1, (r10.1.2.2.2.2.2.2.2.1, ((r10.1.2.2.2.2.2.2.2.2.1.1, (r10.1.2.2.2.2.2.2.2.2.1.2.1, (r10.1.2.2.2.2.2.2.2.2.1.2.2.1, ()))), (r10.1.2.2.2.2.2.2.2.2.2.1, (r10.1.2.2.2.2.2.2.2.2.2.2.1, ()))))))))))), (r10.2.1, (x11.2.1, ())))) fun r12 =>
              (loopR (c5 N g7 g9 g10 g11 g13 g15 g17 g18) 40 5 (bodyF Go.Proofs.Tryz.f5).s2.s2.s2.s2.s2.s1.s2.bd.bd k (S5_0 a0 a2 r12.2.1 (IntKind.i64.wrap (z5_0_3 + 1)) r12.1.1 r12.1.2.1.1 r12.1.2.1.2.1 r12.1.2.1.2.2.1 r12.1.2.1.2.2.2.1 r12.1.2.1.2.2.2.2.1 r12.1.2.2.1 r12.1.2.2.2.1.1.1 r12.1.2.2.2.1.1.2.1 r12.1.2.2.2.1.1.2.2.1 r12.1.2.2.2.1.1.2.2.2.1 r12.1.2.2.2.1.1.2.2.2.2.1 r12.1.2.2.2.1.2.1 r12.1.2.2.2.1.2.2.1 r12.1.2.2.2.1.2.2.2.1 r12.1.2.2.2.1.2.2.2.2.1.1 r12.1.2.2.2.1.2.2.2.2.1.2.1 r12.1.2.2.2.1.2.2.2.2.1.2.2.1 r12.1.2.2.2.2.1 r12.1.2.2.2.2.2.1 r12.1.2.2.2.2.2.2.1 r12.1.2.2.2.2.2.2.2.1 r12.1.2.2.2.2.2.2.2.2.1.1 r12.1.2.2.2.2.2.2.2.2.1.2.1 r12.1.2.2.2.2.2.2.2.2.1.2.2.1 r12.1.2.2.2.2.2.2.2.2.2.1 r12.1.2.2.2.2.2.2.2.2.2.2.1) K)))))))))))
      (none)))
    (K (.exit 0) (X5_0_1 a0 z5_0_2 z5_0_4 z5_0_5 z5_0_6 z5_0_7 z5_0_8 z5_0_9 z5_0_10 z5_0_11 z5_0_12 z5_0_13 z5_0_14 z5_0_15 z5_0_16 z5_0_17 z5_0_18 z5_0_19 z5_0_20 z5_0_21 z5_0_22 z5_0_23 z5_0_24 z5_0_25 z5_0_26 z5_0_27 z5_0_28 z5_0_29 z5_0_30)))
  (none)) := by kernel_rfl
    rw [e]
    simp only [ih, L5_0, obind_br, obind_obind, obind_none, obind_some_eq, Sum.elim_inl, Sum.elim_inr]
noncomputable def K5_0  (N : Nat) (g7 : Ty.den .unit → Option (Ty.den .bool)) (g9 : Ty.den (.pair (.sl TUnit) .unit) → Option (Ty.den .bool)) (g10 : Ty.den (.pair TBulk (.pair (.sl TUnit) THow)) → Option (Ty.den (.pair TBulk (.pair (.sl TUnit) .unit)))) (g11 : Ty.den (.pair TBulk .unit) → Option (Ty.den .bool)) (g13 : Ty.den (.pair TBulk .unit) → Option (Ty.den THow)) (g15 : Ty.den TLine → Option (Ty.den (.pair TBulk (.pair (.sl TUnit) .unit)))) (g17 : Ty.den (.pair (.sl (.int .u8)) (.pair (.int .i64) .unit)) → Option (Ty.den (.pair TCbw (.pair .bool .unit)))) (g18 : Ty.den (.pair (.sl TUnit) (.pair (.sl TUnit) .unit)) → Option (Ty.den .bool))   : Ex → St → Option (Ty.den .bool) := (blockK 0 (seqK (fun st K => exec (c5 N g7 g9 g10 g11 g13 g15 g17 g18) (inl (c5 N g7 g9 g10 g11 g13 g15 g17 g18) 40) 5 (bodyF Go.Proofs.Tryz.f5).s2.s2.s2.s2.s2.s2 st K) (topK Go.Proofs.Tryz.prog Go.Proofs.Tryz.f5 (fun v H => handed H .bool 1 v))))
theorem E5_0_0  (N : Nat) (g7 : Ty.den .unit → Option (Ty.den .bool)) (g9 : Ty.den (.pair (.sl TUnit) .unit) → Option (Ty.den .bool)) (g10 : Ty.den (.pair TBulk (.pair (.sl TUnit) THow)) → Option (Ty.den (.pair TBulk (.pair (.sl TUnit) .unit)))) (g11 : Ty.den (.pair TBulk .unit) → Option (Ty.den .bool)) (g13 : Ty.den (.pair TBulk .unit) → Option (Ty.den THow)) (g15 : Ty.den TLine → Option (Ty.den (.pair TBulk (.pair (.sl TUnit) .unit)))) (g17 : Ty.den (.pair (.sl (.int .u8)) (.pair (.int .i64) .unit)) → Option (Ty.den (.pair TCbw (.pair .bool .unit)))) (g18 : Ty.den (.pair (.sl TUnit) (.pair (.sl TUnit) .unit)) → Option (Ty.den .bool)) (o13 : Bool)  : (K5_0 N g7 g9 g10 g11 g13 g15 g17 g18  ) .ret (X5_0_0 o13) =
  (some o13) := by kernel_rfl
theorem E5_0_1  (N : Nat) (g7 : Ty.den .unit → Option (Ty.den .bool)) (g9 : Ty.den (.pair (.sl TUnit) .unit) → Option (Ty.den .bool)) (g10 : Ty.den (.pair TBulk (.pair (.sl TUnit) THow)) → Option (Ty.den (.pair TBulk (.pair (.sl TUnit) .unit)))) (g11 : Ty.den (.pair TBulk .unit) → Option (Ty.den .bool)) (g13 : Ty.den (.pair TBulk .unit) → Option (Ty.den THow)) (g15 : Ty.den TLine → Option (Ty.den (.pair TBulk (.pair (.sl TUnit) .unit)))) (g17 : Ty.den (.pair (.sl (.int .u8)) (.pair (.int .i64) .unit)) → Option (Ty.den (.pair TCbw (.pair .bool .unit)))) (g18 : Ty.den (.pair (.sl TUnit) (.pair (.sl TUnit) .unit)) → Option (Ty.den .bool)) (a0 : (Ty.den (.sl TUnit))) (o14 : (List (Ty.den TUnit)) × Int × Int × Int × Bool × Int × (List Int) × (List Int) × Int × Int × Int × Int × Int × Int × Int × (List Int) × Int × Int × Int × Bool × Int × Int × Int × Int × Int × Int × Bool × Bool)  : (K5_0 N g7 g9 g10 g11 g13 g15 g17 g18  ) (.exit 0) (X5_0_1 a0 o14.1 o14.2.1 o14.2.2.1 o14.2.2.2.1 o14.2.2.2.2.1 o14.2.2.2.2.2.1 o14.2.2.2.2.2.2.1 o14.2.2.2.2.2.2.2.1 o14.2.2.2.2.2.2.2.2.1 o14.2.2.2.2.2.2.2.2.2.1 o14.2.2.2.2.2.2.2.2.2.2.1 o14.2.2.2.2.2.2.2.2.2.2.2.1 o14.2.2.2.2.2.2.2.2.2.2.2.2.1 o14.2.2.2.2.2.2.2.2.2.2.2.2.2.1 o14.2.2.2.2.2.2.2.2.2.2.2.2.2.2.1 o14.2.2.2.2.2.2.2.2.2.2.2.2.2.2.2.1 o14.2.2.2.2.2.2.2.2.2.2.2.2.2.2.2.2.1 o14.2.2.2.2.2.2.2.2.2.2.2.2.2.2.2.2.2.1 o14.2.2.2.2.2.2.2.2.2.2.2.2.2.2.2.2.2.2.1 o14.2.2.2.2.2.2.2.2.2.2.2.2.2.2.2.2.2.2.2.1 o14.2.2.2.2.2.2.2.2.2.2.2.2.2.2.2.2.2.2.2.2.1 o14.2.2.2.2.2.2.2.2.2.2.2.2.2.2.2.2.2.2.2.2.2.1 o14.2.2.2.2.2.2.2.2.2.2.2.2.2.2.2.2.2.2.2.2.2.2.1 o14.2.2.2.2.2.2.2.2.2.2.2.2.2.2.2.2.2.2.2.2.2.2.2.1 o14.2.2.2.2.2.2.2.2.2.2.2.2.2.2.2.2.2.2.2.2.2.2.2.2.1 o14.2.2.2.2.2.2.2.2.2.2.2.2.2.2.2.2.2.2.2.2.2.2.2.2.2.1 o14.2.2.2.2.2.2.2.2.2.2.2.2.2.2.2.2.2.2.2.2.2.2.2.2.2.2.1 o14.2.2.2.2.2.2.2.2.2.2.2.2.2.2.2.2.2.2.2.2.2.2.2.2.2.2.2) =
  (br (o14.2.1 == 4)
  (obind (g18 (o14.1, (a0, ()))) fun r15 =>
    (some r15))
  (some false)) := by kernel_rfl
theorem N5 (N : Nat) (g7 : Ty.den .unit → Option (Ty.den .bool)) (g9 : Ty.den (.pair (.sl TUnit) .unit) → Option (Ty.den .bool)) (g10 : Ty.den (.pair TBulk (.pair (.sl TUnit) THow)) → Option (Ty.den (.pair TBulk (.pair (.sl TUnit) .unit)))) (g11 : Ty.den (.pair TBulk .unit) → Option (Ty.den .bool)) (g13 : Ty.den (.pair TBulk .unit) → Option (Ty.den THow)) (g15 : Ty.den TLine → Option (Ty.den (.pair TBulk (.pair (.sl TUnit) .unit)))) (g17 : Ty.den (.pair (.sl (.int .u8)) (.pair (.int .i64) .unit)) → Option (Ty.den (.pair TCbw (.pair .bool .unit)))) (g18 : Ty.den (.pair (.sl TUnit) (.pair (.sl TUnit) .unit)) → Option (Ty.den .bool)) (a0 : (Ty.den (.sl TUnit))) (a1 : (Ty.den (.sl (.int .u8)))) (a2 : (Ty.den (.sl THow))) : runFn (c5 N g7 g9 g10 g11 g13 g15 g17 g18) 40 5 (.pair (.sl TUnit) (.pair (.sl (.int .u8)) (.pair (.sl THow) .unit))) .bool 1 (a0, a1, a2, ()) =
  (obind (g7 ()) fun r1 =>
  (br (!r1)
  (some false)
  (br (Nat.ble (List.length a0) lim)
    (obind (g17 (a1, ((((List.length a0) : Nat) : Int), ()))) fun r2 =>
      (obind (g9 (a0, ())) fun r3 =>
      (br r3
      (some true)
      (br r2.2.1
        (some true)
        (br (Nat.ble (List.length a1) lim)
          (br (decide ((((List.length a1) : Nat) : Int) > 1100))
            (some true)
            (br (Nat.ble (List.length a2) lim)
              (br (decide ((((List.length a2) : Nat) : Int) > 50))
                (some true)
                (obind (g10 ((0, ((0, (0, (false, (0, ([], ()))))), ([], (((0, (0, (0, (0, (0, ()))))), (0, (0, ([], ((0, (0, (0, ()))), ()))))), (false, (0, (0, (0, ((0, (0, (0, ()))), (false, (false, ()))))))))))), (a0, (a1, (false, ()))))) fun r4 =>
                  (obind (L5_0 N g7 g9 g10 g11 g13 g15 g17 g18 a0 a2 (N + 100) r4.2.1 0 r4.1.1 r4.1.2.1.1 r4.1.2.1.2.1 r4.1.2.1.2.2.1 r4.1.2.1.2.2.2.1 r4.1.2.1.2.2.2.2.1 r4.1.2.2.1 r4.1.2.2.2.1.1.1 r4.1.2.2.2.1.1.2.1 r4.1.2.2.2.1.1.2.2.1 r4.1.2.2.2.1.1.2.2.2.1 r4.1.2.2.2.1.1.2.2.2.2.1 r4.1.2.2.2.1.2.1 r4.1.2.2.2.1.2.2.1 r4.1.2.2.2.1.2.2.2.1 r4.1.2.2.2.1.2.2.2.2.1.1 r4.1.2.2.2.1.2.2.2.2.1.2.1 r4.1.2.2.2.1.2.2.2.2.1.2.2.1 r4.1.2.2.2.2.1 r4.1.2.2.2.2.2.1 r4.1.2.2.2.2.2.2.1 r4.1.2.2.2.2.2.2.2.1 r4.1.2.2.2.2.2.2.2.2.1.1 r4.1.2.2.2.2.2.2.2.2.1.2.1 r4.1.2.2.2.2.2.2.2.2.1.2.2.1 r4.1.2.2.2.2.2.2.2.2.2.1 r4.1.2.2.2.2.2.2.2.2.2.2.1) (Sum.elim (fun o13 =>
                  (some o13)) (fun o14 =>
                  (br (o14.2.1 == 4)
                    (obind (g18 (o14.1, (a0, ()))) fun r15 =>
                      (some r15))
                    (some false)))))))
              (none)))
          (none))))))
    (none)))) := by
  have e : runFn (c5 N g7 g9 g10 g11 g13 g15 g17 g18) 40 5 (.pair (.sl TUnit) (.pair (.sl (.int .u8)) (.pair (.sl THow) .unit))) .bool 1 (a0, a1, a2, ()) =
    (obind (g7 ()) fun r1 =>
  (br (!r1)
  (some false)
  (br (Nat.ble (List.length a0) lim)
    (obind (g17 (a1, ((((List.length a0) : Nat) : Int), ()))) fun r2 =>
      (obind (g9 (a0, ())) fun r3 =>
      (br r3
      (some true)
      (br r2.2.1
        (some true)
        (br (Nat.ble (List.length a1) lim)
          (br (decide ((((List.length a1) : Nat) : Int) > 1100))
            (some true)
            (br (Nat.ble (List.length a2) lim)
              (br (decide ((((List.length a2) : Nat) : Int) > 50))
                (some true)
                (obind (g10 ((0, ((0, (0, (false, (0, ([], ()))))), ([], (((0, (0, (0, (0, (0, ()))))), (0, (0, ([], ((0, (0, (0, ()))), ()))))), (false, (0, (0, (0, ((0, (0, (0, ()))), (false, (false, ()))))))))))), (a0, (a1, (false, ()))))) fun r4 =>
                  (loopR (c5 N g7 g9 g10 g11 g13 g15 g17 g18) 40 5 (bodyF Go.Proofs.Tryz.f5).s2.s2.s2.s2.s2.s1.s2.bd.bd (N + 100) (S5_0 a0 a2 r4.2.1 0 r4.1.1 r4.1.2.1.1 r4.1.2.1.2.1 r4.1.2.1.2.2.1 r4.1.2.1.2.2.2.1 r4.1.2.1.2.2.2.2.1 r4.1.2.2.1 r4.1.2.2.2.1.1.1 r4.1.2.2.2.1.1.2.1 r4.1.2.2.2.1.1.2.2.1 r4.1.2.2.2.1.1.2.2.2.1 r4.1.2.2.2.1.1.2.2.2.2.1 r4.1.2.2.2.1.2.1 r4.1.2.2.2.1.2.2.1 r4.1.2.2.2.1.2.2.2.1 r4.1.2.2.2.1.2.2.2.2.1.1 r4.1.2.2.2.1.2.2.2.2.1.2.1 r4.1.2.2.2.1.2.2.2.2.1.2.2.1 r4.1.2.2.2.2.1 r4.1.2.2.2.2.2.1 r4.1.2.2.2.2.2.2.1 r4.1.2.2.2.2.2.2.2.1 r4.1.2.2.2.2.2.2.2.2.1.1 r4.1.2.2.2.2.2.2.2.2.1.2.1 r4.1.2.2.2.2.2.2.2.2.1.2.2.1 r4.1.2.2.2.2.2.2.2.2.2.1 r4.1.2.2.2.2.2.2.2.2.2.2.1) (K5_0 N g7 g9 g10 g11 g13 g15 g17 g18  ))))
              (none)))
          (none))))))
    (none)))) := by kernel_rfl
  rw [e]
  simp only [LL5_0, E5_0_0, E5_0_1]
theorem n5 (a0 : (Ty.den (.sl TUnit))) (a1 : (Ty.den (.sl (.int .u8)))) (a2 : (Ty.den (.sl THow))) : F5 (a0, a1, a2, ()) =
  (obind (F7 ()) fun r1 =>
  (br (!r1)
  (some false)
  (br (Nat.ble (List.length a0) lim)
    (obind (F17 (a1, ((((List.length a0) : Nat) : Int), ()))) fun r2 =>
      (obind (F9 (a0, ())) fun r3 =>
      (br r3
      (some true)
      (br r2.2.1
        (some true)
        (br (Nat.ble (List.length a1) lim)
          (br (decide ((((List.length a1) : Nat) : Int) > 1100))
            (some true)
            (br (Nat.ble (List.length a2) lim)
              (br (decide ((((List.length a2) : Nat) : Int) > 50))
                (some true)
                (obind (F10 ((0, ((0, (0, (false, (0, ([], ()))))), ([], (((0, (0, (0, (0, (0, ()))))), (0, (0, ([], ((0, (0, (0, ()))), ()))))), (false, (0, (0, (0, ((0, (0, (0, ()))), (false, (false, ()))))))))))), (a0, (a1, (false, ()))))) fun r4 =>
                  (obind (L5_0 NN F7 F9 F10 F11 F13 F15 F17 F18 a0 a2 (NN + 100) r4.2.1 0 r4.1.1 r4.1.2.1.1 r4.1.2.1.2.1 r4.1.2.1.2.2.1 r4.1.2.1.2.2.2.1 r4.1.2.1.2.2.2.2.1 r4.1.2.2.1 r4.1.2.2.2.1.1.1 r4.1.2.2.2.1.1.2.1 r4.1.2.2.2.1.1.2.2.1 r4.1.2.2.2.1.1.2.2.2.1 r4.1.2.2.2.1.1.2.2.2.2.1 r4.1.2.2.2.1.2.1 r4.1.2.2.2.1.2.2.1 r4.1.2.2.2.1.2.2.2.1 r4.1.2.2.2.1.2.2.2.2.1.1 r4.1.2.2.2.1.2.2.2.2.1.2.1 r4.1.2.2.2.1.2.2.2.2.1.2.2.1 r4.1.2.2.2.2.1 r4.1.2.2.2.2.2.1 r4.1.2.2.2.2.2.2.1 r4.1.2.2.2.2.2.2.2.1 r4.1.2.2.2.2.2.2.2.2.1.1 r4.1.2.2.2.2.2.2.2.2.1.2.1 r4.1.2.2.2.2.2.2.2.2.1.2.2.1 r4.1.2.2.2.2.2.2.2.2.2.1 r4.1.2.2.2.2.2.2.2.2.2.2.1) (Sum.elim (fun o13 =>
                  (some o13)) (fun o14 =>
                  (br (o14.2.1 == 4)
                    (obind (F18 (o14.1, (a0, ()))) fun r15 =>
                      (some r15))
                    (some false)))))))
              (none)))
          (none))))))
    (none)))) := N5 NN F7 F9 F10 F11 F13 F15 F17 F18 a0 a1 a2
end Go.Am
