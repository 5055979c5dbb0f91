/-
  A part of the proof of the statement that this claim names: for every input up to the bound, the law returns true, and the arguments read as before.
-/
import Derived.Test.YtjfgannabdaemaaGreatB5
import Derived.Test.YtjfgannabdaemaaGreatRows
set_option linter.all false
namespace Go.Proofs.YtjfgannabdaemaaGreat.BulkWedges
open Go.ChangeShapes Go.WideShapes Go.ChangeAt Go.RowKit Go.Am
set_option linter.unusedVariables false
set_option maxRecDepth 100000

theorem own : ownKnob Tryz.prog.godebug = none := by kernel_rfl

theorem sum_eq {H : Type} : ∀ l : List (DataW H), sumB Rows.uptoBulk l = Rows.uptoBulkAll l := by
  intro l
  induction l with
  | nil => simp [sumB, Rows.uptoBulkAll]
  | cons a l ih => simp only [sumB, Rows.uptoBulkAll, ih]

/-- the statements' own measure -/
noncomputable def size (H : Type) : Measure H where
  β := Rows.uptoBulk
  one d := by
    cases d with
    | lit l => cases l <;> simp [Rows.uptoBulk]
    | nil => simp [Rows.uptoBulk]
    | ptr d => simp [Rows.uptoBulk]
    | slice elems spare => simp [Rows.uptoBulk]
    | agg parts => simp [Rows.uptoBulk]
    | iface t d => simp [Rows.uptoBulk]
    | map entries => simp [Rows.uptoBulk]
    | held h => simp [Rows.uptoBulk]
  str bs := by simp [Rows.uptoBulk]
  sl es sp := by rw [sum_eq]; simp only [Rows.uptoBulk]; omega
  agg ps := by rw [sum_eq]; simp only [Rows.uptoBulk]; omega

theorem len_le {α : Type} {f : α → Nat} (h : ∀ a, 1 ≤ f a) : ∀ l : List α, l.length ≤ sumB f l := by
  intro l
  induction l with
  | nil => exact Nat.le_refl _
  | cons a l ih => simp only [sumB, List.length_cons]; have := h a; omega

theorem mem_le {α : Type} {f : α → Nat} : ∀ {l : List α} {a : α}, a ∈ l → f a ≤ sumB f l := by
  intro l
  induction l with
  | nil => intro a h; cases h
  | cons x l ih =>
    intro a h
    simp only [sumB]
    rcases List.mem_cons.1 h with rfl | h
    · omega
    · have := ih h; omega

theorem small (u : List (Ty.den TUnit)) (data : List Int) (l : List (Ty.den THow)) (hr : rangeT (.pair (.sl TUnit) (.pair (.sl (.int .u8)) (.pair (.sl THow) .unit))) (u, data, l, ()))
    (hb : bulkT (.pair (.sl TUnit) (.pair (.sl (.int .u8)) (.pair (.sl THow) .unit))) (u, data, l, ()) ≤ 1048576) : F5 (u, data, l, ()) = some true := by
  obtain ⟨r1, r2, r3, _⟩ := hr
  simp only [bulkT] at hb
  have b1 : sumB (bulkT TUnit) u ≤ 1048576 := by simp only [bulkT]; omega
  have b3 : sumB (bulkT THow) l ≤ 1048576 := by simp only [bulkT]; omega
  have hu := len_le (f := bulkT TUnit) (fun a => by simp only [bulkT]; omega) u
  have hd := len_le (f := bulkT (.int .u8)) (fun a => by simp only [bulkT]; omega) data
  have hl := len_le (f := bulkT THow) (fun a => by simp only [bulkT]; omega) l
  have hd' : data.length ≤ 1048576 := by simp only [bulkT] at hd; omega
  refine law5 u data l (by omega) (fun x hx => ?_) hd' (fun n hn => ?_) (by omega) (fun x hx => ?_)
  · have e := mem_le (f := bulkT TUnit) hx
    have e2 : bulkT TUnit x ≤ 1048576 := by omega
    have rx : rangeT TUnit x := r1 x hx
    obtain ⟨⟨⟨rm, _⟩, _⟩, _⟩ := rx
    have len : ∀ a : Ty.den (.arr 64 (.int .u8)), a ∈ x.1.1.1 → 1 ≤ bulkT (.arr 64 (.int .u8)) a := fun a ha => by
      have h64 := (rm a ha).1
      have := len_le (f := bulkT (.int .u8)) (fun a => by simp only [bulkT]; omega) a
      simp only [bulkT] at this ⊢
      omega
    have blocks : x.1.1.1.length ≤ sumB (bulkT (.arr 64 (.int .u8))) x.1.1.1 := by
      clear e e2 rm
      revert len
      generalize x.1.1.1 = q
      intro len
      induction q with
      | nil => exact Nat.le_refl _
      | cons a q ih => have h1 := len a (by simp); have h2 := ih (fun b hb => len b (by simp [hb])); simp only [sumB, List.length_cons] at h1 h2 ⊢; omega
    have dirt := len_le (f := bulkT TDirty) (fun a => by simp only [bulkT]; omega) x.1.1.2.1
    have sense := len_le (f := bulkT TSense) (fun a => by simp only [bulkT]; omega) x.2.2.1
    have whole : bulkT TUnit x = (((sumB (bulkT (.arr 64 (.int .u8))) x.1.1.1 + 1) + ((sumB (bulkT TDirty) x.1.1.2.1 + 1) + 0)) + (1 + (1 + (1 + 0)))) + (1 + ((sumB (bulkT TSense) x.2.2.1 + 1) + (bulkT TSense x.2.2.2.1 + 0))) := rfl
    exact ⟨by omega, by omega, by omega⟩
  · have := r2 n hn
    simpa [rangeT, IntKind.min, IntKind.max, IntKind.signed, IntKind.bits] using this
  · have e := mem_le (f := bulkT THow) hx
    have h1 := len_le (f := bulkT (.int .u8)) (fun a => by simp only [bulkT]; omega) x.1
    have whole : bulkT THow x = (sumB (bulkT (.int .u8)) x.1 + 1) + (1 + 0) := rfl
    omega

theorem contract (H : Type) (enc : TypeId × Value → H) (W : World) (base : Nat) (args : Array Value) (ds gs : List (DataW H)) (before : List MemPlace)
    (hval : ∀ (j : Nat) t v, Tryz.f5.params[j]? = some t → args[j]? = some v → Value.okWide Tryz.prog W .any base t v)
    (hW : DataW.Whole enc Tryz.prog Tryz.f5.params.toList Rows.bulkWedgesSpec.vars false W args.toList ds gs before) (hk : Rows.uptoSmall H (ds ++ gs) = true) :
    Calls Tryz.prog 5 args W fun e W' => ∃ v, e = .returned v ∧ Rows.bulkWedgesSpec.post enc Tryz.prog Tryz.f5 false true false false W args v W' := by
  have hW' := hW
  obtain ⟨p, q, hA0, hV, _, _, _⟩ := hW'
  have hA : DataW.TrodAll enc Tryz.prog W 0 (fun _ => true) true Tryz.f5.params.toList args.toList ds p := hA0
  rw [Tryz.params5] at hA
  have hgs : gs = [] := by
    have hV' := hV
    rw [show Rows.bulkWedgesSpec.vars = [] from rfl] at hV'
    exact (trodVars_none hV').1
  subst hgs
  have hds : ∃ d1 d2 d3, ds = [d1, d2, d3] := by
    obtain ⟨v0, vs0, d0, ds0, p0, q0, _, rfl, _, _, r0⟩ := trodAll_cons hA
    obtain ⟨v1, vs1, d1, ds1, p1, q1, _, rfl, _, _, r1⟩ := trodAll_cons r0
    obtain ⟨v2, vs2, d2, ds2, p2, q2, _, rfl, _, _, r2⟩ := trodAll_cons r1
    obtain ⟨_, rfl, _⟩ := trodAll_nil r2
    exact ⟨_, _, _, rfl⟩
  obtain ⟨d1, d2, d3, rfl⟩ := hds
  have hbulk : sumB (size H).β [d1, d2, d3] ≤ 1048576 := by
    have e := sum_eq [d1, d2, d3]
    have h := of_decide_eq_true hk
    rw [List.append_nil] at h
    rw [show (size H).β = Rows.uptoBulk from rfl, e]
    exact h
  exact law_post (size H) (f := 5) (n := 12) (B := 1048576) (tb := 4) S5 (by kernel_rfl) (fun x h1 h2 => by obtain ⟨u, data, l, ⟨⟩⟩ := x; exact small u data l h1 h2) (by kernel_rfl) (by kernel_rfl) (by kernel_rfl) (by kernel_rfl) hval rfl hW rfl hbulk

theorem lifted (os : Os) (started : os.Started) (H : Type) (enc : TypeId × Value → H) (F : Stop.Interp) :
    ReturnsInHanded {} Tryz.checked os 5 .any ((Rows.OpenSpec.upto Rows.bulkWedgesSpec).pre6 enc Tryz.prog Tryz.f5 Rows.bulkWedgesUptoRow.domain false) (((Rows.OpenSpec.upto Rows.bulkWedgesSpec).at F).post enc Tryz.prog Tryz.f5 false true false false) := by
  refine returnsInHanded_of_cond (C := Tryz.checked) (s := Rows.OpenSpec.upto Rows.bulkWedgesSpec) (k := Rows.uptoSmall) rfl own started (by kernel_rfl) Tryz.func5
    (OpenSpec.witness (enc := enc) (C := Tryz.checked) (s := Rows.OpenSpec.upto Rows.bulkWedgesSpec) (k := Rows.uptoSmall) rfl false ⟨#[], #[.slice none 0 0, .slice none 0 0, .slice none 0 0], []⟩ 8 (by kernel_rfl) (by kernel_rfl) (by kernel_rfl)
      (x := ([.nil, .nil, .nil], [], [])) (by kernel_rfl) rfl (by kernel_rfl)) ?_
  intro W base args ds gs before hval hW _ hk _
  exact contract H enc W base args ds gs before hval hW hk

theorem over : Rows.bulkWedgesUptoRow.holds Tryz.pinned (Rows.OpenSpec.upto Rows.bulkWedgesSpec) :=
  OpenClaim.holds_of_cond 5 Tryz.f5 rfl rfl rfl rfl rfl rfl rfl ⟨rfl, rfl, rfl, rfl, rfl⟩ rfl rfl rfl rfl rfl (by kernel_rfl) Tryz.func5 (by kernel_rfl)
    (of_decide_eq_true (by kernel_rfl)) (by unfold Func.isWrapper; first | (rw [if_pos (by decide +kernel)]; kernel_rfl) | (rw [if_neg (by decide +kernel)]; exact ⟨rfl, rfl⟩))
    (fun os started H enc _ F => lifted os started H enc F)

theorem proved : Rows.BulkWedgesUptoSaid :=
  over

end Go.Proofs.YtjfgannabdaemaaGreat.BulkWedges
