/-
  AM: a law's row: from a contract to the statement.
-/
import Derived.Test.YtjfgannabdaemaaGreatAm30
import Derived.Below
import Derived.ChangeSame
import Derived.Carry
import Derived.ProofKit
import Derived.OpenShut
import Derived.JoinedCond
set_option linter.all false
namespace Go.Am
open Go.ChangeShapes Go.WideShapes Go.ChangeAt Go.RowKit
set_option linter.unusedSimpArgs false
set_option linter.unusedVariables false

section
variable {H : Type} {enc : TypeId × Value → H} {P : Program}
theorem post_of_below {f : Func} {s : ChangeSpec} {apart fresh handsOn again : Bool} {W W' : World} {args : Array Value} {v : Value} {ds gs : List (DataW H)} {before pa pv : List MemPlace}
    (hW : DataW.Whole enc P f.params.toList s.vars apart W args.toList ds gs before)
    (hres : ∀ (b : Nat) (sp : Nat → Bool) (hd : Bool), DataW.TrodAll enc P W' b sp hd f.resultTypes.toList (v.resultList f.resultTypes.size) (s.fn H (ds ++ gs)).results [])
    (hargs : ∀ sp : Nat → Bool, (∀ p ∈ before, sp p.block = true) → DataW.TrodAll enc P W' 0 sp true f.params.toList args.toList (s.fn H (ds ++ gs)).args pa)
    (hvars : ∀ sp : Nat → Bool, (∀ p ∈ before, sp p.block = true) → DataW.TrodVars enc P W' sp s.vars (s.fn H (ds ++ gs)).vars pv)
    (hps : before = pa ++ pv) (hb : RowKit.Below W.heap.size W W')
    (hok : ∀ (j : Nat) (t : TypeId) (r : Value), f.resultTypes[j]? = some t → (v.resultList f.resultTypes.size)[j]? = some r → Value.okWide P W' .any 0 t r) :
    s.post enc P f apart fresh handsOn again W args v W' := by
  have hlt : ∀ p ∈ before, p.block < W.heap.size := fun p hp => hW.lt p hp
  have hold : ∀ p ∈ before, (fun b => decide (b < W.heap.size)) p.block = true := fun p hp => by simpa using hlt p hp
  refine ⟨ds, gs, before, [], pa, pv, hW, hres _ _ _, hargs _ hold, hvars _ hold, World.keptBut_mono (fun p hp => ⟨hp, ?_⟩) (hb.frame (· ∈ before)), fun _ => ?_⟩
  · rw [hps, List.mem_append] at hp
    exact Or.inr hp
  · obtain ⟨_, _, _, _, _, hz, hn⟩ := hW
    refine ⟨hok, _, _, ([] ++ pa) ++ pv, ⟨[] ++ pa, pv, trodAll_append (hargs _ (fun _ _ => rfl)) (hres _ _ _), hvars _ (fun _ _ => rfl), rfl, ?_, ?_⟩, ?_⟩
    · intro b off hp
      have hin : MemPlace.cell b off ∈ before := by rw [hps]; simpa using hp
      rw [hb.frozen (hlt _ hin)]
      exact hz b off hin
    · intro ha
      have := hn ha
      rw [hps] at this
      simpa using this
    · intro p hp _
      rw [hps]
      simpa using hp
end

section
variable {H : Type} {enc : TypeId × Value → H} {P : Program} {w : World} {sp : Nat → Bool} (M : Measure H)

theorem layChain_agg {f : TypeId → Option Ty} : ∀ {fs : List Field} {off : Nat} {T : Ty}, layChain P f fs off = some T → aggT T = true := by
  intro fs
  cases fs with
  | nil => intro off T h; simp only [layChain, Option.some.injEq] at h; subst h; rfl
  | cons x r =>
    intro off T h
    simp only [layChain] at h
    split at h
    · split at h
      · split at h
        · cases h; rfl
        · cases h
      · cases h
    · cases h

/-- an argument -/
theorem arg_lv {n : Nat} {t : TypeId} {T : Ty} {v : Value} {base : Nat} {d : DataW H} {ps : List MemPlace} (hT : tyLay P n t = some T) (hok : Value.okWide P w .any base t v) (h : DataW.Trod enc P w 0 sp true t v d ps) :
    ∃ x : T.den, LVv (Old w) w T x v ∧ rangeT T x ∧ bulkT T x ≤ M.β d := by
  obtain ⟨fuel, h⟩ := h
  obtain ⟨x, h1, h2⟩ := trod_lv M n t T hT fuel _ _ h
  refine ⟨x, ?_, LV.range T h1, h2⟩
  unfold LVv
  rw [aggT_inj]
  have one : (∀ c, v ≠ .agg c) → v.cells.toList = [v] := by intro hn; cases v <;> first | rfl | exact absurd rfl (hn _)
  cases n with
  | zero => cases hT
  | succ n =>
    simp only [tyLay] at hT
    unfold Value.okWide at hok
    have lone : aggT T = false → (∀ c, v ≠ .agg c) → (match aggT T with | true => ∃ c, v = .agg c.toArray ∧ LV (Old w) w T x c | false => LV (Old w) w T x [v]) := by
      intro ha hn
      rw [ha]
      rw [one hn] at h1
      exact h1
    have many : aggT T = true → (∃ cs, v = .agg cs) → (match aggT T with | true => ∃ c, v = .agg c.toArray ∧ LV (Old w) w T x c | false => LV (Old w) w T x [v]) := by
      rintro ha ⟨cs, rfl⟩
      rw [ha]
      exact ⟨cs.toList, by simp, h1⟩
    split at hT
    · rename_i hu; cases hT
      rw [hu] at hok
      exact lone rfl fun c e => by subst e; simp [Cell.okWide, Cell.ok, hu] at hok
    · rename_i k hu; cases hT
      rw [hu] at hok
      exact lone rfl fun c e => by subst e; simp [Cell.okWide, Cell.ok, hu] at hok
    · rename_i hu; cases hT
      rw [hu] at hok
      exact lone rfl fun c e => by subst e; simp [Cell.okWide, Cell.ok, hu] at hok
    · rename_i e hu
      rw [hu] at hok
      split at hT
      · split at hT
        · cases hT
          exact lone rfl fun c e => by subst e; simp [Cell.okWide, Cell.ok, hu] at hok
        · cases hT
      · cases hT
    · rename_i m e hu
      rw [hu] at hok
      obtain ⟨cs, rfl, _⟩ := hok
      split at hT
      · split at hT
        · cases hT; exact many rfl ⟨cs, rfl⟩
        · cases hT
      · cases hT
    · rename_i fs hu
      rw [hu] at hok
      obtain ⟨cs, rfl, _⟩ := hok
      split at hT
      · rename_i T' hch
        split at hT
        · cases hT; exact many (layChain_agg hch) ⟨cs, rfl⟩
        · cases hT
      · cases hT
    · cases hT

noncomputable def chainLay (P : Program) (n : Nat) : List TypeId → Option Ty
  | [] => some .unit
  | t :: ts => match tyLay P n t with
    | some a => match chainLay P n ts with
      | some b => some (.pair a b)
      | none => none
    | none => none

/-- all arguments -/
theorem args_vr {n base : Nat} : ∀ {ts : List TypeId} {vs : List Value} {ds : List (DataW H)} {ps : List MemPlace} {T : Ty}, chainLay P n ts = some T → DataW.TrodAll enc P w 0 sp true ts vs ds ps →
    (∀ (j : Nat) t v, ts[j]? = some t → vs[j]? = some v → Value.okWide P w .any base t v) →
    ∃ x : T.den, All2 (VR (fun _ => none) (Old w) w []) (unchain (inj T x)) vs ∧ rangeT T x ∧ bulkT T x ≤ sumB M.β ds := by
  intro ts
  induction ts with
  | nil =>
    intro vs ds ps T hT h _
    simp only [chainLay, Option.some.injEq] at hT
    subst hT
    cases vs <;> cases ds <;> first | exact ⟨(), trivial, trivial, Nat.zero_le _⟩ | exact h.elim
  | cons t ts ih =>
    intro vs ds ps T hT h hok
    simp only [chainLay] at hT
    split at hT
    · rename_i a ha
      split at hT
      · rename_i b hb
        cases hT
        cases vs with
        | nil => exact h.elim
        | cons v vs => cases ds with
          | nil => exact h.elim
          | cons d ds =>
            obtain ⟨p, q, h1, h2, _⟩ := h
            obtain ⟨x, g1, gr, g2⟩ := arg_lv M ha (hok 0 t v rfl rfl) h1
            obtain ⟨y, g3, gs, g4⟩ := ih hb h2 fun j t v hj hv => hok (j + 1) t v (by simpa using hj) (by simpa using hv)
            exact ⟨(x, y), ⟨g1.vr, g3⟩, ⟨gr, gs⟩, by simp only [bulkT, sumB]; omega⟩
      · cases hT
    · cases hT

/-- arguments read as they did -/
theorem args_stay (hl : laidOutB P = true) {W W' : World} (hb : RowKit.Below W.heap.size W W') : ∀ {ts : List TypeId} {vs : List Value} {ds : List (DataW H)} {ps : List MemPlace}, ts.all (fun t => P.readableRec t && decide (t < P.types.size)) = true →
    DataW.TrodAll enc P W 0 (fun _ => true) true ts vs ds ps → (∀ x ∈ ps, x.block < W.heap.size) → ∀ sp : Nat → Bool, (∀ x ∈ ps, sp x.block = true) → DataW.TrodAll enc P W' 0 sp true ts vs ds ps := by
  intro ts
  induction ts with
  | nil => intro vs ds ps _ h _ sp _; cases vs <;> cases ds <;> first | exact h | exact h.elim
  | cons t ts ih =>
    intro vs ds ps hr h hlt sp hsp
    simp only [List.all_cons, Bool.and_eq_true, decide_eq_true_eq] at hr
    cases vs with
    | nil => exact h.elim
    | cons v vs => cases ds with
      | nil => exact h.elim
      | cons d ds =>
        obtain ⟨p, q, h1, h2, rfl⟩ := h
        exact ⟨p, q, WideElems.Trod_stays hl hr.1.1 hr.1.2 h1 (fun x hx => hb.same (hlt x (by simp [hx]))) (fun x hx => hsp x (by simp [hx])),
          ih hr.2 h2 (fun x hx => hlt x (by simp [hx])) sp (fun x hx => hsp x (by simp [hx])), rfl⟩

/-- a law's call: it is true, and what came in reads as it did -/
theorem law_post {f : FuncId} {fn : Func} {ps : Ty} {g : ps.den → Option Bool} {s : ChangeSpec} {tb : TypeId} {B n base : Nat} {W : World} {args : Array Value} {ds gs : List (DataW H)} {before : List MemPlace} {fresh handsOn again : Bool}
    (hs : Sound P f (.fn ps .bool 1 g)) (hps : chainLay P n fn.params.toList = some ps) (hg : ∀ x : ps.den, rangeT ps x → bulkT ps x ≤ B → g x = some true) (hl : laidOutB P = true)
    (hr : fn.params.toList.all (fun t => P.readableRec t && decide (t < P.types.size)) = true) (hrt : fn.resultTypes = #[tb]) (htb : P.underlying tb = some .bool)
    (hval : ∀ (j : Nat) t v, fn.params[j]? = some t → args[j]? = some v → Value.okWide P W .any base t v)
    (hvars : s.vars = []) (hW : DataW.Whole enc P fn.params.toList s.vars false W args.toList ds gs before)
    (hfn : s.fn H (ds ++ gs) = { results := [.lit (.bool true)], args := ds, vars := [] }) (hbulk : sumB M.β ds ≤ B) :
    Calls P f args W fun e W' => ∃ v, e = .returned v ∧ s.post enc P fn false fresh handsOn again W args v W' := by
  have hW' := hW
  obtain ⟨p, q, hA, hV, hbef, hfz, hnd⟩ := hW
  rw [hvars] at hV
  obtain ⟨rfl, rfl⟩ := trodVars_none hV
  obtain ⟨x, h1, hrg, h2⟩ := args_vr M hps hA fun j t v hj hv => hval j t v (by simpa using hj) (by simpa using hv)
  have hc := (hs.2 x true (hg x hrg (by omega))).2 (Old W) W args.toList (fun _ h => h) h1
  rw [Array.toArray_toList] at hc
  refine hc.mono fun e W' he => ?_
  obtain ⟨cv, rfl, hv, hk⟩ := he
  have hcv : cv = .bool true := VR.bool_inv hv
  subst hcv
  have hb := hk.below
  have hlt : ∀ y ∈ before, y.block < W.heap.size := fun y hy => hW'.lt y hy
  refine ⟨_, rfl, post_of_below (pa := before) (pv := []) hW' (fun b sp hd => ?_) (fun sp hsp => ?_) (fun sp _ => ?_) (by simp) hb ?_⟩
  · rw [hfn, hrt]
    exact trodAll_mk1 (shut_bool htb _)
  · rw [hfn]
    simp only [List.append_nil] at hbef
    subst hbef
    exact args_stay hl hb hr hA hlt sp hsp
  · rw [hfn, hvars]; rfl
  · exact ok_one hrt rfl (okWide_bool_mk htb _)
end

end Go.Am
