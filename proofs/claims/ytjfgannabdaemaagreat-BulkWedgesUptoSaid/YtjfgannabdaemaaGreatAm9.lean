/-
  AM, tenth text: two values of a type that is compared cell by cell.
-/
import Derived.Test.YtjfgannabdaemaaGreatAm8
set_option linter.all false
namespace Go.Am
set_option linter.unusedSimpArgs false

noncomputable def aggT : Ty → Bool
  | .unit | .pair .. | .arr .. => true
  | _ => false

theorem aggT_inj (t : Ty) (x : t.den) : (inj t x).isAgg = aggT t := by cases t <;> rfl

theorem optChain_agg {f : TypeId → Option Ty} : ∀ {fs : List Field} {T : Ty}, optChain f fs = some T → aggT T = true := by
  intro fs
  cases fs with
  | nil => intro T h; simp only [optChain, Option.some.injEq] at h; subst h; rfl
  | cons x r =>
    intro T h
    simp only [optChain] at h
    split at h
    · split at h
      · simp only [Option.some.injEq] at h; subst h; rfl
      · cases h
    · cases h

theorem run_isAgg {P : Program} {w : World} : ∀ {n : Nat} {t : TypeId} {T : Ty}, tyOf P n t = some T → (isAgg t).run P w = .ok (aggT T) w := by
  intro n
  cases n with
  | zero => intro t T h; simp [tyOf] at h
  | succ n =>
    intro t T h
    simp only [tyOf] at h
    split at h
    · rename_i hu; cases h; simp [isAgg, run_underlying hu, aggT]
    · rename_i hu; cases h; simp [isAgg, run_underlying hu, aggT]
    · rename_i hu; cases h; simp [isAgg, run_underlying hu, aggT]
    · rename_i hu
      split at h
      · cases h; simp [isAgg, run_underlying hu, aggT]
      · cases h
    · rename_i hu
      split at h
      · cases h; simp [isAgg, run_underlying hu, aggT]
      · cases h
    · rename_i fs hu
      simp [isAgg, run_underlying hu, optChain_agg h]
    · cases h

theorem info_of_underlying {P : Program} {t : TypeId} {d : TypeDesc} (h : P.underlying t = some d) : ∃ i, P.info? t = some i := by
  unfold Program.underlying at h
  cases hi : P.info? t with
  | none => rw [hi] at h; cases h
  | some i => exact ⟨i, rfl⟩

theorem tyOf_under {P : Program} {n : Nat} {t : TypeId} {T : Ty} (h : tyOf P n t = some T) : ∃ d, P.underlying t = some d := by
  cases n with
  | zero => simp [tyOf] at h
  | succ n =>
    cases hu : P.underlying t with
    | none => simp [tyOf, hu] at h
    | some d => exact ⟨d, rfl⟩

theorem run_size {P : Program} {w : World} {t : TypeId} {d : TypeDesc} (h : P.underlying t = some d) : (sizeOf t).run P w = .ok (P.cellsOf t) w := by
  obtain ⟨i, hi⟩ := info_of_underlying h
  simp [Go.sizeOf, typeInfo, hi, Program.cellsOf]

/-- a part of an aggregate -/
theorem run_part {P : Program} {S : Nat → Prop} {w : World} {n : Nat} {t : TypeId} {T : Ty} (ht : tyOf P n t = some T) {x : T.den} {cs : Array Value} {c pre post : List Value} (hc : cs.toList = pre ++ (c ++ post))
    (hx : LV S w T x c) (hs : P.cellsOf t = c.length) : ∃ v, (part t cs pre.length).run P w = .ok v w ∧ LVv S w T x v := by
  obtain ⟨d, hd⟩ := tyOf_under ht
  unfold part
  simp only [Sem.run_bind, run_isAgg ht, Result.andThen_ok]
  cases hg : aggT T with
  | true =>
    refine ⟨.agg c.toArray, ?_, ?_⟩
    · simp only [if_true, Sem.run_bind, run_size hd, Result.andThen_ok, Sem.run_pure]
      congr 2
      apply Array.ext'
      rw [hs]
      simp [Array.toList_extract, hc, List.extract_eq_take_drop]
    · unfold LVv; rw [aggT_inj, hg]; exact ⟨c, rfl, hx⟩
  | false =>
    have h1 : c.length = 1 := by
      have := LV.length T hx
      cases T <;> simp_all [aggT, Ty.size]
    obtain ⟨v, rfl⟩ : ∃ v, c = [v] := by
      cases c with
      | nil => simp at h1
      | cons v r => cases r with
        | nil => exact ⟨v, rfl⟩
        | cons _ _ => simp at h1
    refine ⟨v, ?_, ?_⟩
    · have : cs[pre.length]? = some v := by rw [← Array.getElem?_toList, hc]; simp
      simp [this]
    · unfold LVv; rw [aggT_inj, hg]; exact hx

theorem strVal_inj {s t : List Int} (hs : ∀ n ∈ s, byteB n) (ht : ∀ n ∈ t, byteB n) (h : strVal s = strVal t) : s = t := by
  unfold strVal at h
  have h : (s.map fun n => UInt8.ofNat n.toNat) = t.map fun n => UInt8.ofNat n.toNat := by
    have := congrArg ByteArray.data h
    simpa using this
  have key : ∀ n : Int, byteB n → ((UInt8.ofNat n.toNat).toNat : Int) = n := by
    intro n hn
    have h1 := hn.1
    have h2 := hn.2
    simp
    omega
  have h2 := congrArg (List.map fun b : UInt8 => (b.toNat : Int)) h
  rw [List.map_map, List.map_map] at h2
  have e1 : s.map ((fun b : UInt8 => (b.toNat : Int)) ∘ fun n => UInt8.ofNat n.toNat) = s := by
    conv => rhs; rw [← List.map_id s]
    exact List.map_congr_left fun n hn => key n (hs n hn)
  have e2 : t.map ((fun b : UInt8 => (b.toNat : Int)) ∘ fun n => UInt8.ofNat n.toNat) = t := by
    conv => rhs; rw [← List.map_id t]
    exact List.map_congr_left fun n hn => key n (ht n hn)
  rw [e1, e2] at h2
  exact h2

theorem bytesB (x y : ByteArray) : (x == y) = decide (x = y) := by
  have h : (x == y) = (x.data == y.data) := by cases x; cases y; rfl
  rw [h]
  by_cases e : x = y
  · subst e; simp
  · have : x.data ≠ y.data := fun h => e (by cases x; cases y; simp_all)
    simp [e, this]

theorem strVal_eqB {s t : List Int} (hs : ∀ n ∈ s, byteB n) (ht : ∀ n ∈ t, byteB n) : (strVal s == strVal t) = decide (s = t) := by
  rw [bytesB]
  by_cases h : s = t
  · subst h; simp
  · have : strVal s ≠ strVal t := fun e => h (strVal_inj hs ht e)
    simp [h, this]

theorem LVv.agg_inv {S : Nat → Prop} {w : World} {T : Ty} {x : T.den} {v : Value} (hg : aggT T = true) (h : LVv S w T x v) : ∃ c, v = .agg c.toArray ∧ LV S w T x c := by
  unfold LVv at h; rw [aggT_inj, hg] at h; exact h

/-- the loop over a struct's fields -/
theorem eqChain_sound {P : Program} {S : Nat → Prop} {w : World} {n d : Nat}
    (ih : ∀ {t : TypeId} {T : Ty} {s : Nat}, tyOf P n t = some T → T.plain = true → eqSz P n t = some s → s = T.size ∧ ∀ {x y : T.den} {vx vy : Value}, LVv S w T x vx → LVv S w T y vy → (Op.equalIn d t vx vy).run P w = .ok (T.eqB x y) w) (xs ys : Array Value) :
    ∀ (fs : List Field) (T : Ty) (off tot : Nat) (x y : T.den) (px py cx cy : List Value), optChain (tyOf P n) fs = some T → T.plain = true → eqChain P (eqSz P n) fs off = some tot →
      tot = off + T.size ∧ (xs.toList = px ++ cx → ys.toList = py ++ cy → px.length = off → py.length = off → LV S w T x cx → LV S w T y cy →
      ∃ q, (forIn (m := Sem) fs ((none : Option Bool), ()) fun f _ =>
            if f.name = "_" then pure (ForInStep.yield (none, ()))
            else do
              let a ← part f.type xs f.offset
              let b ← part f.type ys f.offset
              let e ← Op.equalIn d f.type a b
              if e = false then pure (ForInStep.done (some false, ())) else pure (ForInStep.yield (none, ()))).run P w = .ok (q, ()) w ∧ q = (if T.eqB x y then none else some false)) := by
  intro fs
  induction fs with
  | nil =>
    intro T off tot x y px py cx cy hT _ hsz
    simp only [optChain, Option.some.injEq] at hT
    subst hT
    simp only [eqChain, Option.some.injEq] at hsz
    subst hsz
    exact ⟨rfl, fun _ _ _ _ _ _ => ⟨none, by simp, by simp [Ty.eqB]⟩⟩
  | cons f r ihr =>
    intro T off tot x y px py cx cy hT hpl hsz
    simp only [optChain] at hT
    split at hT
    · rename_i A hA
      split at hT
      · rename_i B hB
        simp only [Option.some.injEq] at hT
        subst hT
        simp only [Ty.plain, Bool.and_eq_true] at hpl
        simp only [eqChain] at hsz
        split at hsz
        · rename_i s hs
          split at hsz
          · rename_i hc
            simp only [Bool.and_eq_true, decide_eq_true_eq, Nat.beq_eq] at hc
            obtain ⟨⟨hname, hoff⟩, hcells⟩ := hc
            obtain ⟨rfl, heq⟩ := ih hA hpl.1 hs
            have h0 := (ihr B (off + A.size) tot x.2 y.2 [] [] [] [] hB hpl.2 hsz).1
            refine ⟨by simp only [Ty.size]; omega, ?_⟩
            rintro hx hy hpx hpy ⟨c1, d1, rfl, hx1, hx2⟩ ⟨c2, d2, rfl, hy1, hy2⟩
            have l1 := LV.length A hx1
            have l2 := LV.length A hy1
            obtain ⟨vx, rx, gx⟩ := run_part hA hx hx1 (by omega)
            obtain ⟨vy, ry, gy⟩ := run_part hA hy hy1 (by omega)
            have hr := heq gx gy
            obtain ⟨q, hq, hq2⟩ := (ihr B (off + A.size) tot x.2 y.2 (px ++ c1) (py ++ c2) d1 d2 hB hpl.2 hsz).2 (by simpa using hx) (by simpa using hy) (by simp; omega) (by simp; omega) hx2 hy2
            rw [← hoff] at hpx hpy
            rw [hpx] at rx
            rw [hpy] at ry
            simp only [List.forIn_cons, if_neg hname, Sem.run_bind, rx, ry, hr, Result.andThen_ok]
            cases he : A.eqB x.1 y.1 with
            | true =>
              simp only [Ty.eqB, he, Bool.true_and]
              refine ⟨q, ?_, hq2⟩
              simpa using hq
            | false =>
              simp only [Ty.eqB, he, Bool.false_and]
              exact ⟨some false, by simp, by simp⟩
          · cases hsz
        · cases hsz
      · cases hT
    · cases hT

/-- the loop over an array's elements -/
theorem eqList_sound {P : Program} {S : Nat → Prop} {w : World} {n d : Nat} {e : TypeId} {T : Ty} (hT : tyOf P n e = some T) (hs : P.cellsOf e = T.size)
    (ih : ∀ {x y : T.den} {vx vy : Value}, LVv S w T x vx → LVv S w T y vy → (Op.equalIn d e vx vy).run P w = .ok (T.eqB x y) w) (xs ys : Array Value) :
    ∀ (l m : List T.den) (i : Nat) (px py cx cy : List Value), l.length = m.length → xs.toList = px ++ cx → ys.toList = py ++ cy → px.length = i * T.size → py.length = i * T.size → Many (LV S w T) l cx → Many (LV S w T) m cy →
      ∃ q, (forIn (m := Sem) (List.range' i l.length) ((none : Option Bool), ()) fun i _ => do
              let a ← part e xs (i * T.size)
              let b ← part e ys (i * T.size)
              let q ← Op.equalIn d e a b
              if (!q) = true then pure (ForInStep.done (some false, ())) else pure (ForInStep.yield (none, ()))).run P w = .ok (q, ()) w ∧ q = (if listB T.eqB l m then none else some false) := by
  intro l
  induction l with
  | nil =>
    intro m i px py cx cy hlen _ _ _ _ _ _
    cases m with
    | nil => exact ⟨none, by simp, by simp [listB]⟩
    | cons y m => simp at hlen
  | cons x l ihl =>
    intro m i px py cx cy hlen hx hy hpx hpy hmx hmy
    cases m with
    | nil => simp at hlen
    | cons y m =>
      obtain ⟨c1, d1, rfl, hx1, hx2⟩ := hmx
      obtain ⟨c2, d2, rfl, hy1, hy2⟩ := hmy
      have l1 := LV.length T hx1
      have l2 := LV.length T hy1
      obtain ⟨vx, rx, gx⟩ := run_part hT hx hx1 (by omega)
      obtain ⟨vy, ry, gy⟩ := run_part hT hy hy1 (by omega)
      have hr := ih gx gy
      obtain ⟨q, hq, hq2⟩ := ihl m (i + 1) (px ++ c1) (py ++ c2) d1 d2 (by simpa using hlen) (by simpa using hx) (by simpa using hy) (by simp [hpx, l1, Nat.succ_mul]) (by simp [hpy, l2, Nat.succ_mul]) hx2 hy2
      rw [hpx] at rx
      rw [hpy] at ry
      simp only [List.length_cons, List.range'_succ, List.forIn_cons, Sem.run_bind, rx, ry, hr, Result.andThen_ok]
      cases he : T.eqB x y with
      | true =>
        simp only [listB, he, Bool.true_and]
        exact ⟨q, by simpa using hq, hq2⟩
      | false =>
        simp only [listB, he, Bool.false_and]
        exact ⟨some false, by simp, by simp⟩

theorem equal_sound {P : Program} {S : Nat → Prop} {w : World} : ∀ (n : Nat) {t : TypeId} {T : Ty} {s : Nat}, tyOf P n t = some T → T.plain = true → eqSz P n t = some s →
    s = T.size ∧ ∀ (d : Nat), n ≤ d → ∀ {x y : T.den} {vx vy : Value}, LVv S w T x vx → LVv S w T y vy → (Op.equalIn d t vx vy).run P w = .ok (T.eqB x y) w := by
  intro n
  induction n with
  | zero => intro t T s h; simp [tyOf] at h
  | succ n ih =>
    intro t T s hT hpl hsz
    have hd : ∀ d, n + 1 ≤ d → ∃ e, d = e + 1 ∧ n ≤ e := fun d h => ⟨d - 1, by omega, by omega⟩
    simp only [tyOf] at hT
    split at hT
    · rename_i hu
      cases hT
      simp only [eqSz, hu, Option.some.injEq] at hsz
      subst hsz
      refine ⟨rfl, fun d h x y vx vy hx hy => ?_⟩
      obtain ⟨e, rfl, _⟩ := hd d h
      have e1 : [vx] = [Value.bool x] := hx
      have e2 : [vy] = [Value.bool y] := hy
      obtain rfl : vx = .bool x := by simpa using e1
      obtain rfl : vy = .bool y := by simpa using e2
      simp [Op.equalIn, run_underlying hu, Ty.eqB]
    · rename_i k hu
      cases hT
      simp only [eqSz, hu, Option.some.injEq] at hsz
      subst hsz
      refine ⟨rfl, fun d h x y vx vy hx hy => ?_⟩
      obtain ⟨e, rfl, _⟩ := hd d h
      obtain ⟨e1, _⟩ : [vx] = [Value.int k x] ∧ _ := hx
      obtain ⟨e2, _⟩ : [vy] = [Value.int k y] ∧ _ := hy
      obtain rfl : vx = .int k x := by simpa using e1
      obtain rfl : vy = .int k y := by simpa using e2
      have : (x == y) = decide (x = y) := by by_cases h : x = y <;> simp [h]
      simp [Op.equalIn, run_underlying hu, Ty.eqB, this]
    · rename_i hu
      cases hT
      simp only [eqSz, hu, Option.some.injEq] at hsz
      subst hsz
      refine ⟨rfl, fun d h x y vx vy hx hy => ?_⟩
      obtain ⟨e, rfl, _⟩ := hd d h
      obtain ⟨e1, g1⟩ : [vx] = [Value.string (strVal x)] ∧ ∀ n ∈ x, byteB n := hx
      obtain ⟨e2, g2⟩ : [vy] = [Value.string (strVal y)] ∧ ∀ n ∈ y, byteB n := hy
      obtain rfl : vx = .string (strVal x) := by simpa using e1
      obtain rfl : vy = .string (strVal y) := by simpa using e2
      simp [Op.equalIn, run_underlying hu, Ty.eqB, strVal_eqB g1 g2]
    · rename_i e hu
      split at hT
      · cases hT; simp [Ty.plain] at hpl
      · cases hT
    · rename_i m e hu
      split at hT
      · rename_i A hA
        cases hT
        simp only [eqSz, hu] at hsz
        split at hsz
        · rename_i s' hs'
          split at hsz
          · rename_i hc
            simp only [Option.some.injEq] at hsz
            subst hsz
            obtain ⟨rfl, hA'⟩ := ih hA hpl hs'
            have hcells : P.cellsOf e = A.size := Nat.eq_of_beq_eq_true hc
            refine ⟨rfl, fun d h x y vx vy hx hy => ?_⟩
            obtain ⟨d, rfl, hdn⟩ := hd d h
            obtain ⟨cx, rfl, hlx, hmx⟩ := LVv.agg_inv rfl hx
            obtain ⟨cy, rfl, hly, hmy⟩ := LVv.agg_inv rfl hy
            obtain ⟨de, hde⟩ := tyOf_under hA
            obtain ⟨q, hq, hq2⟩ := eqList_sound hA hcells (hA' d hdn) cx.toArray cy.toArray x y 0 [] [] cx cy (by rw [hlx, hly]) (by simp) (by simp) (by simp) (by simp) hmx hmy
            rw [hlx] at hq
            simp only [Op.equalIn, Sem.run_bind, run_underlying hu, Result.andThen_ok, run_size hde, hcells]
            rw [Std.Legacy.Range.forIn_eq_forIn_range']
            have hsz' : ([:m] : Std.Legacy.Range).size = m := by simp [Std.Legacy.Range.size]
            rw [hsz', hq, hq2]
            simp only [Result.andThen_ok, Ty.eqB]
            cases listB A.eqB x y <;> rfl
          · cases hsz
        · cases hsz
      · cases hT
    · rename_i fs hu
      simp only [eqSz, hu] at hsz
      split at hsz
      · rename_i hst
        have ihc := fun d (hdn : n ≤ d) => @eqChain_sound P S w n d (fun {t T s} h1 h2 h3 => ⟨(ih h1 h2 h3).1, fun hx hy => (ih h1 h2 h3).2 d hdn hx hy⟩)
        have h0 := (ihc n (Nat.le_refl _) #[] #[] fs.toList T 0 s T.zero T.zero [] [] [] [] hT hpl hsz).1
        refine ⟨by omega, fun d h x y vx vy hx hy => ?_⟩
        obtain ⟨d, rfl, hdn⟩ := hd d h
        obtain ⟨cx, rfl, hmx⟩ := LVv.agg_inv (optChain_agg hT) hx
        obtain ⟨cy, rfl, hmy⟩ := LVv.agg_inv (optChain_agg hT) hy
        obtain ⟨q, hq, hq2⟩ := (ihc d hdn cx.toArray cy.toArray fs.toList T 0 s x y [] [] cx cy hT hpl hsz).2 (by simp) (by simp) rfl rfl hmx hmy
        simp only [Op.equalIn, Sem.run_bind, run_underlying hu, Result.andThen_ok, run_program, hst]
        simp only [Bool.false_eq_true, if_false, Sem.run_bind, ← Array.forIn_toList]
        simp only [ne_eq, ite_not, Bool.not_eq_eq_eq_not, Bool.not_true]
        rw [hq, hq2]
        simp only [Result.andThen_ok]
        cases T.eqB x y <;> rfl
      · cases hsz
    · cases hT

end Go.Am
