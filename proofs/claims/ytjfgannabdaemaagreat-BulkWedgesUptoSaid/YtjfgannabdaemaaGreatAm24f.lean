/-
  AM: contracts: a function that is known by its answers may be called by them.
-/
import Derived.Test.YtjfgannabdaemaaGreatAm24e
import Derived.Below
set_option linter.all false
namespace Go.Am
set_option linter.unusedSimpArgs false

variable {R : Type} {P : Program} {N : Nat} {Hd S0 : Nat → Prop} {w0 : World} {ρ : Emb} {S S' : Nat → Prop} {st : St} {a : Act} {sv : List Value} {w : World} {H : Heap}

theorem injR_eq : ∀ (t : Ty) (x : t.den) (H : Heap), t.noFr = true → injR t x H = (inj t x, H) := by
  intro t
  induction t with
  | pair a b iha ihb =>
    intro x H h
    simp only [Ty.noFr, Bool.and_eq_true] at h
    simp only [injR, iha _ _ h.1, ihb _ _ h.2, inj]
  | fr t _ => intro x H h; simp [Ty.noFr] at h
  | _ => intro x H h; rfl

/-- from no ids at all -/
theorem Carry.none (hS : ∀ b, S b → S' b) {w w' : World} (hw : ∀ b, S b → w'.heap[b]? = w.heap[b]?) {ρ ρ' : Emb} {H H' : Heap} : Carry (fun _ => False) ρ S w H ρ' S' w' H' := {
  emb := fun _ h => h.elim
  off := fun _ h => h.elim
  row := fun _ h => h.elim
  map := fun _ h => h.elim
  stay := hS
  same := hw
  size := fun _ _ _ _ _ _ h => h.elim }

theorem LVv.vr {t : Ty} {x : t.den} {v : Value} (h : LVv S w t x v) : VR ρ S w H (inj t x) v := by
  unfold LVv at h
  cases hg : (inj t x).isAgg with
  | true => rw [hg] at h; obtain ⟨c, rfl, h⟩ := h; exact VR.of_agg hg (Rel.inj t h)
  | false => rw [hg] at h; exact VR.of_rel hg (Rel.inj t h)

theorem LV.flat' (t : Ty) : t.flat = true → ∀ {x : t.den} {cs : List Value} {S S' : Nat → Prop} {w w' : World}, LV S w t x cs → LV S' w' t x cs := by
  induction t with
  | bool => intro _ x cs S S' w w' h; exact h
  | int k => intro _ x cs S S' w w' h; exact h
  | str => intro _ x cs S S' w w' h; exact h
  | unit => intro _ x cs S S' w w' h; exact h
  | pair a b iha ihb =>
    intro hf x cs S S' w w' h
    simp only [Ty.flat, Bool.and_eq_true] at hf
    obtain ⟨c, d, rfl, h1, h2⟩ := h
    exact ⟨c, d, rfl, iha hf.1 h1, ihb hf.2 h2⟩
  | arr n t ih => intro hf x cs S S' w w' h; exact ⟨h.1, h.2.mono fun _ _ h => ih hf h⟩
  | sl t _ => intro hf; simp [Ty.flat] at hf
  | fr t _ => intro hf; simp [Ty.flat] at hf

/-- a chain's values, read deep -/
theorem deep_chain (hr : ∀ id, BlkRel ρ S w H id (nthB H id)) (hS : ∀ b, S b → S' b) : ∀ {args : List AV} {cargs : List Value} {ps : Ty} {p : ps.den}, All2 (VR ρ S w H) args cargs → deep H ps (chain args) = some p →
    ((∀ id ∈ (chain args).rows, ∀ b base, ρ id = some (b, base) → S' b) ∨ ps.flat = true) → ∀ {ρ' : Emb} {H' : Heap}, All2 (VR ρ' S' w H') (unchain (inj ps p)) cargs ∧ chain (unchain (inj ps p)) = inj ps p := by
  intro args
  induction args with
  | nil =>
    intro cargs ps p h hd _ ρ' H'
    cases cargs with
    | cons _ _ => exact h.elim
    | nil =>
      cases ps <;> simp [chain, deep] at hd
      exact ⟨trivial, rfl⟩
  | cons x l ih =>
    intro cargs ps p h hd hs ρ' H'
    cases cargs with
    | nil => exact h.elim
    | cons cv cargs =>
      cases ps <;> simp only [chain, deep] at hd <;> try (simp at hd; done)
      rename_i s t
      split at hd
      · rename_i y hy
        split at hd
        · rename_i z hz
          simp only [Option.some.injEq] at hd
          subst hd
          have h1 : LVv S' w s y cv := deep_VR' hr hS h.1 hy (by
            rcases hs with hs | hf
            · exact .inl fun id hid => hs id (by simp [chain, AV.rows, hid])
            · simp only [Ty.flat, Bool.and_eq_true] at hf; exact .inr hf.1)
          obtain ⟨h2, h3⟩ := ih h.2 hz (by
            rcases hs with hs | hf
            · exact .inl fun id hid => hs id (by simp [chain, AV.rows, hid])
            · simp only [Ty.flat, Bool.and_eq_true] at hf; exact .inr hf.2) (ρ' := ρ') (H' := H')
          exact ⟨⟨h1.vr, h2⟩, by simp only [inj, unchain, chain, h3]⟩
        · simp at hd
      · simp at hd

/-- what a callee answers, in memory -/
def FnOK (P : Program) (f : FuncId) (ps res : Ty) (nres : Nat) (p : ps.den) (r : res.den) : Prop :=
  (∃ fn, P.funcs[f]? = some fn ∧ fn.body.isNone = false) ∧
  ∀ (S : Nat → Prop) (w : World) (cargs : List Value), (∀ b, S b → b < w.heap.size) → All2 (VR (fun _ => none) S w []) (unchain (inj ps p)) cargs →
    Calls P f cargs.toArray w fun e w' => ∃ cv, e = .returned cv ∧
      VR (fun _ => none) (fun b => S b ∨ (w.heap.size ≤ b ∧ b < w'.heap.size)) w' [] (packR res nres r) cv ∧ Kept w w'

def Sound (P : Program) (f : FuncId) : Fn → Prop
  | .fn ps res nres g => res.noFr = true ∧ ∀ p r, g p = some r → FnOK P f ps res nres p r
  | .mth .. => False

theorem packed_on {res : Ty} {nres : Nat} {r : res.den} : (packR res nres r).on (fun _ => False) := by
  unfold packR packed
  split
  · rename_i x y he
    simp only at he
    obtain ⟨rfl, _⟩ : inj res r = x ∧ AV.unit = y := by simpa using he
    exact inj_on _ _ _
  · rename_i x hx
    split
    · exact ⟨inj_on _ _ _, trivial⟩
    · exact inj_on _ _ _

theorem packR_ne {res : Ty} {nres : Nat} {r : res.den} (h : nres ≠ 1) : packR res nres r = .tup (inj res r) := by
  unfold packR packed
  split
  · exact absurd rfl h
  · split
    · exact absurd rfl h
    · rfl

noncomputable def unpack (nres : Nat) (v : AV) : AV := match nres with | 1 => packed 1 v | _ => v

theorem unpack_ne {nres : Nat} {v : AV} (h : nres ≠ 1) : unpack nres v = v := by
  unfold unpack
  split
  · exact absurd rfl h
  · rfl

theorem handed_eq (H : Heap) (res : Ty) (nres : Nat) (v : AV) {r : res.den} (h : handed H res nres v = some r) : deep H res (unpack nres v) = some r := by
  unfold handed at h
  simp only at h
  split at h
  · rename_i r' hd
    split at h
    · cases h; exact hd
    · cases h
  · cases h

theorem obind_some {α : Type} {x : Option α} {k : α → Option R} {r : R} (h : obind x k = some r) : ∃ y, x = some y ∧ k y = some r := by
  unfold obind at h; split at h
  · exact ⟨_, rfl, h⟩
  · cases h

theorem packed_flat {res : Ty} {nres : Nat} {r : res.den} (hf : res.flat = true) {ρ ρ' : Emb} {S S' : Nat → Prop} {w w' : World} {H H' : Heap} {cv : Value}
    (h : VR ρ S w H (packR res nres r) cv) :
    VR ρ' S' w' H' (packR res nres r) cv := by
  have key : ∀ (t : Ty), t.flat = true → ∀ (x : t.den) {m : Bool} {cs : List Value}, Rel ρ S w H (inj t x) m cs → Rel ρ' S' w' H' (inj t x) m cs := by
    intro t
    induction t with
    | bool => intro _ x m cs h; cases m <;> exact h
    | int k => intro _ x m cs h; cases m <;> exact h
    | str => intro _ x m cs h; cases m <;> exact h
    | unit => intro _ x m cs h; cases m <;> exact h
    | pair a b iha ihb =>
      intro hf x m cs h
      simp only [Ty.flat, Bool.and_eq_true] at hf
      cases m with
      | true => obtain ⟨c, d, rfl, h1, h2⟩ := h; exact ⟨c, d, rfl, iha hf.1 _ h1, ihb hf.2 _ h2⟩
      | false =>
        obtain ⟨v, d, rfl, h1, h2⟩ := h
        refine ⟨v, d, rfl, h1.imp id fun h1 => ?_, ihb hf.2 _ h2⟩
        cases hg : (inj a x.1).isAgg <;> rw [hg] at h1
        · exact iha hf.1 _ h1
        · obtain ⟨c, rfl, h3⟩ := h1; exact ⟨c, rfl, iha hf.1 _ h3⟩
    | arr n t ih =>
      intro hf x m cs h
      cases m
      · exact h
      · exact LV.flat' (.arr n t) hf h
    | sl t _ => intro hf; simp [Ty.flat] at hf
    | fr t _ => intro hf; simp [Ty.flat] at hf
  by_cases h1 : nres = 1
  · subst h1
    show VR ρ' S' w' H' (inj res r) cv
    have h : VR ρ S w H (inj res r) cv := h
    cases hg : (inj res r).isAgg with
    | true => obtain ⟨c, rfl, hc⟩ := VR.agg hg h; exact VR.of_agg hg (key res hf r hc)
    | false =>
      have hd : inj res r ≠ .dead := by intro e; cases res <;> simp [inj] at e
      exact VR.of_rel hg (key res hf r (VR.rel hg hd h))
  · rw [packR_ne h1] at h ⊢
    obtain ⟨vs, h2, h3⟩ := VR.rel rfl (by simp) h
    exact VR.of_rel rfl ⟨vs, h2, key res hf r h3⟩

/-- a call by a contract -/
theorem callFn_sound {f : FuncId} {F : Fn} (hF : Sound P f F) {args : List AV} {K : AV → St → Option R} {r : R} (hk : callFn F args st K = some r) {cargs : List Value}
    (hs : Sim N Hd S0 w0 ρ S st a sv w) (hargs : All2 (VR ρ S w st.heap) args cargs) : CallOK P N Hd S0 w0 sv a f cargs w K r := by
  cases F with
  | mth => exact hF.elim
  | fn ps res nres g =>
    obtain ⟨hn, hF⟩ := hF
    simp only [callFn] at hk
    split at hk
    · rename_i p hp
      obtain ⟨r0, hr0, hk⟩ := obind_some hk
      rw [injR_eq _ _ _ hn] at hk
      simp only at hk
      obtain ⟨hfn, hc⟩ := hF p r0 hr0
      refine ⟨hfn, ?_⟩
      cases hf : res.flat with
      | true =>
        rw [hf] at hk
        simp only at hk
        have hg := (deep_chain (S' := Old w) hs.bl hs.stay hargs hp (.inl fun id _ b base hρ => (hs.own id b base hρ).1) (ρ' := fun _ => none) (H' := [])).1
        refine (hc (Old w) w cargs (fun _ h => h) hg).mono fun e w' he => ?_
        obtain ⟨cv, rfl, hv, hk'⟩ := he
        exact ⟨cv, _, _, ρ, S, rfl, hk, hs.later hk' (fun _ h => h) (fun _ h => .inl h), packed_flat hf hv⟩
      | false =>
        rw [hf] at hk
        simp only at hk
        obtain ⟨S1, g1, g2, g3, _⟩ := Sim.freeze (chain args).rows hs
        have hrow : ∀ id ∈ (chain args).rows, ∀ b base, ρ id = some (b, base) → S1 b := by
          intro id hid b base hρ
          have hv : VR ρ S w st.heap (.tup (chain args)) (.tuple cargs.toArray) := VR.of_rel rfl ⟨cargs, rfl, chain_list hargs⟩
          exact g3 id hid (hv.rows_row id hid) b base hρ
        have hg := (deep_chain (S' := S1) hs.bl g2.stay hargs hp (.inl hrow) (ρ' := fun _ => none) (H' := [])).1
        refine (hc S1 w cargs g1.stay hg).mono fun e w' he => ?_
        obtain ⟨cv, rfl, hv, hk'⟩ := he
        refine ⟨cv, _, _, ρ, _, rfl, hk, g1.later hk' (fun _ h => .inl h) (fun _ h => h), ?_⟩
        exact VR.carry (Carry.none (fun _ h => h) (fun _ _ => rfl)) packed_on hv
    · cases hk


theorem Kept.below {w w' : World} (h : Kept w w') : RowKit.Below w.heap.size w w' := ⟨h.eff.1, h.eff.2.2, h.eff.2.1, h.size, h.heap⟩

/-! ## Calls that leave the machine's memory alone -/

theorem freeze1_frozen {i : Nat} {t : Ty} {l : List t.den} {r : Bool} (h : nthB H i = some (.row t l true r)) : freeze1 H i = H := by
  unfold freeze1
  rw [h]
  simp only
  rw [setR_eq]
  apply List.ext_getElem?
  intro j
  rw [List.getElem?_set]
  split
  · rename_i e
    subst e
    have hl := nthB_lt h
    rw [nthB_eq] at h
    simp [List.getD, hl] at h
    simp [hl, h]
  · rfl

theorem freeze_frozen : ∀ (l : List Nat), frozenAll H l = true → freeze H l = H := by
  intro l
  induction l with
  | nil => intro _; rfl
  | cons i l ih =>
    intro h
    unfold frozenAll at h ih
    simp only [allB, Bool.and_eq_true] at h
    show freeze (freeze1 H i) l = H
    have e : freeze1 H i = H := by
      have h1 := h.1
      split at h1
      · rename_i t k f r hb
        subst h1
        exact freeze1_frozen hb
      · cases h1
    rw [e, ih h.2]

theorem callCalm_callFn {F : Fn} {args : List AV} {K : AV → St → Option R} {r : R} (h : callCalm F args st K = some r) : callFn F args st K = some r := by
  cases F with
  | mth => cases h
  | fn ps res nres f =>
    simp only [callCalm] at h
    split at h
    · rename_i hc
      split at h
      · rename_i p hp
        obtain ⟨q, hq, h⟩ := obind_some h
        simp only [callFn, hp, hq, obind]
        rw [injR_eq _ _ _ hc]
        simp only
        simp only [rowsF] at h
        cases hf : res.flat with
        | true => simp only [hf, Bool.true_or] at h; exact h
        | false =>
          simp only [hf, Bool.false_or] at h
          cases hz : frozenAll st.heap (chain args).rows with
          | true => simp only [hz] at h; simp only [freeze_frozen _ hz]; exact h
          | false => simp only [hz] at h; exact h
      · cases h
    · cases h

theorem calm_hand {env : FuncId → Option Fn} (henv : ∀ f F, env f = some F → Sound P f F) : HandOK P N Hd S0 w0 (calmHand (R := R) env) := by
  intro f args st K r hk ρ S a sv w cargs hs hargs
  simp only [calmHand] at hk
  split at hk
  · rename_i F hF
    exact callFn_sound (henv f F hF) (callCalm_callFn hk) hs hargs
  · cases hk

end Go.Am
