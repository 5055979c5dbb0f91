/-
  AM: a region whose order is drawn: where its operations are apart, any order comes to the same.
-/
import Derived.Test.YtjfgannabdaemaaGreatAm24d
set_option linter.all false
namespace Go.Am
set_option linter.unusedSimpArgs false

variable {R : Type} {P : Program} {N : Nat} {Hd S0 : Nat → Prop} {w0 : World} {ρ : Emb} {S S' : Nat → Prop} {st : St} {a : Act} {sv : List Value} {w : World} {H : Heap} {env : FuncId → Option Fn}

inductive Loc where
  | tmp (t : Nat)
  | blk (i : Nat)

noncomputable def look (s : St) : Loc → AV ⊕ Option Blk
  | .tmp t => .inl (nthD s.tmps t)
  | .blk i => .inr (nthB s.heap i)

/-- is it wanted? -/
noncomputable def wantedA (ops : Array Oper) (o : Oper) (st : St) : Option Bool :=
  match o.guard with
  | none => some true
  | some (j, want) => match (ops[j]?).bind (·.dst) with
    | none => none
    | some t => match nthD st.tmps t with
      | .bool b => some (b == want)
      | .tup _ => some false
      | _ => none

theorem setR_same {l : List AV} {t : Nat} {v : AV} (h : nthD l t = v) (hd : v ≠ .dead) : setR l t v = l := by
  rw [nthD_eq] at h
  rw [setR_eq]
  apply List.ext_getElem?
  intro i
  rw [List.getElem?_set]
  split
  · rename_i e
    subst e
    cases hq : l[t]? with
    | none => simp [List.getD, hq] at h; exact absurd h.symm hd
    | some x =>
      have : t < l.length := (List.getElem?_eq_some_iff.1 hq).1
      simp [List.getD, hq] at h
      simp [this, h]
  · rfl

theorem guarded_inv {ops : Array Oper} {o : Oper} {yes no : St → Option R} {r : R} (hk : guarded ops o st yes no = some r) :
    (wantedA ops o st = some true ∧ yes st = some r) ∨ (wantedA ops o st = some false ∧ no st = some r) := by
  unfold guarded at hk
  split at hk
  · rename_i hg; exact .inl ⟨by unfold wantedA; rw [hg], hk⟩
  · rename_i j want hg
    split at hk
    · cases hk
    · rename_i t ht
      split at hk
      · rename_i b hb
        have hs : ∀ c : Bool, b = c → ({ st with tmps := setR st.tmps t (.bool c) } : St) = st := by
          rintro c rfl
          rw [setR_same hb (by simp)]
        have hw : wantedA ops o st = some (b == want) := by unfold wantedA; rw [hg]; simp only [ht, hb]
        split at hk
        · rcases br_cases hk with ⟨rfl, hk⟩ | ⟨rfl, hk⟩
          · rw [hs _ rfl] at hk; exact .inl ⟨hw, hk⟩
          · rw [hs _ rfl] at hk; exact .inr ⟨hw, hk⟩
        · rcases br_cases hk with ⟨rfl, hk⟩ | ⟨rfl, hk⟩
          · rw [hs _ rfl] at hk; exact .inr ⟨hw, hk⟩
          · rw [hs _ rfl] at hk; exact .inl ⟨hw, hk⟩
      · rename_i v hb
        exact .inr ⟨by unfold wantedA; rw [hg]; simp only [ht, hb], hk⟩
      · cases hk

/-- one operation, to its end -/
noncomputable def stepD (P : Program) (env : FuncId → Option Fn) (ops : Array Oper) (o : Oper) (slot : Nat) (st : St) : Option St :=
  match wantedA ops o st with
  | some true => match calm P o.op st && slotOK o.op slot st with
    | true => doOp P (calmHand env) o.op slot st fun v st' => some (st'.putT o.dst v)
    | false => none
  | some false => some (st.putT o.dst (.tup .unit))
  | none => none

noncomputable def footD (env : FuncId → Option Fn) (ops : Array Oper) (i : Nat) (o : Oper) (slot mask : Nat) (st : St) : Foot :=
  match wantedA ops o st with
  | some true => { idx := i, o := o, r := footR o.op st, w := footW env o.op slot st, mask := mask }
  | _ => { idx := i, o := o, r := [], w := [], mask := mask }

theorem Eqv.refl (l : List Nat) (H : Heap) : Eqv l H H := fun _ _ => rfl

/-- a run in the listed order: its states -/
inductive Lined (P : Program) (env : FuncId → Option Fn) (ops : Array Oper) : List Oper → Nat → List Nat → Nat → List Foot → St → List Foot → St → List St → Prop
  | nil {i masks slot acc st} : Lined P env ops [] i masks slot acc st acc st []
  | cons {o l i masks slot acc st st' acc' fin ss} : stepD P env ops o slot st = some st' →
      Lined P env ops l (i + 1) (masks ++ [maskOf masks o.after.toList]) (match isAlloc o.op with | true => slot + 1 | false => slot) (footD env ops i o slot (maskOf masks o.after.toList) st :: acc) st' acc' fin ss →
      Lined P env ops (o :: l) i masks slot acc st acc' fin (st :: ss)

theorem runDr_lined {ops : Array Oper} {r : R} : ∀ (l : List Oper) {i : Nat} {masks : List Nat} {slot : Nat} {acc : List Foot} {st : St} {K : List Foot → St → Option R},
    runDr P env ops l i masks slot acc st K = some r → ∃ acc' fin ss, Lined P env ops l i masks slot acc st acc' fin ss ∧ K acc' fin = some r := by
  intro l
  induction l with
  | nil => intro i masks slot acc st K h; exact ⟨acc, st, [], .nil, h⟩
  | cons o l ih =>
    intro i masks slot acc st K h
    simp only [runDr] at h
    rcases guarded_inv h with ⟨hw, h⟩ | ⟨hw, h⟩
    · split at h
      · rename_i hc
        have hcalm : calm P o.op st = true := by simp only [Bool.and_eq_true] at hc; exact hc.1
        obtain ⟨val, hp, h1, _⟩ := does_op (P := P) (env := env) (slot := slot) hcalm (fun _ _ => rfl) (Eqv.refl _ _)
        have h := (h1 R _).symm.trans h
        obtain ⟨⟨v, φ⟩, rfl, h⟩ := obind_some' h
        obtain ⟨acc', fin, ss, g1, g2⟩ := ih h
        have hst : stepD P env ops o slot st = some (({ st with heap := φ st.heap } : St).putT o.dst v) := by
          unfold stepD
          simp only [hw, hc]
          exact h1 St fun v st' => some (st'.putT o.dst v)
        refine ⟨acc', fin, st :: ss, .cons hst ?_, g2⟩
        have hf : footD env ops i o slot (maskOf masks o.after.toList) st = { idx := i, o := o, r := footR o.op st, w := footW env o.op slot st, mask := maskOf masks o.after.toList } := by
          unfold footD; simp only [hw]
        rw [hf]
        exact g1
      · cases h
    · obtain ⟨acc', fin, ss, g1, g2⟩ := ih h
      have hst : stepD P env ops o slot st = some (st.putT o.dst (.tup .unit)) := by
        unfold stepD
        simp only [hw]
      refine ⟨acc', fin, st :: ss, .cons hst ?_, g2⟩
      have hf : footD env ops i o slot (maskOf masks o.after.toList) st = { idx := i, o := o, r := [], w := [], mask := maskOf masks o.after.toList } := by
        unfold footD; simp only [hw]
      rw [hf]
      exact g1
  where
  obind_some' {α : Type} {x : Option α} {k : α → Option R} {r : R} (h : obind x k = some r) : ∃ y, x = some y ∧ k y = some r := by
    unfold obind at h; split at h
    · exact ⟨_, rfl, h⟩
    · cases h

/-! ## What a step hangs on -/

def Wl (f : Foot) : Loc → Prop
  | .tmp t => f.o.dst = some t
  | .blk i => i ∈ f.w

def Rl (ops : Array Oper) (f : Foot) : Loc → Prop
  | .tmp t => t ∈ looksTmps ops f.o
  | .blk i => i ∈ f.r

structure Like (s s2 : St) : Prop where
  tmps : s2.tmps.length = s.tmps.length
  heap : s2.heap.length = s.heap.length
  saved : s2.saved = s.saved

theorem opTmps_mem : ∀ (l : List Operand) (t : Nat), Operand.tmp t ∈ l → t ∈ looksTmps.opTmps l := by
  intro l
  induction l with
  | nil => intro t h; simp at h
  | cons x l ih =>
    intro t h
    rcases List.mem_cons.1 h with rfl | h1
    · simp [looksTmps.opTmps]
    · cases x <;> simp [looksTmps.opTmps, ih t h1]

theorem looks_op {ops : Array Oper} {o : Oper} {t : Nat} (h : Operand.tmp t ∈ o.op.operands.toList) : t ∈ looksTmps ops o := by
  have := opTmps_mem _ _ h
  unfold looksTmps
  split
  · exact this
  · split
    · exact List.mem_cons_of_mem _ this
    · exact this

theorem wantedA_congr {ops : Array Oper} {o : Oper} {s s2 : St} (h : ∀ t ∈ looksTmps ops o, nthD s2.tmps t = nthD s.tmps t) : wantedA ops o s2 = wantedA ops o s := by
  unfold wantedA
  cases hg : o.guard with
  | none => rfl
  | some p =>
    obtain ⟨j, want⟩ := p
    simp only
    cases ht : (ops[j]?).bind (·.dst) with
    | none => rfl
    | some t =>
      simp only
      rw [h t (by unfold looksTmps; simp only [hg, ht]; exact List.mem_cons_self)]

theorem eval_congr {ops : Array Oper} {o : Oper} {s s2 : St} (h : ∀ t ∈ looksTmps ops o, nthD s2.tmps t = nthD s.tmps t) : ∀ x ∈ o.op.operands.toList, s2.eval x = s.eval x := by
  intro x hx
  cases x with
  | tmp t => exact h t (looks_op hx)
  | _ => rfl

theorem calm_congr {o : Op} {s s2 : St} (h : ∀ x ∈ o.operands.toList, s2.eval x = s.eval x) : calm P o s2 = calm P o s := by
  cases o with
  | binOp op t x y yt => simp only [calm]; rw [h x (by simp [Op.operands]), h y (by simp [Op.operands])]
  | call c =>
    simp only [calm]
    have ha : ∀ x ∈ c.args.toList, s2.eval x = s.eval x := fun x hx => h x (by simp only [Op.operands, Call.operands]; simp; right; simpa using hx)
    rw [evals_congr ha]
  | _ => rfl

theorem putT_look (s : St) (dst : Option Tmp) (v : AV) : (∀ t, dst = some t → t < s.tmps.length → nthD (s.putT dst v).tmps t = v) ∧ (∀ t, dst = some t → ¬ t < s.tmps.length → nthD (s.putT dst v).tmps t = .dead) ∧ (∀ t, dst ≠ some t → nthD (s.putT dst v).tmps t = nthD s.tmps t) ∧
    (s.putT dst v).tmps.length = s.tmps.length ∧ (s.putT dst v).heap = s.heap ∧ (s.putT dst v).saved = s.saved := by
  cases dst with
  | none => exact ⟨fun t h => by simp at h, fun t h => by simp at h, fun t _ => rfl, rfl, rfl, rfl⟩
  | some d =>
    refine ⟨fun t h hl => ?_, fun t h hl => ?_, fun t h => ?_, by simp [St.putT, setR_eq], rfl, rfl⟩
    · obtain rfl : d = t := by simpa using h
      simp [St.putT, setR_eq, nthD_eq, List.getD, hl]
    · obtain rfl : d = t := by simpa using h
      simp [St.putT, setR_eq, nthD_eq, List.getD]
      rw [List.getElem?_eq_none (by simpa using hl)]
      rfl
    · have : d ≠ t := fun e => h (by rw [e])
      simp [St.putT, setR_eq, nthD_eq, List.getD, List.getElem?_set, this]

theorem step_local {ops : Array Oper} {i : Nat} {o : Oper} {slot mask : Nat} {s s' s2 : St} (h : stepD P env ops o slot s = some s') (hl : Like s s2) (hx : ∀ x, (Rl ops (footD env ops i o slot mask s) x ∨ Wl (footD env ops i o slot mask s) x) → look s2 x = look s x) :
    ∃ s2', stepD P env ops o slot s2 = some s2' ∧ Like s' s2' ∧ Like s s' ∧ (∀ x, Wl (footD env ops i o slot mask s) x → look s2' x = look s' x) ∧ (∀ x, ¬ Wl (footD env ops i o slot mask s) x → look s2' x = look s2 x ∧ look s' x = look s x) := by
  have ho : (footD env ops i o slot mask s).o = o := by unfold footD; split <;> rfl
  have ht : ∀ t ∈ looksTmps ops o, nthD s2.tmps t = nthD s.tmps t := fun t ht => by
    have := hx (.tmp t) (.inl (by show t ∈ _; rw [ho]; exact ht))
    simpa [look] using this
  have hw := wantedA_congr ht
  have he := eval_congr ht
  -- the temporary that is set
  have dstok : ∀ (u u2 : St) (v : AV), u.tmps = s.tmps → u2.tmps = s2.tmps → ∀ t, o.dst = some t → nthD (u2.putT o.dst v).tmps t = nthD (u.putT o.dst v).tmps t := by
    intro u u2 v h1 h2 t hd
    obtain ⟨a1, a2, _⟩ := putT_look u o.dst v
    obtain ⟨b1, b2, _⟩ := putT_look u2 o.dst v
    by_cases hlt : t < s.tmps.length
    · rw [a1 t hd (by rw [h1]; exact hlt), b1 t hd (by rw [h2, hl.tmps]; exact hlt)]
    · rw [a2 t hd (by rw [h1]; exact hlt), b2 t hd (by rw [h2, hl.tmps]; exact hlt)]
  unfold stepD at h
  cases hq : wantedA ops o s with
  | none => rw [hq] at h; cases h
  | some b =>
    rw [hq] at h
    cases b with
    | false =>
      simp only [Option.some.injEq] at h
      subst h
      have hf : footD env ops i o slot mask s = { idx := i, o := o, r := [], w := [], mask := mask } := by unfold footD; simp only [hq]
      rw [hf] at hx ⊢
      obtain ⟨_, _, a3, a4, a5, a6⟩ := putT_look s o.dst (.tup .unit)
      obtain ⟨_, _, b3, b4, b5, b6⟩ := putT_look s2 o.dst (.tup .unit)
      refine ⟨s2.putT o.dst (.tup .unit), ?_, ⟨by rw [a4, b4, hl.tmps], by rw [a5, b5, hl.heap], by rw [a6, b6, hl.saved]⟩, ⟨a4, by rw [a5], a6⟩, fun x hxw => ?_, fun x hxw => ?_⟩
      · unfold stepD; rw [hw, hq]
      · cases x with
        | tmp t => simp only [look]; rw [dstok s s2 _ rfl rfl t hxw]
        | blk j => simp [Wl] at hxw
      · cases x with
        | tmp t => simp only [look]; rw [a3 t hxw, b3 t hxw]; exact ⟨rfl, rfl⟩
        | blk j => simp only [look]; rw [a5, b5]; exact ⟨rfl, rfl⟩
    | true =>
      simp only at h
      have hf : footD env ops i o slot mask s = { idx := i, o := o, r := footR o.op s, w := footW env o.op slot s, mask := mask } := by unfold footD; simp only [hq]
      rw [hf] at hx ⊢
      split at h
      · rename_i hc
        simp only [Bool.and_eq_true] at hc
        have hb : ∀ j, j ∈ footR o.op s ++ footW env o.op slot s → nthB s2.heap j = nthB s.heap j := fun j hj => by
          have := hx (.blk j) (by rcases List.mem_append.1 hj with h | h; exact .inl h; exact .inr h)
          simpa [look] using this
        obtain ⟨val, hp, h1, h2⟩ := does_op (P := P) (env := env) (slot := slot) (st := s) (st2 := s2) hc.1 he hb
        have h := (h1 St _).symm.trans h
        cases val with
        | none => cases h
        | some q =>
          obtain ⟨v, φ⟩ := q
          have hP := hp _ rfl
          simp only [obind, Option.some.injEq] at h
          subst h
          have hslot : slotOK o.op slot s2 = true := by
            have h3 := hc.2
            unfold slotOK at h3 ⊢
            split
            · rfl
            · rename_i ha
              rw [ha] at h3
              simp only at h3
              have hin : slot ∈ footW env o.op slot s := by
                have h4 := hc.1
                cases hop : o.op <;> rw [hop] at ha h4 <;> first
                  | (simp [isAlloc] at ha; done)
                  | (simp [footW]; done)
                  | (simp [calm] at h4; done)
              rw [hb slot (by simp [hin]), hl.heap]
              exact h3
          obtain ⟨_, _, a3, a4, a5, a6⟩ := putT_look { s with heap := φ s.heap } o.dst v
          obtain ⟨_, _, b3, b4, b5, b6⟩ := putT_look { s2 with heap := φ s2.heap } o.dst v
          refine ⟨({ s2 with heap := φ s2.heap } : St).putT o.dst v, ?_, ⟨by rw [a4, b4]; exact hl.tmps, by rw [a5, b5]; show (φ s2.heap).length = (φ s.heap).length; rw [hP.len, hP.len, hl.heap], by rw [a6, b6]; exact hl.saved⟩, ⟨a4, by rw [a5]; exact hP.len _, a6⟩, fun x hxw => ?_, fun x hxw => ?_⟩
          · unfold stepD
            rw [hw, hq]
            simp only [calm_congr he, hc.1, hslot, Bool.and_self]
            exact h2 St _
          · cases x with
            | tmp t => simp only [look]; rw [dstok { s with heap := φ s.heap } { s2 with heap := φ s2.heap } _ rfl rfl t hxw]
            | blk j =>
              simp only [look]; rw [a5, b5]
              show Sum.inr (nthB (φ s2.heap) j) = Sum.inr (nthB (φ s.heap) j)
              rw [hP.on s.heap s2.heap hl.heap (fun k hk => hb k (by simp [hk])) j hxw]
          · cases x with
            | tmp t => simp only [look]; rw [a3 t hxw, b3 t hxw]; exact ⟨rfl, rfl⟩
            | blk j =>
              simp only [look]; rw [a5, b5]
              show Sum.inr (nthB (φ s2.heap) j) = _ ∧ Sum.inr (nthB (φ s.heap) j) = _
              rw [hP.off _ j hxw, hP.off _ j hxw]
              exact ⟨rfl, rfl⟩
      · cases h

end Go.Am
