/-
  AM, twenty-fourth text: one operation.
-/
import Derived.Test.YtjfgannabdaemaaGreatAm22a
set_option linter.all false
namespace Go.Am
set_option linter.unusedSimpArgs false

variable {R : Type} {P : Program} {N : Nat} {Hd S0 : Nat → Prop} {w0 : World} {ρ : Emb} {S S' : Nat → Prop} {st : St} {a : Act} {sv : List Value} {w : World} {H : Heap}

/-- what a call comes to -/
def CallOK (P : Program) (N : Nat) (Hd S0 : Nat → Prop) (w0 : World) (sv : List Value) (a : Act) (f : FuncId) (args : List Value) (w : World) (K : AV → St → Option R) (r : R) : Prop :=
  (∃ fn, P.funcs[f]? = some fn ∧ fn.body.isNone = false) ∧ Calls P f args.toArray w fun e w' => ∃ cv v st' ρ' S', e = .returned cv ∧ K v st' = some r ∧ Sim N Hd S0 w0 ρ' S' st' a sv w' ∧ VR ρ' S' w' st'.heap v cv

/-- callees are sound -/
def HandOK (P : Program) (N : Nat) (Hd S0 : Nat → Prop) (w0 : World) (h : Hand R) : Prop :=
  ∀ {f : FuncId} {args : List AV} {st : St} {K : AV → St → Option R} {r : R}, h.call f args st K = some r → ∀ {ρ : Emb} {S : Nat → Prop} {a : Act} {sv : List Value} {w : World} {cargs : List Value},
    Sim N Hd S0 w0 ρ S st a sv w → All2 (VR ρ S w st.heap) args cargs → CallOK P N Hd S0 w0 sv a f cargs w K r

/-- no function has the name that the model takes for itself -/
def Plain (P : Program) : Prop := ∀ (f : FuncId) (fn : Func), P.funcs[f]? = some fn → (fn.name == "runtime.NumGoroutine") = false

/-- what an operation comes to, calls too -/
def StepOK (P : Program) (N : Nat) (Hd S0 : Nat → Prop) (w0 : World) (sv : List Value) (a : Act) (op : Op) (ty : TypeId) (w : World) (K : AV → St → Option R) (r : R) : Prop :=
  OpOK P N Hd S0 w0 sv a op ty w K r ∨ ∃ f args, (ex a.eval op ty).run P w = .ok (.enter f args.toArray) w ∧ CallOK P N Hd S0 w0 sv a f args w K r

theorem unchain_rel : ∀ (c : AV) {vs : List Value}, Rel ρ S w H c false vs → All2 (VR ρ S w H) (unchain c) vs := by
  intro c
  induction c with
  | pair p q _ ih =>
    rintro vs ⟨v, d, rfl, h1, h2⟩
    refine ⟨?_, ih h2⟩
    rcases h1 with rfl | h1
    · trivial
    · cases hg : p.isAgg with
      | true => rw [hg] at h1; obtain ⟨c, rfl, h⟩ := h1; exact VR.of_agg hg h
      | false => rw [hg] at h1; exact VR.of_rel hg h1
  | unit => intro vs h; obtain rfl : vs = [] := h; trivial
  | _ => intro vs h; exact (h : False).elim

theorem opCall_sound {h : Hand R} {ty : TypeId} {c : Call} {slot : Nat} {K : AV → St → Option R} {r : R} (hP : Plain P) (hh : HandOK P N Hd S0 w0 h) (hs : Sim N Hd S0 w0 ρ S st a sv w) (hk : opCall P h c slot st K = some r) :
    StepOK P N Hd S0 w0 sv a (.call c) ty w K r := by
  unfold opCall at hk
  split at hk
  · rename_i b hb
    exact .inl (opBuiltin_sound hs hb hk)
  · rename_i f hf
    split at hk
    · rename_i g caps he
      have hv := hs.eval f
      rw [he] at hv
      obtain ⟨vs, h1, h2⟩ := VR.rel rfl (by simp) hv
      have h1 : a.eval f = .func (.func g) #[] vs.toArray := by simpa using h1
      have hargs := (evals_all hs c.args.toList).append (unchain_rel caps h2)
      have hc := hh hk hs hargs
      refine .inr ⟨g, _, ?_, hc⟩
      obtain ⟨⟨fn, g1, g2⟩, _⟩ := hc
      have hn := hP g fn g1
      have e1 : (c.args.toList.map a.eval ++ vs).toArray = c.args.map a.eval ++ vs.toArray := by apply Array.ext'; simp
      simp only [ex, execOp, resolve, hf, Sem.run_bind, Sem.run_pure, Result.andThen_ok, e1]
      rw [h1]
      simp only [Deferred.ofValue, Sem.run_pure, invoke, callFunc, Sem.run_bind, Result.andThen_ok, run_program, g1, hn, g2]
      simp
    · cases hk
  · cases hk

theorem doOp_sound {h : Hand R} {ty : TypeId} {o : Op} {slot : Nat} {K : AV → St → Option R} {r : R} (hP : Plain P) (hh : HandOK P N Hd S0 w0 h) (hs : Sim N Hd S0 w0 ρ S st a sv w)
    (hslot : isAlloc o = true → nthB st.heap slot = none ∧ slot < st.heap.length) (hk : doOp P h o slot st K = some r) : StepOK P N Hd S0 w0 sv a o ty w K r := by
  cases o with
  | move x => exact .inl (opMove_sound hs hk).1
  | assign x => exact .inl (opMove_sound hs hk).2
  | pick c x y => exact .inl (opPick_sound (h := h) (slot := slot) hs hk)
  | alloc t => exact .inl (opAlloc_sound (h := h) (slot := slot) hs (hslot rfl).1 (hslot rfl).2 hk)
  | box t x => exact .inl (opBox_sound (h := h) (slot := slot) hs (hslot rfl).1 (hslot rfl).2 hk)
  | build t ps => exact .inl (opBuild_sound (h := h) (slot := slot) hs hk)
  | buildSlice t n ps => exact .inl (opBuildSlice_sound (h := h) (slot := slot) hs (hslot rfl).1 (hslot rfl).2 hk)
  | load t x => exact .inl (opLoad_sound (h := h) (slot := slot) hs hk)
  | store t x y => exact .inl (opStore_sound (h := h) (slot := slot) hs hk)
  | nilCheck x => exact .inl (opNilCheck_sound (h := h) (slot := slot) hs hk)
  | binOp op t x y yt =>
    obtain ⟨v, cv, h1, h2, h3⟩ := binAV_sound (yt := yt) hs.bl (hs.eval x) (hs.eval y) hk
    exact .inl (OpOK.pure hs h1 (h3 ty) h2)
  | unOp op t x => exact .inl (opUn_sound (fun _ => rfl) hs hk)
  | convert s d x => exact .inl (convAV_sound (op := true) hs hk)
  | sliceToArrayPointer t x => exact .inl (opSliceToArrayPointer_sound (h := h) (slot := slot) hs hk)
  | makeFunc f first caps =>
    cases f with
    | func f =>
      have hk' : (match first.size with | 0 => K (.func f (chain (caps.toList.map st.eval))) st | _ => none) = some r := hk
      split at hk'
      · rename_i h0; exact .inl (opMakeFunc_sound hs h0 hk')
      · cases hk'
    | _ => cases hk
  | makeSlice t n c => exact .inl (opMakeSlice_sound (h := h) (slot := slot) hs (hslot rfl).1 (hslot rfl).2 hk)
  | slice t x lo hi mx => exact .inl (opSlice_sound (h := h) (slot := slot) hs hk)
  | fieldAddr t x f => exact .inl (opFieldAddr_sound (h := h) (slot := slot) hs hk)
  | field t x f => exact .inl (opField_sound (h := h) (slot := slot) hs hk)
  | indexAddr t x i => exact .inl (opIndexAddr_sound (h := h) (slot := slot) hs hk)
  | index t x i => exact .inl (opIndex_sound (h := h) (slot := slot) hs hk)
  | extract x i => exact .inl (opExtract_sound (h := h) (slot := slot) hs hk)
  | range t x => exact .inl (opRange_sound hs hk)
  | next it b => exact .inl (opNext_sound hs hk)
  | call c => exact opCall_sound (slot := slot) hP hh hs hk
  | _ => first | (cases hk; done) | (exact absurd hk (by simp [doOp]))

end Go.Am
