/-
  AM, twenty-seventh text: calls.
-/
import Derived.Test.YtjfgannabdaemaaGreatAm25
set_option linter.all false
namespace Go.Am
set_option linter.unusedSimpArgs false

variable {R : Type} {P : Program} {N : Nat} {Hd S0 : Nat → Prop} {w0 : World} {ρ : Emb} {S S' : Nat → Prop} {st : St} {a : Act} {sv : List Value} {w : World} {H : Heap}

theorem All2.take {α β : Type} {f : α → β → Prop} : ∀ {l : List α} {m : List β} (n : Nat), All2 f l m → All2 f (l.take n) (m.take n) := by
  intro l
  induction l with
  | nil => intro m n h; cases m <;> first | (cases n <;> trivial) | exact h.elim
  | cons x l ih => intro m n h; cases m with
    | nil => exact h.elim
    | cons y m => cases n with
      | zero => trivial
      | succ n => exact ⟨h.1, ih n h.2⟩

theorem All2.drop {α β : Type} {f : α → β → Prop} : ∀ {l : List α} {m : List β} (n : Nat), All2 f l m → All2 f (l.drop n) (m.drop n) := by
  intro l
  induction l with
  | nil => intro m n h; cases m <;> first | (cases n <;> trivial) | exact h.elim
  | cons x l ih => intro m n h; cases m with
    | nil => exact h.elim
    | cons y m => cases n with
      | zero => exact h
      | succ n => exact ih n h.2

theorem All2.replicate {α β : Type} {f : α → β → Prop} {x : α} {y : β} (h : f x y) : ∀ n, All2 f (List.replicate n x) (List.replicate n y) := by
  intro n
  induction n with
  | zero => trivial
  | succ n ih => exact ⟨h, ih⟩

def resOne (tmps : Array Value) : ResultVar → Sem Value
  | .tmp t => pure (tmps.getD t undef)
  | .cell x t => do loadVar t (← asAddr (tmps.getD x undef))

/-- what a function hands back -/
theorem results_sound (hs : Sim N Hd S0 w0 ρ S st a sv w) : ∀ (l : List ResultVar) {v : AV}, resultsAV P st l = some v →
    ∃ vs : List Value, (l.mapM (resOne a.tmps)).run P w = .ok vs w ∧ vs.length = l.length ∧
      ∃ us, v = chain us ∧ All2 (VR ρ S w st.heap) us vs := by
  intro l
  induction l with
  | nil => intro v h; simp only [resultsAV, Option.some.injEq] at h; subst h; exact ⟨[], by simp, rfl, [], rfl, trivial⟩
  | cons x l ih =>
    intro v h
    cases x with
    | tmp t =>
      simp only [resultsAV] at h
      split at h
      · rename_i u hu
        cases h
        obtain ⟨vs, h1, h2, us, rfl, h4⟩ := ih hu
        exact ⟨a.tmps.getD t undef :: vs, by simp only [List.mapM_cons, resOne, Sem.run_bind, Sem.run_pure, Result.andThen_ok, h1], by simp [h2], nthD st.tmps t :: us, rfl, hs.eval (.tmp t), h4⟩
      · cases h
    | cell t ty =>
      simp only [resultsAV] at h
      split at h
      · rename_i id p he
        split at h
        · rename_i u hu
          split at h
          · rename_i hf
            split at h
            · rename_i q hq
              cases h
              obtain ⟨vs, h1, h2, us, rfl, h4⟩ := ih hq
              have hv : VR ρ S w st.heap (nthD st.tmps t) (a.tmps.getD t undef) := hs.eval (.tmp t)
              rw [he] at hv
              obtain ⟨b, base, o, g1, g2, g3⟩ := hv.ptr_inv
              obtain ⟨cs, g4, g5⟩ := load_sound hs.bl hu g1 g2
              obtain ⟨cv, g6, g7⟩ := run_loadVar_sound (P := P) hf g4 g5
              refine ⟨cv :: vs, ?_, by simp [h2], u :: us, rfl, g7, h4⟩
              have ea : ∀ x : Addr, (asAddr (.pointer (some x))).run P w = .ok x w := fun x => by simp [asAddr]
              simp only [List.mapM_cons, resOne, Sem.run_bind, g3, ea, Sem.run_pure, Result.andThen_ok, g6, h1]
            · cases h
          · cases h
        · cases h
      · cases h

theorem run_results {fn : Func} {tmps : Array Value} {vs : List Value} (h : (fn.results.toList.mapM (resOne tmps)).run P w = .ok vs w) :
    (results fn tmps).run P w = .ok (if h : vs.toArray.size = 1 then vs.toArray[0] else .tuple vs.toArray) w := by
  have key : ∀ (l : Array ResultVar) (g : ResultVar → Sem Value), (l.toList.mapM (resOne tmps)).run P w = .ok vs w → (∀ x, g x = resOne tmps x) → (l.mapM g).run P w = .ok vs.toArray w := by
    intro l g h hg
    obtain rfl : g = resOne tmps := funext hg
    obtain ⟨l⟩ := l
    rw [List.mapM_toArray]
    show Sem.run P (List.mapM (resOne tmps) l >>= fun x => pure x.toArray) w = _
    rw [Sem.run_bind, h]
    simp
  unfold results
  rw [Sem.run_bind, key _ _ h (fun x => by cases x <;> rfl)]
  simp only [Result.andThen_ok, Sem.run_pure]

theorem packed_rel {us : List AV} {vs : List Value} {n : Nat} (hn : vs.length = n) (h : All2 (VR ρ S w H) us vs) : VR ρ S w H (packed n (chain us)) (if h : vs.toArray.size = 1 then vs.toArray[0] else .tuple vs.toArray) := by
  by_cases h1 : n = 1
  · subst h1
    cases vs with
    | nil => simp at hn
    | cons y vs => cases vs with
      | nil => cases us with
        | nil => exact h.elim
        | cons x us => exact h.1
      | cons _ _ => simp at hn
  · have e1 : packed n (chain us) = .tup (chain us) := by
      unfold packed
      split
      · exact absurd rfl h1
      · rfl
    rw [e1, dif_neg (by simp; omega)]
    exact VR.of_rel rfl ⟨vs, rfl, chain_list h⟩

/-- the state in which a callee begins -/
theorem Sim.enter (hs : Sim N Hd S0 w0 ρ S st a sv w) {args : List AV} {cargs : List Value} (h : All2 (VR ρ S w st.heap) args cargs) (n : Nat) :
    Sim N Hd S0 w0 ρ S { tmps := args ++ List.replicate (n - args.length) .dead, saved := st.tmps ++ st.saved, heap := st.heap } { tmps := cargs.toArray ++ Array.replicate (n - cargs.toArray.size) undef, defers := [] } (a.tmps.toList ++ sv) w := {
  tm := by
    have e : args.length = cargs.length := h.length
    simp only [Array.toList_append, List.toList_toArray, Array.toList_replicate, List.size_toArray]
    rw [e]
    exact h.append (All2.replicate trivial _)
  sv := hs.tm.append hs.sv
  bl := hs.bl
  inj := hs.inj
  own := hs.own
  stay := hs.stay
  lim := hs.lim
  grew := hs.grew
  keep := hs.keep
  base := hs.base
  dfr := rfl
  eff := hs.eff }

theorem Sim.leave {st' : St} {a' : Act} {w' : World} {n : Nat} (hs : Sim N Hd S0 w0 ρ S st' a' (a.tmps.toList ++ sv) w') (hn : a.tmps.toList.length = n) (hd : a.defers = []) :
    Sim N Hd S0 w0 ρ S { tmps := st'.saved.take n, saved := st'.saved.drop n, heap := st'.heap } a sv w' := {
  tm := by
    have h1 := hs.sv.take n
    have e : (a.tmps.toList ++ sv).take n = a.tmps.toList := by rw [← hn, List.take_left]
    rw [e] at h1
    exact h1
  sv := by
    have h1 := hs.sv.drop n
    have e : (a.tmps.toList ++ sv).drop n = sv := by rw [← hn, List.drop_left]
    rw [e] at h1
    exact h1
  bl := hs.bl
  inj := hs.inj
  own := hs.own
  stay := hs.stay
  lim := hs.lim
  grew := hs.grew
  keep := hs.keep
  base := hs.base
  dfr := hd
  eff := hs.eff }

theorem inl_sound {cfg : Cfg} (hP : Plain cfg.P) (hc : CutsOK cfg N Hd S0 w0) (hv : ∀ f F, cfg.env f = some F → Sound cfg.P f F) : ∀ n, HandOK cfg.P N Hd S0 w0 (inl (R := R) cfg n) := by
  intro n
  induction n with
  | zero => intro f args st K r hk; cases hk
  | succ n ih =>
    intro f args st K r hk ρ S a sv w cargs hs hargs
    simp only [inl] at hk
    split at hk
    · rename_i F hF
      exact callFn_sound (hv f F hF) hk hs hargs
    · split at hk
      · rename_i fn hfn
        split at hk
        · rename_i c hb
          refine ⟨⟨fn, hfn, by simp [hb]⟩, calls_of_wp hfn hb ?_⟩
          refine exec_sound hP ih hv hc c (fun d hd => by unfold bodyLoops; rw [hfn]; simp only [hb]; exact hd) hk (hs.enter hargs fn.ntmps) fun e st' ρ' S' a' w' h1 h2 => ?_
          have fin : (match resultsAV cfg.P st' fn.results.toList with | some v => K (packed fn.results.size v) { tmps := st'.saved.take st.tmps.length, saved := st'.saved.drop st.tmps.length, heap := st'.heap } | none => none) = some r →
              a'.defers = [] ∧ ∃ v, (results fn a'.tmps).run cfg.P w' = .ok v w' ∧ ∃ cv v' st'' ρ' S', Ending.returned v = .returned cv ∧ K v' st'' = some r ∧ Sim N Hd S0 w0 ρ' S' st'' a sv w' ∧ VR ρ' S' w' st''.heap v' cv := by
            intro h1
            refine ⟨h2.dfr, ?_⟩
            split at h1
            · rename_i v hv
              obtain ⟨vs, g1, g2, us, rfl, g4⟩ := results_sound (P := cfg.P) h2 _ hv
              refine ⟨_, run_results g1, _, _, _, ρ', S', rfl, h1, h2.leave (hs.tm.length.symm) hs.dfr, packed_rel (by rw [g2, Array.length_toList]) g4⟩
            · cases h1
          cases e with
          | normal => exact fin h1
          | ret => exact fin h1
          | exit id => cases h1
        · cases hk
      · cases hk

end Go.Am
