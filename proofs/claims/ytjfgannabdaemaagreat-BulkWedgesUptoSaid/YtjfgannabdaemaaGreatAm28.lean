/-
  AM, twenty-ninth text: a function's run is its answer.
-/
import Derived.Test.YtjfgannabdaemaaGreatAm26
set_option linter.all false
namespace Go.Am
set_option linter.unusedSimpArgs false

variable {R : Type} {P : Program} {N : Nat} {Hd S0 : Nat → Prop} {w0 : World} {ρ : Emb} {S S' : Nat → Prop} {st : St} {a : Act} {sv : List Value} {w : World} {H : Heap}

/-- the state in which a run begins, where S is what it may lean on -/
theorem Sim.begin (w : World) (hS : ∀ b, S b → b < w.heap.size) {args : List AV} {cargs : List Value} (h : All2 (VR (fun _ => none) S w []) args cargs) (n : Nat) :
    Sim w.heap.size (fun _ => False) S w (fun _ => none) S { tmps := args ++ List.replicate (n - args.length) .dead, saved := [], heap := [] } { tmps := cargs.toArray ++ Array.replicate (n - cargs.toArray.size) undef, defers := [] } [] w := {
  tm := by
    have e : args.length = cargs.length := h.length
    simp only [Array.toList_append, List.toList_toArray, Array.toList_replicate, List.size_toArray]
    rw [e]
    exact h.append (All2.replicate trivial _)
  sv := trivial
  bl := fun i => by rw [nthB_eq]; simp [BlkRel]
  inj := fun i j b x y h => by simp at h
  own := fun i b x h => by simp at h
  stay := hS
  lim := fun b h => .inl h
  grew := fun b h => h
  keep := fun b _ _ => rfl
  base := Nat.le_refl _
  dfr := rfl
  eff := ⟨rfl, rfl, rfl⟩ }

theorem Sim.kept' {w w' : World} {S0 : Nat → Prop} (hs : Sim w.heap.size (fun _ => False) S0 w ρ S st a sv w') : Kept w w' :=
  ⟨fun b hb => hs.keep b hb (fun h => h), hs.base, hs.eff⟩

/-- a run's answer is the function's -/
theorem run_sound {cfg : Cfg} {fn : Func} {f : FuncId} {n : Nat} {ps res : Ty} {nres : Nat} (hP : Plain cfg.P) (hc : ∀ N Hd S0 w0, CutsOK cfg N Hd S0 w0) (he : ∀ f F, cfg.env f = some F → Sound cfg.P f F)
    (hf : cfg.P.funcs[f]? = some fn) (hb0 : fn.body.isNone = false) (hn : fn.results.size = nres) (hr : res.noFr = true) : Sound cfg.P f (.fn ps res nres (runFn cfg n f ps res nres)) := by
  refine ⟨hr, fun p r hrun => ⟨⟨fn, hf, hb0⟩, fun S w cargs hS hargs => ?_⟩⟩
  unfold runFn runCode at hrun
  rw [hf] at hrun
  simp only at hrun
  split at hrun
  · rename_i c hb
    refine calls_of_wp hf hb (exec_sound hP (inl_sound hP (hc _ _ _ _) he n) he (hc _ _ _ _) c (fun d hd => by unfold bodyLoops; rw [hf]; simp only [hb]; exact hd) hrun (Sim.begin w hS hargs fn.ntmps) fun e st' ρ' S' a' w' h1 h2 => ?_)
    have fin : (match resultsAV cfg.P st' fn.results.toList with | some v => handed st'.heap res nres v | none => none) = some r →
        a'.defers = [] ∧ ∃ v, (results fn a'.tmps).run cfg.P w' = .ok v w' ∧ ∃ cv, Ending.returned v = .returned cv ∧
          VR (fun _ => none) (fun b => S b ∨ (w.heap.size ≤ b ∧ b < w'.heap.size)) w' [] (packR res nres r) cv ∧ Kept w w' := by
      intro h1
      refine ⟨h2.dfr, ?_⟩
      have hS2 : ∀ b, S' b → S b ∨ (w.heap.size ≤ b ∧ b < w'.heap.size) := fun b hb => by
        rcases h2.lim b hb with h | h | h
        · exact .inl h
        · exact .inr ⟨h, h2.stay b hb⟩
        · exact h.elim
      have hown : ∀ (v : AV), ∀ id ∈ v.rows, ∀ b base, ρ' id = some (b, base) → S b ∨ (w.heap.size ≤ b ∧ b < w'.heap.size) := fun v id _ b base hρ => by
        obtain ⟨g1, g2⟩ := h2.own id b base hρ
        rcases g2 with g2 | g2
        · exact .inr ⟨g2, g1⟩
        · exact g2.elim
      split at h1
      · rename_i v hv
        obtain ⟨vs, g1, g2, us, rfl, g4⟩ := results_sound (P := cfg.P) h2 _ hv
        refine ⟨_, run_results g1, _, rfl, ?_, h2.kept'⟩
        have hvr := packed_rel (n := nres) (by rw [g2, Array.length_toList, hn]) g4
        have hd := handed_eq _ _ _ _ h1
        by_cases e1 : nres = 1
        · subst e1
          exact (deep_VR' h2.bl hS2 hvr hd (.inl (hown _))).vr
        · rw [unpack_ne e1] at hd
          rw [packR_ne e1, dif_neg (by rw [List.size_toArray, g2, Array.length_toList, hn]; exact e1)]
          obtain ⟨k1, k2⟩ := deep_chain h2.bl hS2 g4 hd (.inl (hown _)) (ρ' := fun _ => none) (H' := [])
          have k3 := chain_list k1
          rw [k2] at k3
          exact VR.of_rel rfl ⟨vs, rfl, k3⟩
      · cases h1
    cases e with
    | normal => exact fin h1
    | ret => exact fin h1
    | exit id => cases h1
  · cases hrun

end Go.Am
