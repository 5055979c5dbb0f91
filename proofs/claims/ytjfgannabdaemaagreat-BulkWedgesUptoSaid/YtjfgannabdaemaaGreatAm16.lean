/-
  AM, seventeenth text: aggregates that are built; stores; make.
-/
import Derived.Test.YtjfgannabdaemaaGreatAm15
set_option linter.all false
namespace Go.Am
set_option linter.unusedSimpArgs false

variable {R : Type} {P : Program} {N : Nat} {Hd S0 : Nat → Prop} {w0 : World} {ρ : Emb} {S S' : Nat → Prop} {st : St} {a : Act} {sv : List Value} {w : World} {H : Heap}

theorem LV.leaf : ∀ (t : Ty) {x : t.den} {cs : List Value}, LV S w t x cs → ∀ v ∈ cs, v.oneCell' = true := by
  intro t
  induction t with
  | bool => intro x cs h v hv; obtain rfl : cs = _ := h; simp at hv; subst hv; rfl
  | int k => intro x cs h v hv; obtain ⟨rfl, _⟩ := h; simp at hv; subst hv; rfl
  | str => intro x cs h v hv; obtain ⟨rfl, _⟩ := h; simp at hv; subst hv; rfl
  | unit => intro x cs h v hv; obtain rfl : cs = _ := h; simp at hv
  | pair p q ihp ihq =>
    rintro x cs ⟨c, d, rfl, h1, h2⟩ v hv
    rcases List.mem_append.1 hv with hv | hv
    · exact ihp h1 v hv
    · exact ihq h2 v hv
  | arr n t ih =>
    rintro x cs ⟨_, h⟩ v hv
    revert cs
    generalize (show List t.den from x) = l
    induction l with
    | nil => intro cs h hv; obtain rfl : cs = [] := h; simp at hv
    | cons y l ihl =>
      rintro cs ⟨c, d, rfl, h1, h2⟩ hv
      rcases List.mem_append.1 hv with hv | hv
      · exact ih h1 v hv
      · exact ihl h2 hv
  | sl t _ => intro x cs h v hv; obtain ⟨_, _, rfl, _⟩ := h; simp at hv; subst hv; rfl
  | fr t _ => intro x cs h v hv; obtain ⟨_, _, rfl, _⟩ := h; simp at hv; subst hv; rfl

theorem leafV_one {v : Value} (h : leafV v = true) : v.oneCell' = true := by cases v <;> first | rfl | (simp [leafV] at h)

theorem Rel.leaf : ∀ (u : AV) {cs : List Value}, u.okIn = true → Rel ρ S w H u true cs → ∀ v ∈ cs, v.oneCell' = true := by
  intro u
  induction u with
  | pair p q ihp ihq =>
    rintro cs ho ⟨c, d, rfl, h1, h2⟩ v hv
    simp only [AV.okIn, Bool.and_eq_true] at ho
    rcases List.mem_append.1 hv with hv | hv
    · exact ihp ho.1 h1 v hv
    · exact ihq ho.2 h2 v hv
  | unit => intro cs _ h v hv; obtain rfl : cs = [] := h; simp at hv
  | dead => rintro cs _ ⟨x, rfl, hx⟩ v hv; simp at hv; subst hv; exact leafV_one hx
  | int k n => intro cs _ h v hv; exact LV.leaf (.int k) h v hv
  | bool b => intro cs _ h v hv; exact LV.leaf .bool h v hv
  | str s => intro cs _ h v hv; exact LV.leaf .str h v hv
  | nilsl => intro cs _ h v hv; obtain rfl : cs = _ := h; simp at hv; subst hv; rfl
  | nilptr => intro cs _ h v hv; obtain rfl : cs = _ := h; simp at hv; subst hv; rfl
  | nilfunc => intro cs _ h v hv; obtain rfl : cs = _ := h; simp at hv; subst hv; rfl
  | nilmap => intro cs _ h v hv; obtain rfl : cs = _ := h; simp at hv; subst hv; rfl
  | dsl t l tt => rintro cs _ ⟨_, _, rfl, _⟩ v hv; simp at hv; subst hv; rfl
  | lsl => rintro cs _ ⟨_, _, rfl, _⟩ v hv; simp at hv; subst hv; rfl
  | dar n t l => intro cs _ h v hv; exact LV.leaf (.arr n t) h v hv
  | ptr => rintro cs _ ⟨_, _, _, _, _, rfl⟩ v hv; simp at hv; subst hv; rfl
  | rptr => rintro cs _ ⟨_, _, _, rfl, _⟩ v hv; simp at hv; subst hv; rfl
  | func => rintro cs _ ⟨_, rfl, _⟩ v hv; simp at hv; subst hv; rfl
  | tup v => intro cs ho; simp [AV.okIn] at ho
  | map => rintro cs _ ⟨_, _, _, rfl⟩ v hv; simp at hv; subst hv; rfl
  | iter0 => rintro cs _ ⟨_, _, _, _, rfl, _⟩ v hv; simp at hv; subst hv; rfl

theorem deep_storable : ∀ (T : Ty) (v : AV) {x : T.den}, deep H T v = some x → v.storable = true := by
  intro T
  have key : ∀ (T : Ty) (v : AV) {x : T.den}, deep H T v = some x → v.okIn = true ∧ v ≠ .dead := by
    intro T
    induction T with
    | pair p q ihp ihq =>
      intro v x h
      cases v <;> try (simp [deep] at h; done)
      simp only [deep] at h
      split at h
      · rename_i y hy
        split at h
        · rename_i z hz
          exact ⟨by simp [AV.okIn, (ihp _ hy).1, (ihq _ hz).1], by simp⟩
        · cases h
      · cases h
    | _ =>
      intro v x h
      cases v <;> first
        | (simp [deep] at h; done)
        | (refine ⟨rfl, ?_⟩; intro e; cases e; done)
  intro v x h
  obtain ⟨h1, h2⟩ := key T v h
  cases v <;> first | exact h1 | exact absurd rfl h2

theorem VR.cells {v : AV} {x : Value} (hs : v.storable = true) (h : VR ρ S w H v x) : Rel ρ S w H v true x.cells.toList := by
  have hnd : v ≠ .dead := by intro e; rw [e] at hs; simp [AV.storable] at hs
  cases hg : v.isAgg with
  | true => obtain ⟨c, e, h⟩ := h.agg hg; rw [e]; simpa [Value.cells] using h
  | false =>
    have h1 := h.rel hg hnd
    have hl := Rel.leaf v (storable_okIn hs) h1 x (by simp)
    have : x.cells.toList = [x] := by cases x <;> first | rfl | (simp [Value.oneCell'] at hl)
    rw [this]; exact h1

theorem run_mapM_sizes {l : List Field} (h : ∀ f ∈ l, ∃ d, P.underlying f.type = some d) : (l.mapM (m := Sem) fun f => do pure (f.offset, ← sizeOf f.type)).run P w = .ok (l.map fun f => (f.offset, P.cellsOf f.type)) w := by
  induction l with
  | nil => rfl
  | cons f l ih =>
    obtain ⟨d, hd⟩ := h f (by simp)
    simp only [List.mapM_cons, Sem.run_bind, run_size hd, Result.andThen_ok, Sem.run_pure, ih (fun g hg => h g (by simp [hg])), List.map_cons]

theorem zeroChain_all {f : TypeId → Option AV} : ∀ {fs : List Field} {v : AV}, zeroChain f fs = some v → ∀ x ∈ fs, ∃ u, f x.type = some u := by
  intro fs
  induction fs with
  | nil => intro v _ x hx; simp at hx
  | cons y r ih =>
    intro v h x hx
    simp only [zeroChain] at h
    split at h
    · rename_i p hp
      split at h
      · rename_i q hq
        rcases List.mem_cons.1 hx with rfl | hx
        · exact ⟨p, hp⟩
        · exact ih hq x hx
      · cases h
    · cases h

theorem zeroAV_under {n : Nat} {t : TypeId} {v : AV} (h : zeroAV P n t = some v) : ∃ d, P.underlying t = some d := by
  cases n with
  | zero => simp [zeroAV] at h
  | succ n =>
    cases hu : P.underlying t with
    | none => simp [zeroAV, hu] at h
    | some d => exact ⟨d, rfl⟩

theorem fill_agg (hs : Sim N Hd S0 w0 ρ S st a sv w) {step : Nat → Step} {ok : Nat → AV → AV → Bool} {place : Nat → Option (Nat × Nat)}
    (hplace : ∀ i v x y o, ok i v x = true → v.put st.heap [step i] x = some y → offA v [step i] = some o → place i = some (o, x.size)) :
    ∀ (ps : List (Nat × Operand)) {v u : AV} {cells : Array Value}, partsIn st v step ok ps = some u → Rel ρ S w st.heap v true cells.toList → v.okIn = true →
      ∃ cells', Instr.fill place cells (ps.map fun p => (p.1, a.eval p.2)) = some cells' ∧ Rel ρ S w st.heap u true cells'.toList ∧ u.isAgg = v.isAgg ∧ u.okIn = true := by
  intro ps
  induction ps with
  | nil => intro v u cells h hv ho; simp only [partsIn, Option.some.injEq] at h; subst h; exact ⟨cells, rfl, hv, rfl, ho⟩
  | cons p ps ih =>
    obtain ⟨i, x⟩ := p
    intro v u cells h hv ho
    simp only [partsIn] at h
    split at h
    · rename_i hok
      split at h
      · rename_i y hy
        have hst : (st.eval x).storable = true := by
          cases hsi : step i with
          | fld k =>
            rw [hsi] at hy
            have hy' : (match v.fld k with | some x' => (match x'.put st.heap [] (st.eval x) with | some y => v.setFld k y | none => none) | none => none) = some y := by cases v <;> exact hy
            cases hf : v.fld k with
            | none => rw [hf] at hy'; simp at hy'
            | some q =>
              rw [hf] at hy'
              simp only at hy'
              cases hq : q.put st.heap [] (st.eval x) with
              | none => rw [hq] at hy'; simp at hy'
              | some z =>
                have hq' : (match q.like (st.eval x) && (st.eval x).storable with | true => some (st.eval x) | false => none) = some z := by cases q <;> exact hq
                split at hq'
                · rename_i hb; simp only [Bool.and_eq_true] at hb; exact hb.2
                · cases hq'
          | idx k =>
            rw [hsi] at hy
            cases v <;> try (simp [AV.put] at hy; done)
            simp only [AV.put] at hy
            split at hy
            · obtain ⟨q, _, hy⟩ := obind_eq hy
              split at hy
              · rename_i z hz
                rename_i T _ _ _ _
                have : deep st.heap _ (st.eval x) = some z := by
                  revert hz
                  simp only [putD]
                  intro hz
                  first
                    | exact hz
                    | (cases T <;> exact hz)
                exact deep_storable _ _ this
              · cases hy
            · cases hy
        have hx := (hs.eval x).cells hst
        have hl := Rel.length _ hx
        obtain ⟨o, h1, h2, h3, h4, h5⟩ := put_sound hs.bl hx [step i] v hv hy
        have hsz : (a.eval x).cells.size = (st.eval x).size := by simpa using hl
        obtain ⟨cells', g1, g2, g3, g4⟩ := ih (cells := (a.eval x).cells.zipIdx.foldl (fun cs (c, j) => cs.setIfInBounds (o + j) c) cells) h (by rw [fold_over_array _ _ _ (by simp at h2; omega)]; exact h3) (h5 ho)
        refine ⟨cells', ?_, g2, ?_, g4⟩
        · simp only [List.map_cons, Instr.fill, hplace i v _ y o hok hy h1]
          rw [if_neg (by simp at h2; simp; omega)]
          exact g1
        · rw [g3, (like_spec _ _ h4).2.1]
      · cases h
    · cases h

end Go.Am
