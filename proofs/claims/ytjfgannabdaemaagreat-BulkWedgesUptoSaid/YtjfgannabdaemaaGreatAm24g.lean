/-
  AM: a region whose order is drawn is sound.
-/
import Derived.Test.YtjfgannabdaemaaGreatAm24f
set_option linter.all false
namespace Go.Am
set_option linter.unusedSimpArgs false

variable {R : Type} {P : Program} {N : Nat} {Hd S0 : Nat → Prop} {w0 : World} {ρ : Emb} {S S' : Nat → Prop} {st : St} {a : Act} {sv : List Value} {w : World} {H : Heap} {env : FuncId → Option Fn}

/-- all that must be ahead is there -/
def Closed (ops : Array Oper) (D : Nat → Prop) : Prop :=
  ∀ k o, ops[k]? = some o → D k → ∀ e ∈ o.after.toList, Region.binds .any e = true → D e.on

/-- two operations that may stand in either order -/
def Free (ops : Array Oper) (f g : Foot) : Prop :=
  ∀ x, ¬ (Wl f x ∧ (Rl ops g x ∨ Wl g x)) ∧ ¬ (Rl ops f x ∧ Wl g x)

/-- a region's run in its listed order -/
structure Listed (P : Program) (env : FuncId → Option Fn) (ops : Array Oper) (s : Nat → St) (F : Nat → Foot) (sl : Nat → Nat) : Prop where
  step : ∀ k o, ops[k]? = some o → stepD P env ops o (sl k) (s k) = some (s (k + 1)) ∧ ∃ m, F k = footD env ops k o (sl k) m (s k)
  back : ∀ k o, ops[k]? = some o → ∀ e ∈ o.after.toList, Region.binds .any e = true → e.on < k
  free : ∀ i j, i < j → j < ops.size → (∀ D, Closed ops D → D j → D i) ∨ Free ops (F i) (F j)

section
variable {ops : Array Oper} {s : Nat → St} {F : Nat → Foot} {sl : Nat → Nat}

theorem Listed.off (L : Listed P env ops s F sl) {k : Nat} (hk : k < ops.size) : Like (s k) (s (k + 1)) ∧ ∀ x, ¬ Wl (F k) x → look (s (k + 1)) x = look (s k) x := by
  obtain ⟨o, ho⟩ : ∃ o, ops[k]? = some o := ⟨ops[k], by simp [hk]⟩
  obtain ⟨h1, m, h2⟩ := L.step k o ho
  obtain ⟨s2, _, _, g3, _, g5⟩ := step_local (i := k) (mask := m) h1 (s2 := s k) ⟨rfl, rfl, rfl⟩ (fun _ _ => rfl)
  refine ⟨g3, fun x hx => ?_⟩
  rw [h2] at hx
  exact (g5 x hx).2

theorem Listed.span (L : Listed P env ops s F sl) {x : Loc} {a b : Nat} (hab : a ≤ b) (hb : b ≤ ops.size) (h : ∀ i, a ≤ i → i < b → ¬ Wl (F i) x) : look (s b) x = look (s a) x := by
  induction b with
  | zero => obtain rfl : a = 0 := by omega
            rfl
  | succ b ih =>
    by_cases e : a = b + 1
    · rw [e]
    · rw [(L.off (k := b) (by omega)).2 x (h b (by omega) (by omega))]
      exact ih (by omega) (by omega) fun i h1 h2 => h i h1 (by omega)

theorem Listed.like (L : Listed P env ops s F sl) : ∀ k, k ≤ ops.size → Like (s 0) (s k) := by
  intro k
  induction k with
  | zero => intro _; exact ⟨rfl, rfl, rfl⟩
  | succ k ih =>
    intro hk
    have h1 := ih (by omega)
    have h2 := (L.off (k := k) (by omega)).1
    exact ⟨h2.tmps.trans h1.tmps, h2.heap.trans h1.heap, h2.saved.trans h1.saved⟩

/-- the state behind those of D -/
structure Inv (ops : Array Oper) (s : Nat → St) (F : Nat → Foot) (D : Nat → Prop) (σ : St) : Prop where
  like : Like (s 0) σ
  look : ∀ x m, m ≤ ops.size → (∀ i, i < ops.size → Wl (F i) x → (i < m ↔ D i)) → look σ x = look (s m) x

theorem Listed.next (L : Listed P env ops s F sl) {D : Nat → Prop} {σ : St} {j : Nat} {o : Oper} (ho : ops[j]? = some o) (hD : Closed ops D) (hj : ¬ D j) (hp : ∀ e ∈ o.after.toList, Region.binds .any e = true → D e.on) (hi : Inv ops s F D σ) :
    ∃ σ', stepD P env ops o (sl j) σ = some σ' ∧ Inv ops s F (fun i => D i ∨ i = j) σ' := by
  have hjn : j < ops.size := (Array.getElem?_eq_some_iff.1 ho).1
  -- D with j is closed, too
  have hD' : Closed ops (fun i => D i ∨ i = j) := by
    intro k q hq hk e he hb
    rcases hk with hk | rfl
    · exact .inl (hD k q hq hk e he hb)
    · rw [ho] at hq; cases hq; exact .inl (hp e he hb)
  -- the writers of what j looks at, or sets
  have key : ∀ x, (Rl ops (F j) x ∨ Wl (F j) x) → ∀ i, i < ops.size → Wl (F i) x → (i < j ↔ D i) := by
    intro x hx i hin hw
    constructor
    · intro hij
      rcases L.free i j hij hjn with h | h
      · rcases h _ hD' (.inr rfl) with h | h
        · exact h
        · omega
      · exact absurd ⟨hw, hx⟩ (h x).1
    · intro hDi
      by_cases hij : i < j
      · exact hij
      · exfalso
        have hne : i ≠ j := fun e => hj (e ▸ hDi)
        rcases L.free j i (by omega) hin with h | h
        · exact hj (h D hD hDi)
        · rcases hx with hx | hx
          · exact (h x).2 ⟨hx, hw⟩
          · exact (h x).1 ⟨hx, .inr hw⟩
  obtain ⟨h1, m, h2⟩ := L.step j o ho
  have hlj := L.like j (by omega)
  have hlσ : Like (s j) σ := ⟨hi.like.tmps.trans hlj.tmps.symm, hi.like.heap.trans hlj.heap.symm, hi.like.saved.trans hlj.saved.symm⟩
  obtain ⟨σ', g1, g2, _, g4, g5⟩ := step_local (i := j) (mask := m) h1 hlσ (fun x hx => hi.look x j (by omega) (key x (by rw [h2]; exact hx)))
  rw [← h2] at g4 g5
  have hl1 := L.like (j + 1) (by omega)
  refine ⟨σ', g1, ⟨g2.tmps.trans hl1.tmps, g2.heap.trans hl1.heap, g2.saved.trans hl1.saved⟩, fun x k hk hw => ?_⟩
  by_cases hx : Wl (F j) x
  · rw [g4 x hx]
    have hjk : j < k := (hw j hjn hx).2 (.inr rfl)
    refine (L.span (by omega) hk fun i h3 h4 h5 => ?_).symm
    rcases (hw i (by omega) h5).1 h4 with h6 | h6
    · have := (key x (.inr hx) i (by omega) h5).2 h6; omega
    · omega
  · rw [(g5 x hx).1]
    refine hi.look x k hk fun i hin hwi => ?_
    rw [hw i hin hwi]
    constructor
    · rintro (h | rfl)
      · exact h
      · exact absurd hwi hx
    · exact .inl

theorem Inv.all (h : Inv ops s F (fun _ => True) st) (L : Listed P env ops s F sl) : st = s ops.size := by
  have hl := L.like ops.size (Nat.le_refl _)
  have hx : ∀ x, Am.look st x = Am.look (s ops.size) x := fun x => h.look x ops.size (Nat.le_refl _) fun i hi _ => ⟨fun _ => trivial, fun _ => hi⟩
  have ht : st.tmps = (s ops.size).tmps := by
    have hlen : st.tmps.length = (s ops.size).tmps.length := h.like.tmps.trans hl.tmps.symm
    apply List.ext_getElem hlen
    intro i h1 h2
    have := hx (.tmp i)
    simp only [Am.look, Sum.inl.injEq, nthD_eq, List.getD, List.getElem?_eq_getElem h1, List.getElem?_eq_getElem h2, Option.getD_some] at this
    exact this
  have hh : st.heap = (s ops.size).heap := by
    have hlen : st.heap.length = (s ops.size).heap.length := h.like.heap.trans hl.heap.symm
    apply List.ext_getElem hlen
    intro i h1 h2
    have := hx (.blk i)
    simp only [Am.look, Sum.inr.injEq, nthB_eq, List.getD, List.getElem?_eq_getElem h1, List.getElem?_eq_getElem h2, Option.getD_some] at this
    exact this
  have hs : st.saved = (s ops.size).saved := h.like.saved.trans hl.saved.symm
  cases st
  cases hq : s ops.size
  rw [hq] at ht hh hs
  simp only at ht hh hs
  rw [ht, hh, hs]

end

/-- one step, in the walk -/
theorem step_sound (hP : Plain P) (henv : ∀ f F, env f = some F → Sound P f F) {ops : Array Oper} {i : Nat} {o : Oper} (ho : ops[i]? = some o) {slot : Nat} {st' : St} {Q : Exit → Act → World → Prop} {K : Act → World → Prop}
    (h : stepD P env ops o slot st = some st') (hs : Sim N Hd S0 w0 ρ S st a sv w) (hK : ∀ ρ' S' a' w', Sim N Hd S0 w0 ρ' S' st' a' sv w' → K a' w') : wpOp P ops Q i K a w := by
  unfold wpOp
  rw [ho]
  simp only
  have hw : ∀ b, wantedA ops o st = some b → Region.wanted o (yielded ops a.tmps) = b := by
    intro b hb
    unfold wantedA at hb
    split at hb
    · rename_i hg; cases hb; simp [Region.wanted, hg]
    · rename_i j want hg
      split at hb
      · cases hb
      · rename_i t ht
        split at hb
        · rename_i c hc
          cases hb
          obtain ⟨x, hx, hv⟩ := hs.tmp t (by rw [hc]; simp)
          rw [hc] at hv
          have hx' := hv.bool_inv
          subst hx'
          have hy : yielded ops a.tmps j = some c := by simp [yielded, ht, hx]
          cases c <;> cases want <;> simp [Region.wanted, hg, hy]
        · rename_i v hc
          cases hb
          obtain ⟨x, hx, hv⟩ := hs.tmp t (by rw [hc]; simp)
          rw [hc] at hv
          obtain ⟨vs, hv, _⟩ := VR.rel rfl (by simp) hv
          have hv : x = .tuple vs.toArray := by simpa using hv
          subst hv
          have hy : yielded ops a.tmps j = none := by simp [yielded, ht, hx]
          cases want <;> simp [Region.wanted, hg, hy]
        · cases hb
  unfold stepD at h
  cases hq : wantedA ops o st with
  | none => rw [hq] at h; cases h
  | some b =>
    rw [hq] at h
    rw [hw b hq]
    cases b with
    | false =>
      simp only [Option.some.injEq] at h
      subst h
      exact hK _ _ _ _ (hs.put o.dst undef_rel)
    | true =>
      simp only at h
      split at h
      · rename_i hc
        simp only [Bool.and_eq_true] at hc
        refine .inl ((doOp_sound hP (calm_hand henv) hs (slotOK_spec hc.2) h).wp fun v st'' ρ' S' cv w' h1 h2 h3 => ?_)
        simp only [Option.some.injEq] at h1
        subst h1
        exact hK _ _ _ _ (h2.put o.dst h3)
      · cases h

theorem any_sound (hP : Plain P) (henv : ∀ f F, env f = some F → Sound P f F) {ops : Array Oper} {s : Nat → St} {F : Nat → Foot} {sl : Nat → Nat} (L : Listed P env ops s F sl) {Q : Exit → Act → World → Prop}
    (hQ : ∀ ρ S a w, Sim N Hd S0 w0 ρ S (s ops.size) a sv w → Q .normal a w) : ∀ (fuel : Nat) (listed : Array Bool) (σ : St) {ρ : Emb} {S : Nat → Prop} {a : Act} {w : World}, listed.size = ops.size → listed.toList.count false ≤ fuel →
      Closed ops (fun i => listed.getD i false = true) → Inv ops s F (fun i => listed.getD i false = true) σ → Sim N Hd S0 w0 ρ S σ a sv w → wpAny P .any ops Q fuel listed a w := by
  have done : ∀ (listed : Array Bool) (σ : St) {ρ : Emb} {S : Nat → Prop} {a : Act} {w : World}, (∀ i, i < ops.size → listed.getD i false = true) → Inv ops s F (fun i => listed.getD i false = true) σ → Sim N Hd S0 w0 ρ S σ a sv w → Q .normal a w := by
    intro listed σ ρ S a w hall hi hs
    have hi' : Inv ops s F (fun _ => True) σ := ⟨hi.like, fun x m hm hw => hi.look x m hm fun i hin hwi => (hw i hin hwi).trans ⟨fun _ => hall i hin, fun _ => trivial⟩⟩
    have e := hi'.all L
    subst e
    exact hQ _ _ _ _ hs
  have ready : ∀ (listed : Array Bool), listed.size = ops.size → Region.ready .any ops listed = [] → ∀ i, i < ops.size → listed.getD i false = true := by
    intro listed hsz hr i
    induction i using Nat.strongRecOn with
    | _ i ih =>
      intro hin
      cases hd : listed.getD i false with
      | true => rfl
      | false =>
        exfalso
        have hm : i ∈ Region.ready .any ops listed := by
          unfold Region.ready
          rw [List.mem_filter]
          refine ⟨by simp [hin], ?_⟩
          have h1 : listed.getD i true = false := by
            rw [Array.getD_eq_getD_getElem?] at hd ⊢
            have : i < listed.size := by omega
            simp [this] at hd ⊢
            exact hd
          have ho : ops[i]? = some ops[i] := by simp [hin]
          rw [h1, ho]
          simp only [Option.map_some, Option.getD_some, Bool.not_false, Bool.true_and]
          rw [Array.all_eq_true']
          intro e he
          have hb := L.back i _ ho e (by simpa using he)
          cases hbb : Region.binds .any e with
          | false => rfl
          | true => simp only [Bool.not_true, Bool.false_or]; exact ih e.on (hb hbb) (by have := hb hbb; omega)
        rw [hr] at hm
        simp at hm
  intro fuel
  induction fuel with
  | zero =>
    intro listed σ ρ S a w hsz hc hD hi hs
    have hall : ∀ i, i < ops.size → listed.getD i false = true := by
      intro i hin
      have h0 : false ∉ listed.toList := List.count_eq_zero.1 (Nat.le_zero.1 hc)
      have hl : i < listed.size := by omega
      rw [Array.getD_eq_getD_getElem?]
      simp only [Array.getElem?_eq_getElem hl, Option.getD_some]
      cases hb : listed[i] with
      | true => rfl
      | false => exact absurd (by rw [← hb]; simp) h0
    refine ⟨?_, done listed σ hall hi hs⟩
    unfold Region.ready
    rw [List.filter_eq_nil_iff]
    intro i hir
    have hin : i < ops.size := by simpa using hir
    have := hall i hin
    have hl : i < listed.size := by omega
    rw [Array.getD_eq_getD_getElem?] at this ⊢
    simp [hl] at this ⊢
    simp [this]
  | succ fuel ih =>
    intro listed σ ρ S a w hsz hc hD hi hs
    refine ⟨fun hr => done listed σ (ready listed hsz hr) hi hs, fun i him => ?_⟩
    unfold Region.ready at him
    rw [List.mem_filter] at him
    obtain ⟨hin, him⟩ := him
    have hin : i < ops.size := by simpa using hin
    have hl : i < listed.size := by omega
    have ho : ops[i]? = some ops[i] := by simp [hin]
    rw [ho] at him
    simp only [Option.map_some, Option.getD_some, Bool.and_eq_true, Bool.not_eq_true'] at him
    obtain ⟨h1, h2⟩ := him
    have hf : listed[i] = false := by
      rw [Array.getD_eq_getD_getElem?] at h1
      simpa [hl] using h1
    have hnd : ¬ listed.getD i false = true := by
      rw [Array.getD_eq_getD_getElem?]
      simp [hl, hf]
    have hpre : ∀ e ∈ ops[i].after.toList, Region.binds .any e = true → listed.getD e.on false = true := by
      intro e he hb
      rw [Array.all_eq_true'] at h2
      have := h2 e (by simpa using he)
      rw [hb] at this
      simpa using this
    obtain ⟨σ', g1, g2⟩ := L.next ho hD hnd hpre hi
    have hset : ∀ k, (listed.setIfInBounds i true).getD k false = true ↔ (listed.getD k false = true ∨ k = i) := by
      intro k
      rw [Array.getD_eq_getD_getElem?, Array.getD_eq_getD_getElem?, Array.getElem?_setIfInBounds]
      by_cases e : i = k
      · subst e; simp [hl]
      · have : k ≠ i := fun h => e h.symm
        simp [e, this]
    refine step_sound hP henv ho g1 hs fun ρ' S' a' w' hs' => ?_
    have hfun : (fun k => (listed.setIfInBounds i true).getD k false = true) = (fun k => listed.getD k false = true ∨ k = i) := funext fun k => propext (hset k)
    refine ih (listed.setIfInBounds i true) σ' (by simp [hsz]) ?_ ?_ ?_ hs'
    · have : (listed.setIfInBounds i true).toList = listed.toList.set i true := by simp
      rw [this, List.count_set (by simpa using hl)]
      have hm : false ∈ listed.toList := by rw [← hf]; simp
      have hpos : 0 < listed.toList.count false := List.count_pos_iff.2 hm
      rw [if_pos (by simp [hf]), if_neg (by decide)]
      omega
    · rw [hfun]
      intro k q hq hk e he hb
      rcases hk with hk | rfl
      · exact .inl (hD k q hq hk e he hb)
      · rw [ho] at hq; cases hq; exact .inl (hpre e he hb)
    · rw [hfun]; exact g2

end Go.Am
