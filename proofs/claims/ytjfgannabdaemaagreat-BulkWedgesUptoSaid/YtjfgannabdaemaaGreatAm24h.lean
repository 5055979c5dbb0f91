/-
  AM: what a run of a drawn region tells.
-/
import Derived.Test.YtjfgannabdaemaaGreatAm24g
set_option linter.all false
namespace Go.Am
set_option linter.unusedSimpArgs false

variable {R : Type} {P : Program} {N : Nat} {Hd S0 : Nat → Prop} {w0 : World} {ρ : Emb} {S S' : Nat → Prop} {st : St} {a : Act} {sv : List Value} {w : World} {H : Heap} {env : FuncId → Option Fn}

theorem footD_spec (env : FuncId → Option Fn) (ops : Array Oper) (i : Nat) (o : Oper) (slot m : Nat) (st : St) : (footD env ops i o slot m st).idx = i ∧ (footD env ops i o slot m st).o = o ∧ (footD env ops i o slot m st).mask = m := by
  unfold footD; split <;> exact ⟨rfl, rfl, rfl⟩

theorem Lined.get {ops : Array Oper} {l : List Oper} {i : Nat} {masks : List Nat} {slot : Nat} {acc : List Foot} {st : St} {acc' : List Foot} {fin : St} {ss : List St} (h : Lined P env ops l i masks slot acc st acc' fin ss) :
    ∃ fs : List Foot, fs.length = l.length ∧ ss.length = l.length ∧ acc' = fs.reverse ++ acc ∧ (ss ++ [fin])[0]? = some st ∧
      ∀ k o, l[k]? = some o → ∃ f s s' sl, fs[k]? = some f ∧ (ss ++ [fin])[k]? = some s ∧ (ss ++ [fin])[k + 1]? = some s' ∧ stepD P env ops o sl s = some s' ∧
        f = footD env ops (i + k) o sl (maskOf (masks ++ (fs.take k).map (·.mask)) o.after.toList) s := by
  induction h with
  | nil => exact ⟨[], rfl, rfl, rfl, rfl, fun k o h => by simp at h⟩
  | @cons o l i masks slot acc st st' acc' fin ss h1 _ ih =>
    obtain ⟨fs, g1, g2, g3, g4, g5⟩ := ih
    refine ⟨footD env ops i o slot (maskOf masks o.after.toList) st :: fs, by simp [g1], by simp [g2], by rw [g3]; simp, rfl, fun k q hk => ?_⟩
    cases k with
    | zero =>
      simp only [List.getElem?_cons_zero, Option.some.injEq] at hk
      subst hk
      exact ⟨_, st, st', slot, rfl, rfl, by simpa using g4, h1, by simp⟩
    | succ k =>
      simp only [List.getElem?_cons_succ] at hk
      obtain ⟨f, s, s', sl, e1, e2, e3, e4, e5⟩ := g5 k q hk
      refine ⟨f, s, s', sl, by simpa using e1, by simpa using e2, by simpa using e3, e4, ?_⟩
      rw [e5]
      simp only [List.take_succ_cons, List.map_cons, (footD_spec env ops i o slot _ st).2.2]
      rw [show i + 1 + k = i + (k + 1) by omega]
      simp

theorem apartL_mem {ops : Array Oper} {y : Foot} : ∀ {l : List Foot}, apartL ops y l = true → ∀ x ∈ l, apartF ops x y = true := by
  intro l
  induction l with
  | nil => intro _ x hx; simp at hx
  | cons z l ih =>
    intro h x hx
    simp only [apartL, Bool.and_eq_true] at h
    rcases List.mem_cons.1 hx with rfl | hx
    · exact h.1
    · exact ih h.2 x hx

theorem apartAll_spec {ops : Array Oper} : ∀ {l : List Foot}, apartAll ops l = true → ∀ (p q : List Foot) (y : Foot), l = p ++ y :: q → backOK y.idx y.o.after.toList = true ∧ ∀ x ∈ q, apartF ops x y = true := by
  intro l
  induction l with
  | nil => intro _ p q y e; simp at e
  | cons z l ih =>
    intro h p q y e
    simp only [apartAll, Bool.and_eq_true] at h
    cases p with
    | nil =>
      simp only [List.nil_append, List.cons.injEq] at e
      obtain ⟨rfl, rfl⟩ := e
      exact ⟨h.1.1, apartL_mem h.1.2⟩
    | cons u p =>
      simp only [List.cons_append, List.cons.injEq] at e
      exact ih h.2 p q y e.2

theorem apartAll_get {ops : Array Oper} {fs : List Foot} (h : apartAll ops fs.reverse = true) {j : Nat} {y : Foot} (hj : fs[j]? = some y) : backOK y.idx y.o.after.toList = true ∧ ∀ i x, i < j → fs[i]? = some x → apartF ops x y = true := by
  obtain ⟨hlt, hy⟩ := List.getElem?_eq_some_iff.1 hj
  have e : fs = fs.take j ++ y :: fs.drop (j + 1) := by
    rw [← hy]
    simp
  have e2 : fs.reverse = (fs.drop (j + 1)).reverse ++ y :: (fs.take j).reverse := by
    conv => lhs; rw [e]
    simp
  obtain ⟨h1, h2⟩ := apartAll_spec h _ _ _ e2
  refine ⟨h1, fun i x hi hx => h2 x ?_⟩
  simp only [List.mem_reverse]
  exact List.mem_of_getElem? (i := i) (by rw [List.getElem?_take, if_pos hi]; exact hx)

theorem backOK_mem {i : Nat} : ∀ {l : List Edge}, backOK i l = true → ∀ e ∈ l, Region.binds .any e = true → e.on < i := by
  intro l
  induction l with
  | nil => intro _ e he; simp at he
  | cons z l ih =>
    intro h e he hb
    simp only [backOK, Bool.and_eq_true, Bool.or_eq_true, Bool.not_eq_true'] at h
    rcases List.mem_cons.1 he with rfl | he
    · rcases h.1 with h1 | h1
      · rw [hb] at h1; cases h1
      · simpa [Nat.blt_eq] using h1
    · exact ih h.2 e he hb

theorem nthN_eq : ∀ (l : List Nat) (n : Nat), nthN l n = l.getD n 0 := by
  intro l
  induction l with
  | nil => intro n; rfl
  | cons a l ih => intro n; cases n with
    | zero => rfl
    | succ n => exact (ih n).trans (by simp)

theorem maskOf_test {masks : List Nat} {i : Nat} : ∀ {l : List Edge}, (maskOf masks l).testBit i = true → ∃ e ∈ l, Region.binds .any e = true ∧ (e.on = i ∨ (nthN masks e.on).testBit i = true) := by
  intro l
  induction l with
  | nil => intro h; simp [maskOf] at h
  | cons z l ih =>
    intro h
    simp only [maskOf] at h
    split at h
    · rename_i hb
      simp only [Nat.testBit_or, Bool.or_eq_true] at h
      rcases h with (h | h) | h
      · exact ⟨z, by simp, hb, .inl (by simpa [Nat.testBit_two_pow] using h)⟩
      · exact ⟨z, by simp, hb, .inr h⟩
      · obtain ⟨e, h1, h2⟩ := ih h
        exact ⟨e, by simp [h1], h2⟩
    · obtain ⟨e, h1, h2⟩ := ih h
      exact ⟨e, by simp [h1], h2⟩

theorem apart_mem {l m : List Nat} (h : apart l m = true) {i : Nat} (h1 : i ∈ l) (h2 : i ∈ m) : False := by
  unfold apart at h
  induction l with
  | nil => simp at h1
  | cons x l ih =>
    simp only [allB, Bool.and_eq_true, Bool.not_eq_true'] at h
    rcases List.mem_cons.1 h1 with rfl | h1
    · have := h.1
      rw [List.any_eq_false] at this
      exact this i h2 (by simp)
    · exact ih h.2 h1

theorem apartT_spec {ops : Array Oper} {x y : Oper} (h : apartT ops x y = true) : (∀ d, x.dst = some d → d ∉ looksTmps ops y ∧ y.dst ≠ some d) ∧ (∀ d, y.dst = some d → d ∉ looksTmps ops x) := by
  unfold apartT at h
  simp only [Bool.and_eq_true] at h
  have nb : ∀ {l : List Nat} {d : Nat}, (!(l.any (Nat.beq d))) = true → d ∉ l := by
    intro l d hl hd
    simp only [Bool.not_eq_true', List.any_eq_false] at hl
    exact hl d hd (by simp)
  refine ⟨fun d hd => ?_, fun d hd => ?_⟩
  · have h1 := h.1
    rw [hd] at h1
    simp only [Bool.and_eq_true] at h1
    refine ⟨nb h1.1, fun e => ?_⟩
    have h2 := h1.2
    rw [e] at h2
    simp at h2
  · have h1 := h.2
    rw [hd] at h1
    exact nb h1

theorem free_of {ops : Array Oper} {x y : Foot} (h1 : apartT ops x.o y.o = true) (h2 : apart x.w y.r = true) (h3 : apart x.w y.w = true) (h4 : apart y.w x.r = true) : Free ops x y := by
  obtain ⟨a1, a2⟩ := apartT_spec h1
  intro l
  cases l with
  | tmp t => exact ⟨fun ⟨hw, h⟩ => by rcases h with h | h; exact (a1 t hw).1 h; exact (a1 t hw).2 h, fun ⟨h, hw⟩ => a2 t hw h⟩
  | blk i => exact ⟨fun ⟨hw, h⟩ => by rcases h with h | h; exact apart_mem h2 hw h; exact apart_mem h3 hw h, fun ⟨h, hw⟩ => apart_mem h4 hw h⟩

theorem listed_of {ops : Array Oper} {slot : Nat} {st : St} {acc' : List Foot} {fin : St} {ss : List St} (h : Lined P env ops ops.toList 0 [] slot [] st acc' fin ss) (hap : apartAll ops acc' = true) :
    ∃ s F sl, Listed P env ops s F sl ∧ s 0 = st ∧ s ops.size = fin := by
  obtain ⟨fs, g1, g2, g3, g4, g5⟩ := h.get
  simp only [List.append_nil] at g3
  subst g3
  have hsk : ∀ k, ∃ sl, ∀ o, ops[k]? = some o → ∃ f s s', fs[k]? = some f ∧ (ss ++ [fin])[k]? = some s ∧ (ss ++ [fin])[k + 1]? = some s' ∧ stepD P env ops o sl s = some s' ∧
        f = footD env ops k o sl (maskOf ((fs.take k).map (·.mask)) o.after.toList) s := by
    intro k
    cases ho : ops[k]? with
    | none => exact ⟨0, fun o h => by simp at h⟩
    | some o =>
      obtain ⟨f, s, s', sl, e⟩ := g5 k o (by simpa using ho)
      exact ⟨sl, fun q hq => by cases hq; exact ⟨f, s, s', by simpa using e⟩⟩
  obtain ⟨sl, hsl⟩ := Classical.skolem.1 hsk
  let s : Nat → St := fun k => ((ss ++ [fin])[k]?).getD fin
  let F : Nat → Foot := fun k => (fs[k]?).getD ⟨0, default, [], [], 0⟩
  have hF : ∀ k o, ops[k]? = some o → fs[k]? = some (F k) ∧ (F k).idx = k ∧ (F k).o = o ∧ (F k).mask = maskOf ((fs.take k).map (·.mask)) o.after.toList := by
    intro k o ho
    obtain ⟨f, u, _, e1, _, _, _, e5⟩ := hsl k o ho
    have e : F k = f := by simp [F, e1]
    rw [e]
    obtain ⟨a1, a2, a3⟩ := footD_spec env ops k o (sl k) (maskOf ((fs.take k).map (·.mask)) o.after.toList) u
    rw [e5]
    exact ⟨by rw [← e5]; exact e1, a1, a2, a3⟩
  have hback : ∀ k o, ops[k]? = some o → ∀ e ∈ o.after.toList, Region.binds .any e = true → e.on < k := by
    intro k o ho e he hb
    obtain ⟨f1, f2, f3, _⟩ := hF k o ho
    have := (apartAll_get hap f1).1
    rw [f2, f3] at this
    exact backOK_mem this e he hb
  have hanc : ∀ j, j < ops.size → ∀ i, (F j).mask.testBit i = true → ∀ D, Closed ops D → D j → D i := by
    intro j
    induction j using Nat.strongRecOn with
    | _ j ih =>
      intro hj i hm D hD hDj
      have ho : ops[j]? = some ops[j] := by simp [hj]
      obtain ⟨_, _, _, f4⟩ := hF j _ ho
      rw [f4] at hm
      obtain ⟨e, he, hb, h⟩ := maskOf_test hm
      have hlt := hback j _ ho e he hb
      have hDe := hD j _ ho hDj e he hb
      rcases h with h | h
      · rw [← h]; exact hDe
      · have ho2 : ops[e.on]? = some (ops[e.on]'(by omega)) := by simp [show e.on < ops.size by omega]
        obtain ⟨k1, _⟩ := hF e.on _ ho2
        refine ih e.on hlt (by omega) i ?_ D hD hDe
        rw [nthN_eq] at h
        have : ((fs.take j).map (·.mask)).getD e.on 0 = (F e.on).mask := by
          simp only [List.getD, List.getElem?_map, List.getElem?_take, hlt, if_true, k1, Option.map_some, Option.getD_some]
        rw [this] at h
        exact h
  refine ⟨s, F, sl, ⟨fun k o ho => ?_, hback, fun i j hij hj => ?_⟩, by show ((ss ++ [fin])[0]?).getD fin = st; rw [g4]; rfl, ?_⟩
  · obtain ⟨f, u, u', e1, e2, e3, e4, e5⟩ := hsl k o ho
    have e : F k = f := by simp [F, e1]
    have es : s k = u := by simp [s, e2]
    have es' : s (k + 1) = u' := by simp [s, e3]
    rw [e, es, es']
    exact ⟨e4, _, e5⟩
  · have hoj : ops[j]? = some ops[j] := by simp [hj]
    have hoi : ops[i]? = some (ops[i]'(by omega)) := by simp [show i < ops.size by omega]
    obtain ⟨fj1, _⟩ := hF j _ hoj
    obtain ⟨fi1, fi2, _⟩ := hF i _ hoi
    have h := (apartAll_get hap fj1).2 i _ hij fi1
    unfold apartF at h
    simp only [Bool.or_eq_true, Bool.and_eq_true] at h
    rcases h with h | h
    · rw [fi2] at h
      exact .inl (hanc j hj i h)
    · exact .inr (free_of h.1.1.1 h.1.1.2 h.1.2 h.2)
  · have : ss.length = ops.size := by simpa using g2
    simp [s, ← this]

theorem Sim.draw (hs : Sim N Hd S0 w0 ρ S st a sv w) : Sim N Hd S0 w0 ρ S st a sv { w with drawn := w.drawn + 1 } :=
  hs.later (w' := { w with drawn := w.drawn + 1 }) ⟨fun _ _ => rfl, Nat.le_refl _, rfl, rfl, rfl⟩ (fun _ h => h) (fun _ h => .inl h)

/-- a region whose order is drawn -/
theorem drawn_sound (hP : Plain P) (henv : ∀ f F, env f = some F → Sound P f F) {id : Nat} {ops : Array Oper} {Q : Exit → Act → World → Prop} {slot : Nat} {K : List Foot → St → Option R} {r : R} (hm : P.follows .mixedOrders = true)
    (hk : runDr P env ops ops.toList 0 [] slot [] st (fun acc st => match apartAll ops acc with | true => K acc st | false => none) = some r) (hs : Sim N Hd S0 w0 ρ S st a sv w)
    (hQ : ∀ acc st' ρ' S' a' w', K acc st' = some r → Sim N Hd S0 w0 ρ' S' st' a' sv w' → Q .normal a' w') : (Code.region id ops true).wp P Q a w := by
  obtain ⟨acc', fin, ss, h1, h2⟩ := runDr_lined _ hk
  split at h2
  · rename_i hap
    obtain ⟨s, F, sl, L, e0, en⟩ := listed_of h1 hap
    refine wp_region_any hm (any_sound hP henv L (fun ρ' S' a' w' hs' => hQ acc' fin ρ' S' a' w' h2 (by rw [← en]; exact hs')) ops.size _ (s 0) (by simp) ?_ ?_ ?_ (S := S) (ρ := ρ) ?_)
    · have : (Array.replicate ops.size false).toList = List.replicate ops.size false := by simp
      rw [this]
      simp
    · intro k o _ hk e he hb
      simp [Array.getD_eq_getD_getElem?, Array.getElem?_replicate] at hk
      split at hk <;> simp at hk
    · refine ⟨⟨rfl, rfl, rfl⟩, fun x m hm' hw => ?_⟩
      have hno : ∀ i, ¬ ((Array.replicate ops.size false).getD i false = true) := by
        intro i hk
        simp [Array.getD_eq_getD_getElem?, Array.getElem?_replicate] at hk
        split at hk <;> simp at hk
      refine (L.span (Nat.zero_le _) hm' fun i _ h2 h3 => ?_).symm
      exact hno i ((hw i (by omega) h3).1 h2)
    · rw [e0]
      exact hs.draw
  · cases h2

end Go.Am
