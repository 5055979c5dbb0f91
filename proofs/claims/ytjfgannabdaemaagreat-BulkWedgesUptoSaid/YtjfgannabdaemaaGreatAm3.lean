/-
  AM, fourth text: how the relations are carried from one state to the next.
-/
import Derived.Test.YtjfgannabdaemaaGreatAm2
set_option linter.all false
namespace Go.Am

/-- from one state to another, for all that speaks of Ok alone -/
structure Carry (Ok : Nat → Prop) (ρ : Emb) (S : Nat → Prop) (w : World) (H : Heap) (ρ' : Emb) (S' : Nat → Prop) (w' : World) (H' : Heap) : Prop where
  emb : ∀ i, Ok i → nthB H i ≠ none → ρ' i = ρ i
  off : ∀ i, Ok i → nthB H i ≠ none → offB H' i = offB H i
  row : ∀ i, Ok i → nthB H i ≠ none → rowInfo H' i = rowInfo H i
  map : ∀ i, Ok i → nthB H i ≠ none → mapInfo H' i = mapInfo H i
  stay : ∀ b, S b → S' b
  same : ∀ b, S b → w'.heap[b]? = w.heap[b]?
  size : ∀ i b base c e fz, Ok i → ρ i = some (b, base) → w.heap[b]? = some (.cells c e fz) → ∃ c' e' fz', w'.heap[b]? = some (.cells c' e' fz') ∧ c'.size = c.size

section
variable {Ok : Nat → Prop} {ρ ρ' : Emb} {S S' : Nat → Prop} {w w' : World} {H H' : Heap}

theorem offB_there {i : Nat} {p : List Step} {o : Nat} (h : offB H i p = some o) : nthB H i ≠ none := by
  intro e; unfold offB at h; rw [e] at h; simp at h

theorem rowInfo_there {i : Nat} {x} (h : rowInfo H i = some x) : nthB H i ≠ none := by
  intro e; unfold rowInfo at h; rw [e] at h; simp at h

theorem mapInfo_there {i : Nat} (h : (mapInfo H i).isSome) : nthB H i ≠ none := by
  intro e; unfold mapInfo at h; rw [e] at h; simp at h

theorem InRow.carry (k : Carry Ok ρ S w H ρ' S' w' H') {id off len : Nat} {full : Bool} {a : Option Addr} {cap : Nat} (ho : Ok id) (h : InRow ρ w H id off len full a cap) :
    InRow ρ' w' H' id off len full a cap := by
  obtain ⟨t, n, r, hi, h1, h2, h3⟩ := h
  have ht := rowInfo_there hi
  refine ⟨t, n, r, (k.row id ho ht).trans hi, h1, h2, ?_⟩
  rcases h3 with ⟨b, base, c, e, fz, hr, ha, ha', hc, h4, h5⟩ | ⟨hr, h4⟩
  · obtain ⟨c', e', fz', hc', hs⟩ := k.size id b base c e fz ho hr hc
    exact .inl ⟨b, base, c', e', fz', (k.emb id ho ht).trans hr, ha, ha', hc', by omega, h5⟩
  · exact .inr ⟨(k.emb id ho ht).trans hr, h4⟩

theorem Rel.carry (k : Carry Ok ρ S w H ρ' S' w' H') : ∀ (v : AV) {m : Bool} {cs : List Value}, v.on Ok → Rel ρ S w H v m cs → Rel ρ' S' w' H' v m cs := by
  have hl : ∀ (t : Ty) {x : t.den} {cs : List Value}, LV S w t x cs → LV S' w' t x cs := fun t => LV.mono k.stay k.same t
  intro v
  induction v with
  | pair a b iha ihb =>
    intro m cs ho h
    cases m with
    | true => obtain ⟨c, d, rfl, h1, h2⟩ := h; exact ⟨c, d, rfl, iha ho.1 h1, ihb ho.2 h2⟩
    | false =>
      obtain ⟨v, d, rfl, h1, h2⟩ := h
      refine ⟨v, d, rfl, h1.imp id fun h1 => ?_, ihb ho.2 h2⟩
      cases hg : a.isAgg <;> rw [hg] at h1
      · exact iha ho.1 h1
      · obtain ⟨c, rfl, h3⟩ := h1; exact ⟨c, rfl, iha ho.1 h3⟩
  | unit => intro m cs _ h; cases m <;> exact h
  | dead => intro m cs _ h; cases m <;> exact h
  | int q n => intro m cs _ h; cases m <;> exact h
  | bool b => intro m cs _ h; cases m <;> exact h
  | str s => intro m cs _ h; cases m <;> exact h
  | nilsl => intro m cs _ h; cases m <;> exact h
  | nilptr => intro m cs _ h; cases m <;> exact h
  | nilfunc => intro m cs _ h; cases m <;> exact h
  | nilmap => intro m cs _ h; cases m <;> exact h
  | dsl t l tight =>
    intro m cs _ h
    cases m
    · exact h
    · obtain ⟨a, cap, rfl, h1, h2, h3⟩ := h
      exact ⟨a, cap, rfl, h1, h2, h3.mono k.stay k.same fun _ _ h => hl t h⟩
  | lsl id off len full =>
    intro m cs ho h
    cases m
    · exact h
    · obtain ⟨a, cap, rfl, h1⟩ := h; exact ⟨a, cap, rfl, h1.carry k ho⟩
  | dar n t l => intro m cs _ h; cases m; exact h; exact hl (.arr n t) h
  | ptr id p =>
    intro m cs ho h
    cases m
    · exact h
    · obtain ⟨b, base, o, h1, h2, rfl⟩ := h
      have ht := offB_there h2
      exact ⟨b, base, o, (k.emb id ho ht).trans h1, (congrFun (k.off id ho ht) p).trans h2, rfl⟩
  | rptr v ih =>
    intro m cs ho h
    cases m
    · exact h
    · obtain ⟨b, o, vs, rfl, h1, h2, h3⟩ := h
      exact ⟨b, o, vs, rfl, k.stay b h1, ih ho h2, h3.keep (k.same b h1)⟩
  | func f c ih => intro m cs ho h; cases m; exact h; obtain ⟨vs, rfl, h1⟩ := h; exact ⟨vs, rfl, ih ho h1⟩
  | tup v ih => intro m cs ho h; cases m; exact h; obtain ⟨vs, rfl, h1⟩ := h; exact ⟨vs, rfl, ih ho h1⟩
  | map id =>
    intro m cs ho h
    cases m
    · exact h
    · obtain ⟨b, h1, h2, rfl⟩ := h
      have ht := mapInfo_there h2
      exact ⟨b, (k.emb id ho ht).trans h1, by rw [k.map id ho ht]; exact h2, rfl⟩
  | iter0 =>
    intro m cs _ h
    cases m
    · exact h
    · obtain ⟨b, x, y, z, rfl, h1, h2⟩ := h; exact ⟨b, x, y, z, rfl, k.stay b h1, (k.same b h1).trans h2⟩

theorem VR.carry (k : Carry Ok ρ S w H ρ' S' w' H') {v : AV} {x : Value} (ho : v.on Ok) (h : VR ρ S w H v x) : VR ρ' S' w' H' v x := by
  unfold VR at h ⊢
  cases hg : v.isAgg <;> cases v <;> first
    | trivial
    | (simp only [AV.isAgg] at hg; cases hg; done)
    | (simp only [AV.isAgg] at h ⊢; first | exact Rel.carry k _ ho h | (obtain ⟨c, rfl, h⟩ := h; exact ⟨c, rfl, Rel.carry k _ ho h⟩))

theorem AV.on_under {n : Nat} : ∀ {v : AV}, v.under n = true → v.on (· < n) := by
  intro v
  induction v with
  | pair a b iha ihb => intro h; simp only [AV.under, Bool.and_eq_true] at h; exact ⟨iha h.1, ihb h.2⟩
  | lsl id o l f => intro h; simpa [AV.under, AV.on, Nat.blt_eq] using h
  | ptr id p => intro h; simpa [AV.under, AV.on, Nat.blt_eq] using h
  | rptr v ih => intro h; exact ih h
  | func f c ih => intro h; exact ih h
  | tup v ih => intro h; exact ih h
  | map id => intro h; simpa [AV.under, AV.on, Nat.blt_eq] using h
  | _ => intro _; trivial

theorem AV.on_true : ∀ v : AV, v.on (fun _ => True) := by
  intro v
  induction v with
  | pair a b iha ihb => exact ⟨iha, ihb⟩
  | rptr v ih => exact ih
  | func f c ih => exact ih
  | tup v ih => exact ih
  | _ => trivial

theorem AV.isAgg_kill (k : Nat) : ∀ v : AV, (v.kill k).isAgg = v.isAgg := by
  intro v; cases v <;> first | rfl | (unfold AV.kill; split <;> rfl)

theorem Rel.kill (k : Nat) : ∀ (v : AV) {m : Bool} {cs : List Value}, Rel ρ S w H v m cs → Rel ρ S w H (v.kill k) m cs := by
  intro v
  induction v with
  | pair a b iha ihb =>
    intro m cs h
    cases m with
    | true => obtain ⟨c, d, rfl, h1, h2⟩ := h; exact ⟨c, d, rfl, iha h1, ihb h2⟩
    | false =>
      obtain ⟨v, d, rfl, h1, h2⟩ := h
      refine ⟨v, d, rfl, h1.imp (fun e => by rw [e]; rfl) fun h1 => ?_, ihb h2⟩
      rw [AV.isAgg_kill]
      cases hg : a.isAgg <;> rw [hg] at h1
      · exact iha h1
      · obtain ⟨c, rfl, h3⟩ := h1; exact ⟨c, rfl, iha h3⟩
  | lsl id o n f =>
    intro m cs h
    unfold AV.kill
    split
    · cases m
      · exact h
      · obtain ⟨a, cap, rfl, _⟩ := h; exact ⟨_, rfl, rfl⟩
    · exact h
  | ptr id p =>
    intro m cs h
    unfold AV.kill
    split
    · cases m
      · exact h
      · obtain ⟨b, base, o, _, _, rfl⟩ := h; exact ⟨_, rfl, rfl⟩
    · exact h
  | map id =>
    intro m cs h
    unfold AV.kill
    split
    · cases m
      · exact h
      · obtain ⟨b, _, _, rfl⟩ := h; exact ⟨_, rfl, rfl⟩
    · exact h
  | rptr v ih => intro m cs h; cases m; exact h; obtain ⟨b, o, vs, rfl, h1, h2, h3⟩ := h; exact ⟨b, o, vs, rfl, h1, ih h2, h3⟩
  | func f c ih => intro m cs h; cases m; exact h; obtain ⟨vs, rfl, h1⟩ := h; exact ⟨vs, rfl, ih h1⟩
  | tup v ih => intro m cs h; cases m; exact h; obtain ⟨vs, rfl, h1⟩ := h; exact ⟨vs, rfl, ih h1⟩
  | _ => intro m cs h; exact h

/-- a single cell's value, unless it is an aggregate -/
theorem VR.of_rel {v : AV} (hg : v.isAgg = false) {x : Value} (h : Rel ρ S w H v true [x]) : VR ρ S w H v x := by
  unfold VR; cases v <;> first | trivial | (simp only [AV.isAgg] at hg ⊢; first | exact h | cases hg)

theorem VR.of_agg {v : AV} (hg : v.isAgg = true) {c : List Value} (h : Rel ρ S w H v true c) : VR ρ S w H v (.agg c.toArray) := by
  unfold VR; cases v <;> first | (simp only [AV.isAgg] at hg; cases hg; done) | exact ⟨c, rfl, h⟩

theorem VR.rel {v : AV} (hg : v.isAgg = false) (hd : v ≠ .dead) {x : Value} (h : VR ρ S w H v x) : Rel ρ S w H v true [x] := by
  unfold VR at h; cases v <;> first | exact absurd rfl hd | (simp only [AV.isAgg] at hg h; first | exact h | cases hg)

theorem VR.agg {v : AV} (hg : v.isAgg = true) {x : Value} (h : VR ρ S w H v x) : ∃ c, x = .agg c.toArray ∧ Rel ρ S w H v true c := by
  unfold VR at h; cases v <;> first | (simp only [AV.isAgg] at hg; cases hg; done) | exact h

theorem VR.kill (k : Nat) {v : AV} {x : Value} (h : VR ρ S w H v x) : VR ρ S w H (v.kill k) x := by
  cases hg : v.isAgg with
  | true =>
    obtain ⟨c, rfl, h1⟩ := VR.agg hg h
    exact VR.of_agg (by rw [AV.isAgg_kill]; exact hg) (h1.kill k)
  | false =>
    by_cases hd : v = .dead
    · subst hd; trivial
    · exact VR.of_rel (by rw [AV.isAgg_kill]; exact hg) ((VR.rel hg hd h).kill k)

theorem Rel.length : ∀ (v : AV) {cs : List Value}, Rel ρ S w H v true cs → cs.length = v.size := by
  intro v
  induction v with
  | pair a b iha ihb => rintro cs ⟨c, d, rfl, h1, h2⟩; simp [AV.size, iha h1, ihb h2]
  | unit => intro cs h; obtain rfl : cs = [] := h; rfl
  | dead => rintro cs ⟨v, rfl, _⟩; rfl
  | int k n => intro cs h; exact LV.length (.int k) h
  | bool b => intro cs h; exact LV.length .bool h
  | str s => intro cs h; exact LV.length .str h
  | nilsl => intro cs h; obtain rfl : cs = _ := h; rfl
  | nilptr => intro cs h; obtain rfl : cs = _ := h; rfl
  | nilfunc => intro cs h; obtain rfl : cs = _ := h; rfl
  | nilmap => intro cs h; obtain rfl : cs = _ := h; rfl
  | dsl t l tt => rintro cs ⟨a, cap, rfl, _⟩; rfl
  | lsl => rintro cs ⟨a, cap, rfl, _⟩; rfl
  | dar n t l => intro cs h; exact LV.length (.arr n t) h
  | ptr => rintro cs ⟨b, base, o, _, _, rfl⟩; rfl
  | rptr => rintro cs ⟨b, o, vs, rfl, _⟩; rfl
  | func => rintro cs ⟨vs, rfl, _⟩; rfl
  | tup => rintro cs ⟨vs, rfl, _⟩; rfl
  | map => rintro cs ⟨b, _, _, rfl⟩; rfl
  | iter0 => rintro cs ⟨b, x, y, z, rfl, _⟩; rfl

/-- a deep value, as the machine has it -/
theorem Rel.inj : ∀ (t : Ty) {x : t.den} {cs : List Value}, LV S w t x cs → Rel ρ S w H (inj t x) true cs := by
  intro t
  induction t with
  | bool => intro x cs h; exact h
  | int k => intro x cs h; exact h
  | str => intro x cs h; exact h
  | unit => intro x cs h; exact h
  | pair a b iha ihb => rintro x cs ⟨c, d, rfl, h1, h2⟩; exact ⟨c, d, rfl, iha h1, ihb h2⟩
  | arr n t _ => intro x cs h; exact h
  | sl t _ => rintro x cs ⟨a, cap, rfl, h1, h2⟩; exact ⟨a, cap, rfl, h1, fun h => by simp at h, h2⟩
  | fr t _ => rintro x cs ⟨a, cap, rfl, h1, h2⟩; exact ⟨a, cap, rfl, h1, fun h => by simp at h, h2⟩

theorem inj_on (Ok : Nat → Prop) : ∀ (t : Ty) (x : t.den), (inj t x).on Ok := by
  intro t
  induction t with
  | pair a b iha ihb => intro x; exact ⟨iha _, ihb _⟩
  | _ => intro x; trivial

theorem isAgg_inj : ∀ (t : Ty) (x : t.den), (inj t x).isAgg = match t with | .unit | .pair .. | .arr .. => true | _ => false := by
  intro t x; cases t <;> rfl

end

end Go.Am
