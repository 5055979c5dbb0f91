/-
  AM: what an operation looks at, and what it sets.
-/
import Derived.Test.YtjfgannabdaemaaGreatAm24
set_option linter.all false
namespace Go.Am
set_option linter.unusedSimpArgs false

variable {R : Type} {P : Program} {st st2 : St} {H H' : Heap}

/-- alike at some blocks -/
def Eqv (l : List Nat) (H H' : Heap) : Prop := ∀ i ∈ l, nthB H' i = nthB H i

theorem Eqv.sub {l m : List Nat} (h : Eqv l H H') (hs : ∀ i ∈ m, i ∈ l) : Eqv m H H' := fun i hi => h i (hs i hi)

theorem get_congr : ∀ (p : List Step) (v : AV), v.get H' p = v.get H p := by
  intro p
  induction p with
  | nil => intro v; cases v <;> rfl
  | cons s p ih =>
    intro v
    cases s with
    | fld k => cases v <;> simp only [AV.get, ih]
    | idx i => cases v <;> simp only [AV.get, ih]

theorem load_congr {id : Nat} (h : nthB H' id = nthB H id) (p : List Step) : load H' id p = load H id p := by
  unfold load
  rw [h]
  simp only [get_congr (H := H) (H' := H')]

theorem rowOf_congr {id : Nat} (h : nthB H' id = nthB H id) (t : Ty) : rowOf H' id t = rowOf H id t := by unfold rowOf; rw [h]

theorem deep_congr : ∀ (t : Ty) (v : AV), Eqv v.rows H H' → deep H' t v = deep H t v := by
  intro t
  induction t with
  | pair a b iha ihb =>
    intro v h
    cases v <;> try rfl
    rename_i x y
    simp only [deep]
    rw [iha x (h.sub fun i hi => by simp [AV.rows, hi]), ihb y (h.sub fun i hi => by simp [AV.rows, hi])]
  | sl t _ =>
    intro v h
    cases v <;> try rfl
    rename_i id off len full
    simp only [deep]
    rw [rowOf_congr (h id (by simp [AV.rows]))]
  | fr t _ =>
    intro v h
    cases v <;> try rfl
    rename_i id off len full
    cases off <;> cases full <;> simp only [deep]
    rw [rowOf_congr (h id (by simp [AV.rows]))]
  | _ => intro v h; cases v <;> rfl

theorem putD_congr {v : AV} (h : Eqv v.rows H H') : ∀ (t : Ty) (p : List Step) (x : t.den), putD H' t x p v = putD H t x p v := by
  intro t
  induction t with
  | pair a b iha ihb =>
    intro p x
    cases p with
    | nil => simp only [putD]; exact deep_congr _ _ h
    | cons s p =>
      cases s with
      | fld k => cases k with
        | zero => simp only [putD, iha]
        | succ k => simp only [putD, ihb]
      | idx i => simp only [putD]
  | arr n t ih =>
    intro p x
    cases p with
    | nil => simp only [putD]; exact deep_congr _ _ h
    | cons s p => cases s with
      | fld k => simp only [putD]
      | idx i => simp only [putD, ih]
  | _ =>
    intro p x
    cases p with
    | nil => simp only [putD]; exact deep_congr _ _ h
    | cons s p => cases s <;> simp only [putD]

theorem put_congr {v : AV} (h : Eqv v.rows H H') : ∀ (p : List Step) (u : AV), u.put H' p v = u.put H p v := by
  intro p
  induction p with
  | nil => intro u; cases u <;> rfl
  | cons s p ih =>
    intro u
    cases s with
    | fld k => cases u <;> simp only [AV.put, ih]
    | idx i => cases u <;> simp only [AV.put, putD_congr h]

theorem partsIn_congr {step : Nat → Step} {ok : Nat → AV → AV → Bool} : ∀ (l : List (Nat × Operand)) (v : AV), (∀ p ∈ l, st2.eval p.2 = st.eval p.2) → Eqv (rowsIn st l) st.heap st2.heap → partsIn st2 v step ok l = partsIn st v step ok l := by
  intro l
  induction l with
  | nil => intro v _ _; rfl
  | cons x l ih =>
    intro v he hr
    obtain ⟨i, x⟩ := x
    simp only [partsIn]
    rw [he (i, x) (by simp), put_congr (hr.sub fun j hj => by simp [rowsIn, hj])]
    have := fun u => ih u (fun p hp => he p (by simp [hp])) (hr.sub fun j hj => by simp [rowsIn, hj])
    simp only [this]

theorem partsRow_congr {T : Ty} : ∀ (l : List (Nat × Operand)) (v : List T.den), (∀ p ∈ l, st2.eval p.2 = st.eval p.2) → Eqv (rowsIn st l) st.heap st2.heap → partsRow st2 T v l = partsRow st T v l := by
  intro l
  induction l with
  | nil => intro v _ _; rfl
  | cons x l ih =>
    intro v he hr
    obtain ⟨i, x⟩ := x
    simp only [partsRow]
    rw [he (i, x) (by simp), deep_congr T _ (hr.sub fun j hj => by simp [rowsIn, hj])]
    have := fun u => ih u (fun p hp => he p (by simp [hp])) (hr.sub fun j hj => by simp [rowsIn, hj])
    simp only [this]

theorem rowsIn_congr : ∀ (l : List (Nat × Operand)), (∀ p ∈ l, st2.eval p.2 = st.eval p.2) → rowsIn st2 l = rowsIn st l := by
  intro l
  induction l with
  | nil => intro _; rfl
  | cons x l ih =>
    intro he
    obtain ⟨i, x⟩ := x
    simp only [rowsIn]
    rw [he (i, x) (by simp), ih fun p hp => he p (by simp [hp])]

/-! ## What is set -/

/-- blocks W alone are set, as they were -/
structure Patch (W : List Nat) (φ : Heap → Heap) : Prop where
  len : ∀ H, (φ H).length = H.length
  off : ∀ H i, i ∉ W → nthB (φ H) i = nthB H i
  on : ∀ H H', H'.length = H.length → Eqv W H H' → Eqv W (φ H) (φ H')

theorem Patch.id (W : List Nat) : Patch W (fun H => H) := ⟨fun _ => rfl, fun _ _ _ => rfl, fun _ _ _ h => h⟩

theorem freeze_congr : ∀ (l : List Nat) {i : Nat} {H H' : Heap}, nthB H' i = nthB H i → nthB (freeze H' l) i = nthB (freeze H l) i := by
  intro l
  induction l with
  | nil => intro i H H' h; exact h
  | cons j l ih =>
    intro i H H' h
    show nthB (freeze (freeze1 H' j) l) i = nthB (freeze (freeze1 H j) l) i
    apply ih
    rw [freeze1_nth, freeze1_nth, h]

theorem Patch.freeze (l : List Nat) : Patch l (fun H => Am.freeze H l) :=
  ⟨fun H => freeze_length l H, fun H i hi => freeze_other l H i hi, fun _ _ _ h i hi => freeze_congr l (h i hi)⟩

theorem Patch.set (i : Nat) (b : Blk) : Patch [i] (fun H => setBlk H i b) :=
  ⟨fun H => by simp [setBlk, setR_eq], fun H j hj => nthB_set_ne (by simpa using hj), fun H H' hl h j hj => by
    obtain rfl : j = i := by simpa using hj
    simp only [setBlk, nthB_set]
    rw [hl, h j (by simp)]⟩

theorem Patch.comp {W : List Nat} {φ ψ : Heap → Heap} (h : Patch W φ) (k : Patch W ψ) : Patch W (fun H => ψ (φ H)) :=
  ⟨fun H => (k.len _).trans (h.len _), fun H i hi => (k.off _ i hi).trans (h.off _ i hi), fun H H' hl he => k.on _ _ (by rw [h.len, h.len, hl]) (h.on _ _ hl he)⟩

theorem Patch.more {W W' : List Nat} {φ : Heap → Heap} (h : Patch W φ) (hs : ∀ i ∈ W, i ∈ W') : Patch W' φ :=
  ⟨h.len, fun H i hi => h.off H i fun hw => hi (hs i hw), fun H H' hl he i hi => by
    by_cases hw : i ∈ W
    · exact h.on H H' hl (he.sub hs) i hw
    · rw [h.off _ i hw, h.off _ i hw]; exact he i hi⟩

/-- what an operation does, at two states that are alike where it looks -/
def Does (W : List Nat) (st st2 : St) (F : (R : Type) → St → (AV → St → Option R) → Option R) : Prop :=
  ∃ val : Option (AV × (Heap → Heap)), (∀ p, val = some p → Patch W p.2) ∧
    (∀ (R : Type) (K : AV → St → Option R), F R st K = obind val fun p => K p.1 { st with heap := p.2 st.heap }) ∧
    (∀ (R : Type) (K : AV → St → Option R), F R st2 K = obind val fun p => K p.1 { st2 with heap := p.2 st2.heap })

theorem Does.val {W : List Nat} {F : (R : Type) → St → (AV → St → Option R) → Option R} (val : Option AV) (h1 : ∀ (R : Type) (K : AV → St → Option R), F R st K = obind val fun v => K v st)
    (h2 : ∀ (R : Type) (K : AV → St → Option R), F R st2 K = obind val fun v => K v st2) : Does W st st2 F :=
  ⟨val.map fun v => (v, fun H => H), fun p hp => by
      cases val with
      | none => cases hp
      | some v => cases hp; exact Patch.id W,
    fun R K => by rw [h1]; cases val <;> rfl, fun R K => by rw [h2]; cases val <;> rfl⟩

theorem Does.none {W : List Nat} {F : (R : Type) → St → (AV → St → Option R) → Option R} (h1 : ∀ (R : Type) (K : AV → St → Option R), F R st K = .none) (h2 : ∀ (R : Type) (K : AV → St → Option R), F R st2 K = .none) : Does W st st2 F :=
  Does.val .none h1 h2

theorem Does.one {W : List Nat} {F : (R : Type) → St → (AV → St → Option R) → Option R} (v : AV) (φ : Heap → Heap) (hp : Patch W φ) (h1 : ∀ (R : Type) (K : AV → St → Option R), F R st K = K v { st with heap := φ st.heap })
    (h2 : ∀ (R : Type) (K : AV → St → Option R), F R st2 K = K v { st2 with heap := φ st2.heap }) : Does W st st2 F :=
  ⟨some (v, φ), fun p h => by cases h; exact hp, h1, h2⟩

end Go.Am
