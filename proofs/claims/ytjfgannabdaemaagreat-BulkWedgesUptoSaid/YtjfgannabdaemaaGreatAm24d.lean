/-
  AM: each operation that may stand in a region whose order is drawn, third part, and all of them.
-/
import Derived.Test.YtjfgannabdaemaaGreatAm24c
set_option linter.all false
namespace Go.Am
set_option linter.unusedSimpArgs false

variable {R : Type} {P : Program} {st st2 : St} {H H' : Heap} {env : FuncId → Option Fn} {slot : Nat} {W : List Nat}

theorem br_obind {c : Bool} {v : AV} {K : AV → Option R} : br c (K v) none = obind (br c (some v) none) K := by cases c <;> rfl
theorem br_obind' {c : Bool} {v : AV} {K : AV → Option R} : br c none (K v) = obind (br c none (some v)) K := by cases c <;> rfl

theorem intBin_lin (op : BinOp) (k : IntKind) (x : Int) (l : IntKind) (y : Int) (K : AV → Option R) : intBin op k x l y K = obind (intBin op k x l y some) K := by
  unfold intBin
  split
  · unfold shiftOp; cases decide (y < 0) <;> rfl
  · unfold shiftOp; cases decide (y < 0) <;> rfl
  · split
    · unfold intOp
      split <;> first | rfl | (cases decide (y = 0) <;> rfl) | (split <;> rfl)
    · rfl

theorem strOp_lin (op : BinOp) (x y : List Int) (K : AV → Option R) : strOp op x y K = obind (strOp op x y some) K := by
  unfold strOp
  split <;> first | rfl | exact br_obind

theorem boolOp_lin (op : BinOp) (t : TypeId) (x y : Bool) (K : AV → Option R) : boolOp P op t x y K = obind (boolOp P op t x y some) K := by
  unfold boolOp
  split
  · split <;> rfl
  · rfl

theorem structOp_lin (op : BinOp) (t : TypeId) (x y : AV) (K : AV → Option R) : structOp P H op t x y K = obind (structOp P H op t x y some) K := by
  unfold structOp
  repeat' (first | rfl | split)

theorem structOp_congr {op : BinOp} {t : TypeId} {x y : AV} {K : AV → Option R} (hx : Eqv x.rows H H') (hy : Eqv y.rows H H') : structOp P H' op t x y K = structOp P H op t x y K := by
  unfold structOp
  split
  · rename_i T _
    rw [deep_congr T x hx, deep_congr T y hy]
  · rfl

theorem does_binOp {op : BinOp} {t : TypeId} {x y : Operand} (h : st2.eval x = st.eval x) (h' : st2.eval y = st.eval y) (hr : Eqv ((st.eval x).rows ++ (st.eval y).rows) st.heap st2.heap)
    (hx : st.eval x ≠ .nilsl) (hy : st.eval y ≠ .nilsl) : Does W st st2 (fun R s K => binAV (R := R) P s.heap op t (s.eval x) (s.eval y) fun v => K v s) := by
  have hs : ∀ (H : Heap), H = st.heap ∨ H = st2.heap → ∀ (R : Type) (K : AV → Option R), binAV P H op t (st.eval x) (st.eval y) K = obind (binAV P st.heap op t (st.eval x) (st.eval y) some) K := by
    intro H hH R K
    have e : ∀ (K : AV → Option AV), structOp P H op t (st.eval x) (st.eval y) K = structOp P st.heap op t (st.eval x) (st.eval y) K := by
      intro K
      rcases hH with rfl | rfl
      · rfl
      · exact structOp_congr (hr.sub fun i hi => by simp [hi]) (hr.sub fun i hi => by simp [hi])
    generalize st.eval x = u at *
    generalize st.eval y = v at *
    have key : structOp P H op t u v K = obind (structOp P st.heap op t u v some) K := by rw [structOp_lin, e]
    cases u with
    | int k a => cases v with
      | int l b => exact intBin_lin _ _ _ _ _ _
      | nilsl => exact absurd rfl hy
      | _ => exact key
    | str a => cases v with
      | str b => exact strOp_lin _ _ _ _
      | nilsl => exact absurd rfl hy
      | _ => exact key
    | bool a => cases v with
      | bool b => exact boolOp_lin _ _ _ _ _
      | nilsl => exact absurd rfl hy
      | _ => exact key
    | nilsl => exact absurd rfl hx
    | _ => cases v with
      | nilsl => exact absurd rfl hy
      | _ => exact key
  exact Does.val (binAV P st.heap op t (st.eval x) (st.eval y) some) (fun R K => hs _ (.inl rfl) _ _) (fun R K => by simp only [h, h']; exact hs _ (.inr rfl) _ _)

theorem does_convert {s d : TypeId} {x : Operand} (h : st2.eval x = st.eval x) (hr : Eqv (st.eval x).rows st.heap st2.heap) (hd : ∀ e, P.underlying d ≠ some (.slice e)) :
    Does W st st2 (fun R z K => convAV (R := R) P s d (z.eval x) z K) := by
  have key : ∀ (z : St), (z = st ∨ z = st2) → ∀ (R : Type) (K : AV → St → Option R), convAV P s d (st.eval x) z K = obind (convAV P s d (st.eval x) st (fun v _ => some v)) fun v => K v z := by
    intro z hz R K
    have e := deep_congr (H := st.heap) (H' := st2.heap) (.sl (.int .u8)) (st.eval x) hr
    have e' : deep z.heap (.sl (.int .u8)) (st.eval x) = deep st.heap (.sl (.int .u8)) (st.eval x) := by
      rcases hz with rfl | rfl
      · rfl
      · exact e
    unfold convAV
    generalize st.eval x = v at *
    cases hs : P.underlying s with
    | none => rfl
    | some us =>
      cases hu : P.underlying d with
      | none => cases us <;> rfl
      | some ud =>
        cases ud with
        | slice e => exact absurd hu (hd e)
        | int k => cases v <;> first | rfl | (cases us <;> rfl)
        | string =>
          cases v with
          | int k n =>
            simp only
            cases decide (0 ≤ n ∧ n < 128) <;> rfl
          | str l => cases us <;> rfl
          | _ =>
            cases us <;> first
              | rfl
              | (rename_i e
                 simp only
                 split
                 · rw [e']
                   split <;> rfl
                 · rfl)
        | _ => cases us <;> cases v <;> rfl
  exact Does.val (convAV P s d (st.eval x) st (fun v _ => some v)) (fun R K => key st (.inl rfl) R K) (fun R K => by simp only [h]; exact key st2 (.inr rfl) R K)

theorem freeze_one (H : Heap) (id : Nat) : freeze H [id] = freeze1 H id := rfl

theorem optInt_congr : ∀ (x : Option Operand), (∀ y ∈ x, st2.eval y = st.eval y) → optInt st2 x = optInt st x := by
  intro x h
  cases x with
  | none => rfl
  | some y => simp only [optInt]; rw [h y (by simp)]

theorem sliceDeep_one {T : Ty} {l : List T.den} {lo hi : Option Int} {φ : Heap → Heap} (hp : Patch W φ) : Does W st st2 (fun R s K => sliceDeep (R := R) T l lo hi none (φ s.heap) s K) := by
  unfold sliceDeep
  simp only
  cases hc : decide (0 ≤ lo.getD 0 ∧ lo.getD 0 ≤ hi.getD l.length ∧ hi.getD l.length ≤ (l.length : Int)) with
  | false => exact Does.none (fun _ _ => rfl) (fun _ _ => rfl)
  | true => exact Does.one _ φ hp (fun _ _ => rfl) (fun _ _ => rfl)

theorem Does.congr {F G : (R : Type) → St → (AV → St → Option R) → Option R} (h : Does W st st2 F) (h1 : ∀ R K, G R st K = F R st K) (h2 : ∀ R K, G R st2 K = F R st2 K) : Does W st st2 G := by
  obtain ⟨v, a, b, c⟩ := h
  exact ⟨v, a, fun R K => (h1 R K).trans (b R K), fun R K => (h2 R K).trans (c R K)⟩

theorem does_sliceAV {t : TypeId} {v : AV} {lo hi : Option Int} (hr : Eqv v.ids st.heap st2.heap) :
    Does v.own st st2 (fun R s K => sliceAV (R := R) P t v lo hi none s K) := by
  unfold sliceAV
  cases v with
  | nilsl =>
    cases hs : isSlice P t with
    | false => exact Does.none (fun _ _ => rfl) (fun _ _ => rfl)
    | true =>
      cases hc : decide (lo.getD 0 = 0 ∧ hi.getD 0 = 0 ∧ (none : Option Int).getD 0 = 0) with
      | false => exact Does.none (fun _ _ => by simp only [hc]; cases hi <;> rfl) (fun _ _ => by simp only [hc]; cases hi <;> rfl)
      | true => exact Does.val (some .nilsl) (fun _ _ => by simp only [hc]; cases hi <;> rfl) (fun _ _ => by simp only [hc]; cases hi <;> rfl)
  | str s =>
    cases hs : isString P t with
    | false => exact Does.none (fun _ _ => rfl) (fun _ _ => rfl)
    | true =>
      simp only
      cases hc : decide (0 ≤ lo.getD 0 ∧ lo.getD 0 ≤ hi.getD s.length ∧ hi.getD s.length ≤ (s.length : Int)) with
      | false => exact Does.none (fun _ _ => rfl) (fun _ _ => rfl)
      | true => exact Does.val (some (.str ((s.take (hi.getD s.length).toNat).drop (lo.getD 0).toNat))) (fun _ _ => rfl) (fun _ _ => rfl)
  | dsl T l tt =>
    cases hs : sliceB P t T with
    | false => exact Does.none (fun _ _ => by simp only [hs]) (fun _ _ => by simp only [hs])
    | true => exact (sliceDeep_one (T := T) (l := l) (lo := lo) (hi := hi) (Patch.id [])).congr (fun _ _ => by simp only [hs]) (fun _ _ => by simp only [hs])
  | rptr u =>
    cases u with
    | dar n T l =>
      cases hs : arrayB P t n T with
      | false => exact Does.none (fun _ _ => by simp only [hs]) (fun _ _ => by simp only [hs])
      | true => exact (sliceDeep_one (T := T) (l := l) (lo := lo) (hi := hi) (Patch.id [])).congr (fun _ _ => by simp only [hs]) (fun _ _ => by simp only [hs])
    | _ => exact Does.none (fun _ _ => rfl) (fun _ _ => rfl)
  | lsl id off len full =>
    have hb' : nthB st2.heap id = nthB st.heap id := hr id (by simp [AV.ids, AV.rows])
    cases hb : nthB st.heap id with
    | none => exact Does.none (fun _ _ => by simp only [hb]) (fun _ _ => by simp only [hb', hb])
    | some b => cases b with
      | row T l f r =>
        cases hs : sliceB P t T with
        | false => exact Does.none (fun _ _ => by simp only [hb, hs]) (fun _ _ => by simp only [hb', hb, hs])
        | true =>
          cases hi with
          | none =>
            cases hc : decide (0 ≤ lo.getD 0 ∧ lo.getD 0 ≤ (len : Int)) with
            | false => exact Does.none (fun _ _ => by simp only [hb, hs, hc]; rfl) (fun _ _ => by simp only [hb', hb, hs, hc]; rfl)
            | true => exact Does.val (some (.lsl id (off + (lo.getD 0).toNat) (len - (lo.getD 0).toNat) full)) (fun _ _ => by simp only [hb, hs, hc]; rfl) (fun _ _ => by simp only [hb', hb, hs, hc]; rfl)
          | some c =>
            cases hc : decide (0 ≤ lo.getD 0 ∧ lo.getD 0 ≤ c ∧ (off : Int) + c ≤ (l.length : Int)) with
            | false => exact Does.none (fun _ _ => by simp only [hb, hs, hc]; rfl) (fun _ _ => by simp only [hb', hb, hs, hc]; rfl)
            | true => exact Does.val (some (.lsl id (off + (lo.getD 0).toNat) (c.toNat - (lo.getD 0).toNat) false)) (fun _ _ => by simp only [hb, hs, hc]; rfl) (fun _ _ => by simp only [hb', hb, hs, hc]; rfl)
      | _ => exact Does.none (fun _ _ => by simp only [hb]) (fun _ _ => by simp only [hb', hb])
  | ptr id p =>
    have hl := load_congr (hr id (by simp [AV.ids])) p
    cases hv : load st.heap id p with
    | none => exact Does.none (fun _ _ => by simp only [hv]) (fun _ _ => by simp only [hl, hv])
    | some v => cases v with
      | dar n T l =>
        cases hs : arrayB P t n T with
        | false => exact Does.none (fun _ _ => by simp only [hv, hs]) (fun _ _ => by simp only [hl, hv, hs])
        | true => exact (sliceDeep_one (T := T) (l := l) (lo := lo) (hi := hi) (Patch.freeze [id])).congr (fun _ _ => by simp only [hv, hs]; rfl) (fun _ _ => by simp only [hl, hv, hs]; rfl)
      | _ => exact Does.none (fun _ _ => by simp only [hv]) (fun _ _ => by simp only [hl, hv])
  | _ => exact Does.none (fun _ _ => rfl) (fun _ _ => rfl)

theorem does_slice {t : TypeId} {x : Operand} {lo hi : Option Operand} (h : st2.eval x = st.eval x) (h1 : ∀ y ∈ lo, st2.eval y = st.eval y) (h2 : ∀ y ∈ hi, st2.eval y = st.eval y) (hr : Eqv (st.eval x).ids st.heap st2.heap) :
    Does (st.eval x).own st st2 (fun _ s K => opSlice P (calmHand env) t x lo hi none slot s K) := by
  unfold opSlice
  have e1 := optInt_congr lo h1
  have e2 := optInt_congr hi h2
  have e0 : ∀ s : St, optInt s none = some none := fun _ => rfl
  cases ha : optInt st lo with
  | none => exact Does.none (fun _ _ => by simp only [ha]) (fun _ _ => by simp only [e1, ha])
  | some a => cases hb : optInt st hi with
    | none => exact Does.none (fun _ _ => by simp only [ha, hb]) (fun _ _ => by simp only [e1, e2, ha, hb])
    | some b => exact (does_sliceAV (P := P) (t := t) (lo := a) (hi := b) hr).congr (fun _ _ => by simp only [ha, hb, e0]) (fun _ _ => by simp only [e1, e2, h, ha, hb, e0])

/-! ## Calls -/

theorem minmax_val {g : Int → Int → Int} {k : IntKind} {n : Int} {r : List AV} : Does W st st2 (fun R s K => match minmax g k n r with | some v => K v s | none => (none : Option R)) :=
  Does.val (minmax g k n r) (fun R K => by cases minmax g k n r <;> rfl) (fun R K => by cases minmax g k n r <;> rfl)

theorem lenAV_congr {t : TypeId} {x : AV} (h : ∀ id, x ≠ .map id) : lenAV P t st2 x = lenAV P t st x := by
  unfold lenAV
  cases hu : P.underlying t with
  | none => rfl
  | some u => cases u <;> cases x <;> first | rfl | exact absurd rfl (h _)

theorem does_len {t : TypeId} {x : AV} (h : ∀ id, x ≠ .map id) : Does W st st2 (fun R s K => match lenAV P t s x with | some n => br (n.ble lim) (K (.int .i64 (n : Nat)) s) none | none => (none : Option R)) := by
  have e := lenAV_congr (P := P) (st := st) (st2 := st2) (t := t) h
  cases hn : lenAV P t st x with
  | none => exact Does.none (fun _ _ => by simp only [hn]) (fun _ _ => by simp only [e, hn])
  | some n => cases hl : n.ble lim with
    | false => exact Does.none (fun _ _ => by simp only [hn, hl]; rfl) (fun _ _ => by simp only [e, hn, hl]; rfl)
    | true => exact Does.val (some (.int .i64 (n : Nat))) (fun _ _ => by simp only [hn, hl]; rfl) (fun _ _ => by simp only [e, hn, hl]; rfl)

theorem does_builtin {b : Builtin} {ts : List TypeId} {args : List AV} (hb : b = .len ∨ b = .cap ∨ b = .min ∨ b = .max) (h : ∀ id, args ≠ [.map id]) :
    Does W st st2 (fun R s K => builtinAV (R := R) P b ts args s K) := by
  rcases hb with rfl | rfl | rfl | rfl
  · cases args with
    | nil => exact Does.none (fun _ _ => rfl) (fun _ _ => rfl)
    | cons x l => cases l with
      | cons _ _ => exact Does.none (fun _ _ => rfl) (fun _ _ => rfl)
      | nil => cases ts with
        | nil => exact Does.none (fun _ _ => rfl) (fun _ _ => rfl)
        | cons t ts => exact does_len (P := P) (t := t) (x := x) fun id e => h id (by rw [e])
  · cases args with
    | nil => exact Does.none (fun _ _ => rfl) (fun _ _ => rfl)
    | cons x l => cases l with
      | cons _ _ => exact Does.none (fun _ _ => by cases x <;> rfl) (fun _ _ => by cases x <;> rfl)
      | nil => cases ts with
        | nil => exact Does.none (fun _ _ => by cases x <;> rfl) (fun _ _ => by cases x <;> rfl)
        | cons t ts =>
          cases x with
          | nilsl => cases hs : isSlice P t with
            | true => exact Does.val (some (.int .i64 0)) (fun _ _ => by simp only [builtinAV, hs]; rfl) (fun _ _ => by simp only [builtinAV, hs]; rfl)
            | false => exact Does.none (fun _ _ => by simp only [builtinAV, hs]) (fun _ _ => by simp only [builtinAV, hs])
          | _ => exact Does.none (fun _ _ => rfl) (fun _ _ => rfl)
  · cases args with
    | nil => exact Does.none (fun _ _ => rfl) (fun _ _ => rfl)
    | cons x l => cases x with
      | int k n => exact (minmax_val (g := min) (k := k) (n := n) (r := l)).congr (fun _ _ => rfl) (fun _ _ => rfl)
      | _ => exact Does.none (fun _ _ => rfl) (fun _ _ => rfl)
  · cases args with
    | nil => exact Does.none (fun _ _ => rfl) (fun _ _ => rfl)
    | cons x l => cases x with
      | int k n => exact (minmax_val (g := max) (k := k) (n := n) (r := l)).congr (fun _ _ => rfl) (fun _ _ => rfl)
      | _ => exact Does.none (fun _ _ => rfl) (fun _ _ => rfl)

theorem frozenAll_congr : ∀ (l : List Nat), Eqv l H H' → frozenAll H' l = frozenAll H l := by
  intro l
  induction l with
  | nil => intro _; rfl
  | cons i l ih =>
    intro h
    unfold frozenAll at ih ⊢
    simp only [allB]
    rw [h i (by simp), ih (h.sub fun j hj => by simp [hj])]

theorem rowsF_congr {F : Fn} {args : List AV} (hr : Eqv (chain args).rows H H') : rowsF F H' args = rowsF F H args := by
  cases F with
  | mth => rfl
  | fn ps res nres f => simp only [rowsF, frozenAll_congr _ hr]

theorem does_calm {F : Fn} {args : List AV} (hr : Eqv (chain args).rows st.heap st2.heap) (hw : ∀ i ∈ rowsF F st.heap args, i ∈ W) : Does W st st2 (fun R s K => callCalm (R := R) F args s K) := by
  have e1 := rowsF_congr (F := F) hr
  cases F with
  | mth => exact Does.none (fun _ _ => rfl) (fun _ _ => rfl)
  | fn ps res nres f =>
    have e2 := deep_congr ps _ hr
    simp only [callCalm]
    cases hc : res.noFr with
    | false => exact Does.none (fun _ _ => rfl) (fun _ _ => rfl)
    | true =>
      cases hp : deep st.heap ps (chain args) with
      | none => exact Does.none (fun _ _ => by simp only [hp]) (fun _ _ => by simp only [e2, hp])
      | some p =>
        cases hq : f p with
        | none => exact Does.none (fun _ _ => by simp only [hp, hq]; rfl) (fun _ _ => by simp only [e2, hp, hq]; rfl)
        | some r => exact Does.one (packR res nres r) (fun H => freeze H (rowsF (.fn ps res nres f) st.heap args)) ((Patch.freeze _).more hw) (fun _ _ => by simp only [hp, hq]; rfl) (fun _ _ => by simp only [e1, e2, hp, hq]; rfl)

theorem chain_rows : ∀ (l : List AV) (i : Nat), i ∈ (chain l).rows ↔ ∃ v ∈ l, i ∈ v.rows := by
  intro l
  induction l with
  | nil => intro i; simp [chain, AV.rows]
  | cons x l ih => intro i; simp [chain, AV.rows, ih]

theorem unchain_rows : ∀ (c : AV) (v : AV), v ∈ unchain c → ∀ i ∈ v.rows, i ∈ c.rows := by
  intro c
  induction c with
  | pair a b _ ih =>
    intro v hv i hi
    simp only [unchain, List.mem_cons] at hv
    rcases hv with rfl | hv
    · simp [AV.rows, hi]
    · simp [AV.rows, ih v hv i hi]
  | _ => intro v hv; simp [unchain] at hv

theorem rowsOps_mem : ∀ (l : List Operand) (i : Nat), i ∈ rowsOps st l ↔ ∃ x ∈ l, i ∈ (st.eval x).rows := by
  intro l
  induction l with
  | nil => intro i; simp [rowsOps]
  | cons x l ih => intro i; simp [rowsOps, ih]

theorem does_value {f : Operand} {c : Call} (h : st2.eval f = st.eval f) (ha : ∀ x ∈ c.args.toList, st2.eval x = st.eval x) (hr : Eqv (rowsOps st c.args.toList ++ (st.eval f).rows) st.heap st2.heap)
    (hw : ∀ g caps F, st.eval f = .func g caps → env g = some F → ∀ i ∈ rowsF F st.heap (c.args.toList.map st.eval ++ unchain caps), i ∈ W) :
    Does W st st2 (fun R s K => match s.eval f with
      | .func g caps => (calmHand (R := R) env).call g (c.args.toList.map s.eval ++ unchain caps) s K
      | _ => none) := by
  have e := evals_congr ha
  cases hf : st.eval f with
  | func g caps =>
    simp only [calmHand]
    cases hg : env g with
    | none => exact Does.none (fun _ _ => by simp only [hf, hg]) (fun _ _ => by simp only [h, hf, hg])
    | some F =>
      refine (does_calm (F := F) (args := c.args.toList.map st.eval ++ unchain caps) (hr.sub fun i hi => ?_) (hw g caps F hf hg)).congr (fun _ _ => by simp only [hf, hg]) (fun _ _ => by simp only [h, hf, hg, e])
      obtain ⟨v, hv, hi⟩ := (chain_rows _ _).1 hi
      rcases List.mem_append.1 hv with hv | hv
      · obtain ⟨x, hx, rfl⟩ := List.mem_map.1 hv
        exact List.mem_append_left _ ((rowsOps_mem _ _).2 ⟨x, hx, hi⟩)
      · rw [hf]; exact List.mem_append_right _ (unchain_rows caps v hv i hi)
  | _ => exact Does.none (fun _ _ => by simp only [hf]) (fun _ _ => by simp only [h, hf])

/-- any of them -/
theorem does_op {o : Op} (hc : calm P o st = true) (he : ∀ x ∈ o.operands.toList, st2.eval x = st.eval x) (hr : Eqv (footR o st ++ footW env o slot st) st.heap st2.heap) :
    Does (footW env o slot st) st st2 (fun _ s K => doOp P (calmHand env) o slot s K) := by
  have hR : Eqv (footR o st) st.heap st2.heap := hr.sub fun i hi => by simp [hi]
  have hW : Eqv (footW env o slot st) st.heap st2.heap := hr.sub fun i hi => by simp [hi]
  cases o with
  | move x => exact Does.val (some (st.eval x)) (fun _ _ => rfl) (fun _ _ => by simp only [doOp]; rw [he x (by simp [Op.operands])]; rfl)
  | assign x => exact Does.val (some (st.eval x)) (fun _ _ => rfl) (fun _ _ => by simp only [doOp]; rw [he x (by simp [Op.operands])]; rfl)
  | pick c x y => exact does_pick (P := P) (env := env) (slot := slot) (he _ (by simp [Op.operands])) (he _ (by simp [Op.operands])) (he _ (by simp [Op.operands]))
  | alloc t => exact does_alloc (env := env)
  | box t x => exact does_box (env := env) (he _ (by simp [Op.operands]))
  | build t ps => exact does_build (P := P) (env := env) (slot := slot) (fun p hp => he _ (by simp only [Op.operands]; exact List.mem_map.2 ⟨p, hp, rfl⟩)) hR
  | buildSlice t n ps => exact does_buildSlice (env := env) (fun p hp => he _ (by simp only [Op.operands]; exact List.mem_map.2 ⟨p, hp, rfl⟩)) hR
  | load t x => exact does_load (P := P) (env := env) (slot := slot) (he _ (by simp [Op.operands])) hR
  | store t x y => exact does_store (P := P) (env := env) (slot := slot) (he _ (by simp [Op.operands])) (he _ (by simp [Op.operands])) hW
  | nilCheck x => exact does_nilCheck (P := P) (env := env) (slot := slot) (he _ (by simp [Op.operands]))
  | unOp op t x => exact does_unOp (he _ (by simp [Op.operands]))
  | sliceToArrayPointer t x => exact does_s2a (P := P) (env := env) (slot := slot) (he _ (by simp [Op.operands])) hR
  | makeSlice t n c => exact does_makeSlice (env := env) (he _ (by simp [Op.operands])) (he _ (by simp [Op.operands]))
  | fieldAddr t x f => exact does_fieldAddr (P := P) (env := env) (slot := slot) (he _ (by simp [Op.operands])) hR
  | field t x f => exact does_field (P := P) (env := env) (slot := slot) (he _ (by simp [Op.operands]))
  | indexAddr t x i => exact does_indexAddr (P := P) (env := env) (slot := slot) (he _ (by simp [Op.operands])) (he _ (by simp [Op.operands])) hR
  | index t x i => exact does_index (P := P) (env := env) (slot := slot) (he _ (by simp [Op.operands])) (he _ (by simp [Op.operands]))
  | extract x i => exact does_extract (P := P) (env := env) (slot := slot) (he _ (by simp [Op.operands]))
  | makeFunc fn first caps =>
    have e : caps.toList.map st2.eval = caps.toList.map st.eval := evals_congr fun x hx => he x (by simp [Op.operands]; right; simpa using hx)
    cases fn with
    | func f =>
      cases hz : first.size with
      | zero => exact Does.val (some (.func f (chain (caps.toList.map st.eval)))) (fun _ _ => by simp only [doOp, hz]; rfl) (fun _ _ => by simp only [doOp, hz, e]; rfl)
      | succ n => exact Does.none (fun _ _ => by simp only [doOp, hz]) (fun _ _ => by simp only [doOp, hz])
    | _ => exact Does.none (fun _ _ => rfl) (fun _ _ => rfl)
  | slice t x lo hi mx =>
    cases mx with
    | some m => simp [calm] at hc
    | none =>
      refine does_slice (P := P) (env := env) (slot := slot) (he _ (by simp [Op.operands])) (fun y hy => he _ ?_) (fun y hy => he _ ?_) hR
      · rw [Option.mem_def] at hy; subst hy; simp [Op.operands]
      · rw [Option.mem_def] at hy; subst hy; simp [Op.operands]
  | binOp op t x y yt =>
    refine does_binOp (he _ (by simp [Op.operands])) (he _ (by simp [Op.operands])) hR ?_ ?_
    · intro e
      simp only [calm, e] at hc
      split at hc <;> simp_all
    · intro e
      simp only [calm, e] at hc
      cases hc
  | convert s d x =>
    refine does_convert (he _ (by simp [Op.operands])) hR fun e h => ?_
    simp only [calm, h] at hc
    cases hc
  | call c =>
    have ha : ∀ x ∈ c.args.toList, st2.eval x = st.eval x := fun x hx => he x (by simp only [Op.operands, Call.operands]; simp; right; simpa using hx)
    have e := evals_congr ha
    cases hcal : c.callee with
    | builtin b =>
      have hb : (b = .len ∨ b = .cap ∨ b = .min ∨ b = .max) ∧ ∀ id, c.args.toList.map st.eval ≠ [.map id] := by
        simp only [calm, hcal] at hc
        cases b <;> first
          | (cases hc; done)
          | (refine ⟨by simp, fun id e => ?_⟩; rw [e] at hc; cases hc)
      exact (does_builtin (P := P) (ts := c.argTypes.toList) hb.1 hb.2).congr (fun _ _ => by simp only [doOp, opCall, hcal]) (fun _ _ => by simp only [doOp, opCall, hcal, e])
    | value f =>
      have hR' : Eqv (rowsOps st c.args.toList ++ (st.eval f).rows) st.heap st2.heap := by
        have := hR
        simp only [footR, hcal] at this
        exact this
      exact (does_value (env := env) (he f (by simp [Op.operands, Call.operands, hcal])) ha hR' (fun g caps F h1 h2 i hi => by simp only [footW, hcal, h1, h2]; exact hi)).congr (fun _ _ => by simp only [doOp, opCall, hcal]; rfl) (fun _ _ => by simp only [doOp, opCall, hcal]; rfl)
    | invoke x m => simp [calm, hcal] at hc
  | _ => simp [calm] at hc

end Go.Am
