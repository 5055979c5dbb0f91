/-
  AM, fifteenth text: rows that are made, aggregates that are built, and stores.
-/
import Derived.Test.YtjfgannabdaemaaGreatAm13
set_option linter.all false
namespace Go.Am
set_option linter.unusedSimpArgs false

variable {R : Type} {P : Program} {N : Nat} {Hd S0 : Nat → Prop} {w0 : World} {ρ : Emb} {S S' : Nat → Prop} {st : St} {a : Act} {sv : List Value} {w : World} {H : Heap}

theorem Carry.refl (ρ : Emb) (S : Nat → Prop) (w : World) (H : Heap) : Carry (fun _ => True) ρ S w H ρ S w H :=
  ⟨fun _ _ _ => rfl, fun _ _ _ => rfl, fun _ _ _ => rfl, fun _ _ _ => rfl, fun _ h => h, fun _ _ => rfl, fun _ _ _ c e fz _ _ h => ⟨c, e, fz, h, rfl⟩⟩

theorem shape_there {ρ1 ρ2 : Emb} {S1 S2 : Nat → Prop} {w1 w2 : World} {H1 H2 : Heap} (k : Carry (fun _ => True) ρ1 S1 w1 H1 ρ2 S2 w2 H2) {i : Nat} (h : nthB H1 i ≠ none) (hit : ∀ kt vt l, nthB H1 i ≠ some (.iter kt vt l)) : nthB H2 i ≠ none := by
  intro e
  cases hb : nthB H1 i with
  | none => exact h hb
  | some q =>
    cases q with
    | var v f =>
      have := k.off i trivial h
      have h1 : offB H2 i [] = none := by unfold offB; rw [e]
      have h2 : offB H1 i [] = some 0 := by unfold offB; rw [hb]; exact offA_nil v
      rw [this, h2] at h1; cases h1
    | row t l f r =>
      have := k.row i trivial h
      have h1 : rowInfo H2 i = none := by unfold rowInfo; rw [e]
      have h2 : rowInfo H1 i = some (t, l.length, r) := by unfold rowInfo; rw [hb]
      rw [this, h2] at h1; cases h1
    | mp kt vt l =>
      have := k.map i trivial h
      have h1 : mapInfo H2 i = none := by unfold mapInfo; rw [e]
      have h2 : mapInfo H1 i = some (kt, vt) := by unfold mapInfo; rw [hb]
      rw [this, h2] at h1; cases h1
    | iter kt vt l => exact hit _ _ _ hb

theorem freeze1_nth (H : Heap) (id i : Nat) : nthB (freeze1 H id) i = match nthB H i with
    | some (.row t l f r) => some (.row t l (f || decide (i = id)) r)
    | some (.var v f) => some (.var v (f || decide (i = id)))
    | b => b := by
  unfold freeze1
  by_cases e : i = id
  · subst e
    cases hb : nthB H i with
    | none => simp [hb]
    | some q => cases q <;> simp [hb, nthB_set, nthB_lt hb]
  · cases hq : nthB H id with
    | none => simp only; cases hb : nthB H i with
      | none => rfl
      | some q => cases q <;> simp [e]
    | some p =>
      have hs : ∀ c, nthB (setR H id c) i = nthB H i := fun c => nthB_set_ne e
      cases p <;> simp only [hs] <;> (cases hb : nthB H i with
        | none => rfl
        | some q => cases q <;> simp [e])

/-- rows made read-only -/
theorem Sim.freeze : ∀ (l : List Nat) {S : Nat → Prop} {st : St} (_ : Sim N Hd S0 w0 ρ S st a sv w), ∃ S', Sim N Hd S0 w0 ρ S' { st with heap := freeze st.heap l } a sv w ∧ Carry (fun _ => True) ρ S w st.heap ρ S' w (freeze st.heap l) ∧
    (∀ id ∈ l, (∃ t k f r, nthB st.heap id = some (.row t k f r)) → ∀ b base, ρ id = some (b, base) → S' b) ∧ (∀ x, S' x → S x ∨ ∃ id ∈ l, ∃ base, ρ id = some (x, base)) := by
  intro l
  induction l with
  | nil => intro S st h; exact ⟨S, h, Carry.refl _ _ _ _, fun id hid => by simp at hid, fun x hx => .inl hx⟩
  | cons i l ih =>
    intro S st h
    obtain ⟨S1, h1, k1, r1, _, l1⟩ := h.freeze1 i
    obtain ⟨S2, h2, k2, r2, l2⟩ := ih h1
    refine ⟨S2, h2, ?_, ?_, ?_⟩
    · exact {
        emb := fun _ _ _ => rfl
        off := fun j _ hj => by
          have hj2 : nthB (Am.freeze1 st.heap i) j ≠ none := by
            rw [freeze1_nth]; cases hb : nthB st.heap j with
            | none => exact absurd hb hj
            | some q => cases q <;> simp
          exact (k2.off j trivial hj2).trans (k1.off j trivial hj)
        row := fun j _ hj => by
          have hj2 : nthB (Am.freeze1 st.heap i) j ≠ none := by
            rw [freeze1_nth]; cases hb : nthB st.heap j with
            | none => exact absurd hb hj
            | some q => cases q <;> simp
          exact (k2.row j trivial hj2).trans (k1.row j trivial hj)
        map := fun j _ hj => by
          have hj2 : nthB (Am.freeze1 st.heap i) j ≠ none := by
            rw [freeze1_nth]; cases hb : nthB st.heap j with
            | none => exact absurd hb hj
            | some q => cases q <;> simp
          exact (k2.map j trivial hj2).trans (k1.map j trivial hj)
        stay := fun b hb => k2.stay b (k1.stay b hb)
        same := fun _ _ => rfl
        size := fun _ _ _ c e fz _ _ h => ⟨c, e, fz, h, rfl⟩ }
    · intro id hid ⟨t, k, f, r, hb⟩ b base hρ
      rcases List.mem_cons.1 hid with rfl | hid
      · exact k2.stay b (r1 t ⟨k, f, r, hb⟩ b base hρ)
      · refine r2 id hid ?_ b base hρ
        show ∃ t k f r, nthB (Am.freeze1 st.heap i) id = some (.row t k f r)
        rw [freeze1_nth, hb]
        exact ⟨t, k, _, r, rfl⟩
    · intro x hx
      rcases l2 x hx with hx | ⟨id, hid, hb⟩
      · rcases l1 x hx with hx | ⟨base, hb⟩
        · exact .inl hx
        · exact .inr ⟨i, by simp, base, hb⟩
      · exact .inr ⟨id, by simp [hid], hb⟩

/-- a row that a value speaks of is a row -/
theorem Rel.rows_row : ∀ (v : AV) {m : Bool} {cs : List Value}, Rel ρ S w H v m cs → ∀ id ∈ v.rows, ∃ t k f r, nthB H id = some (.row t k f r) := by
  intro v
  induction v with
  | pair p q ihp ihq =>
    intro m cs h id hid
    simp only [AV.rows, List.mem_append] at hid
    cases m with
    | true =>
      obtain ⟨c, d, rfl, h1, h2⟩ := h
      rcases hid with hid | hid
      · exact ihp h1 id hid
      · exact ihq h2 id hid
    | false =>
      obtain ⟨x, d, rfl, h1, h2⟩ := h
      rcases hid with hid | hid
      · rcases h1 with rfl | h1
        · simp [AV.rows] at hid
        · cases hg : p.isAgg <;> rw [hg] at h1
          · exact ihp h1 id hid
          · obtain ⟨c, _, h⟩ := h1; exact ihp h id hid
      · exact ihq h2 id hid
  | lsl i o n f =>
    intro m cs h id hid
    simp only [AV.rows, List.mem_singleton] at hid
    subst hid
    cases m
    · exact h.elim
    · obtain ⟨_, _, _, t, n, r, hi, _⟩ := h
      unfold rowInfo at hi
      split at hi
      · rename_i t' l' f' r' hb; exact ⟨_, _, _, _, hb⟩
      · cases hi
  | rptr v ih => intro m cs h id hid; cases m; exact h.elim; obtain ⟨_, _, _, _, _, h2, _⟩ := h; exact ih h2 id hid
  | func f c ih => intro m cs h id hid; cases m; exact h.elim; obtain ⟨_, _, h2⟩ := h; exact ih h2 id hid
  | tup v ih => intro m cs h id hid; cases m; exact h.elim; obtain ⟨_, _, h2⟩ := h; exact ih h2 id hid
  | _ => intro m cs _ id hid; simp [AV.rows] at hid

theorem VR.rows_row {v : AV} {x : Value} (h : VR ρ S w H v x) : ∀ id ∈ v.rows, ∃ t k f r, nthB H id = some (.row t k f r) := by
  intro id hid
  cases hg : v.isAgg with
  | true => obtain ⟨c, _, h⟩ := h.agg hg; exact Rel.rows_row v h id hid
  | false =>
    by_cases hd : v = .dead
    · subst hd; simp [AV.rows] at hid
    · exact Rel.rows_row v (h.rel hg hd) id hid

/-- a value read deep, where what it reads is made read-only -/
theorem deep_VR' (hr : ∀ id, BlkRel ρ S w H id (nthB H id)) (hS : ∀ b, S b → S' b) {T : Ty} {v : AV} {x : T.den} {cv : Value} (hv : VR ρ S w H v cv) (hd : deep H T v = some x)
    (hrow : (∀ id ∈ v.rows, ∀ b base, ρ id = some (b, base) → S' b) ∨ T.flat = true) : LVv S' w T x cv := by
  have hg := deep_agg T v hd
  have key : ∀ {cs : List Value}, Rel ρ S w H v true cs → LV S' w T x cs := fun hc => deep_sound hr hS T v hc hd (by
    rcases hrow with hrow | hf
    · intro id hid
      refine hrow id ?_
      rcases List.mem_append.1 hid with h | h
      · exact rowsRead_sub T v id h
      · exact rowsFresh_sub T v id h
    · obtain ⟨h1, h2⟩ := flat_rows T v hf
      rw [h1, h2]
      intro id h; simp at h)
  unfold LVv
  rw [aggT_inj]
  cases ht : aggT T with
  | true =>
    obtain ⟨c, rfl, hc⟩ := VR.agg (hg.trans ht) hv
    exact ⟨c, rfl, key hc⟩
  | false =>
    have hnd : v ≠ .dead := by intro e; subst e; cases T <;> simp [deep] at hd
    exact key (VR.rel (hg.trans ht) hnd hv)

theorem LVv.cells {T : Ty} {x : T.den} {v : Value} (h : LVv S w T x v) : LV S w T x v.cells.toList := by
  unfold LVv at h
  cases hg : (inj T x).isAgg with
  | true => rw [hg] at h; obtain ⟨c, rfl, h⟩ := h; simpa [Value.cells] using h
  | false =>
    rw [hg] at h
    have : v.cells.toList = [v] := by
      cases T <;> first
        | (simp [aggT_inj, aggT] at hg; done)
        | (have e : [v] = _ := h; cases e; rfl)
        | (obtain ⟨e, _⟩ := h; cases e; rfl)
        | (obtain ⟨_, _, e, _⟩ := h; cases e; rfl)
    rw [this]; exact h

theorem elemAt_spec {e : TypeId} {T : Ty} (h : elemAt P e = some T) : tyOf P depth e = some T ∧ P.cellsOf e = T.size ∧ P.bytesOf e ≤ 4096 ∧ 0 < T.size ∧ zeroOK P e (inj0 T) = true := by
  unfold elemAt at h
  split at h
  · rename_i U hU
    split at h
    · rename_i hc
      cases h
      simp only [Bool.and_eq_true, Nat.beq_eq, Nat.ble_eq, Nat.blt_eq] at hc
      exact ⟨hU, hc.1.1.1.symm, hc.1.1.2, hc.1.2, hc.2⟩
    · cases h
  · cases h

theorem elemTy_spec {t : TypeId} {T : Ty} (h : elemTy P t = some T) : ∃ e, P.underlying t = some (.slice e) ∧ tyOf P depth e = some T ∧ P.cellsOf e = T.size ∧ P.bytesOf e ≤ 4096 ∧ 0 < T.size ∧ zeroOK P e (inj0 T) = true := by
  unfold elemTy at h
  split at h
  · rename_i e hu; exact ⟨e, hu, elemAt_spec h⟩
  · cases h

theorem Rel.inj0 : ∀ (T : Ty) {cs : List Value}, Rel ρ S w H (inj0 T) true cs → LV S w T T.zero cs := by
  intro T
  induction T with
  | pair p q ihp ihq => rintro cs ⟨c, d, rfl, h1, h2⟩; exact ⟨c, d, rfl, ihp h1, ihq h2⟩
  | sl t _ => intro cs h; obtain rfl : cs = [.slice none 0 0] := h; exact ⟨none, 0, rfl, Nat.le_refl _, .inl rfl⟩
  | fr t _ => intro cs h; obtain rfl : cs = [.slice none 0 0] := h; exact ⟨none, 0, rfl, Nat.le_refl _, .inl rfl⟩
  | _ => intro cs h; exact h

theorem range_flatten (z : List Value) : ∀ n : Nat, (List.range (n * z.length)).map (fun i => z.getD (i % z.length) undef) = (List.replicate n z).flatten := by
  intro n
  induction n with
  | zero => simp
  | succ n ih =>
    rw [Nat.succ_mul, List.range_add, List.map_append, ih, List.map_map]
    have : (List.range z.length).map ((fun i => z.getD (i % z.length) undef) ∘ fun x => n * z.length + x) = z := by
      apply List.ext_getElem?
      intro j
      by_cases hj : j < z.length
      · simp [hj, List.getD, Nat.mul_add_mod', Nat.mod_eq_of_lt hj]
      · simp [hj]
    rw [this]
    clear ih this
    induction n with
    | zero => simp
    | succ n ih => rw [List.replicate_succ, List.flatten_cons, List.append_assoc, ih, ← List.flatten_cons, ← List.replicate_succ]

end Go.Am
