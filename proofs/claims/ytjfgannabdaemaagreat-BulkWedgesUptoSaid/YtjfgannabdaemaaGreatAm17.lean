/-
  AM, eighteenth text: aggregates that are built, stores.
-/
import Derived.Test.YtjfgannabdaemaaGreatAm16
set_option linter.all false
namespace Go.Am
set_option linter.unusedSimpArgs false

variable {R : Type} {P : Program} {N : Nat} {Hd S0 : Nat → Prop} {w0 : World} {ρ : Emb} {S S' : Nat → Prop} {st : St} {a : Act} {sv : List Value} {w : World} {H : Heap}

theorem deep_size : ∀ (T : Ty) (v : AV) {x : T.den}, deep H T v = some x → v.size = T.size := by
  intro T
  induction T with
  | pair p q ihp ihq =>
    intro v x h
    cases v <;> try (simp [deep] at h; done)
    simp only [deep] at h
    split at h
    · rename_i y hy
      split at h
      · rename_i z hz
        simp [AV.size, Ty.size, ihp _ hy, ihq _ hz]
      · cases h
    · cases h
  | arr n t ih =>
    intro v x h
    cases v <;> try (simp [deep] at h; done)
    rename_i m u l
    simp only [deep] at h
    split at h
    · rename_i e
      have e := Nat.beq_eq.mp e
      subst e
      obtain ⟨rfl, _⟩ := castL_eq h
      rfl
    · cases h
  | _ =>
    intro v x h
    cases v <;> first
      | rfl
      | (simp [deep] at h; done)

theorem put_idx {n i : Nat} {t : Ty} {l : List t.den} {x y : AV} (h : (AV.dar n t l).put H [.idx i] x = some y) : x.size = t.size := by
  simp only [AV.put] at h
  split at h
  · obtain ⟨q, _, h⟩ := obind_eq h
    split at h
    · rename_i z hz
      have : deep H t x = some z := by cases t <;> exact hz
      exact deep_size _ _ this
    · cases h
  · cases h

theorem run_mapM_places {fs : Array Field} (h : ∀ f ∈ fs.toList, ∃ d, P.underlying f.type = some d) :
    (fs.mapM (m := Sem) fun f => do pure (f.offset, ← sizeOf f.type)).run P w = .ok (fs.map fun f => (f.offset, P.cellsOf f.type)) w := by
  obtain ⟨l⟩ := fs
  have := run_mapM_sizes (P := P) (w := w) (l := l) h
  rw [List.mapM_toArray]
  show Sem.run P (List.mapM (m := Sem) (fun f => do pure (f.offset, ← sizeOf f.type)) l >>= fun x => pure x.toArray) w = _
  rw [Sem.run_bind, this]
  simp

theorem opBuild_sound {h : Hand R} {t ty : TypeId} {ps : Array (Nat × Operand)} {slot : Nat} {K : AV → St → Option R} {r : R} (hs : Sim N Hd S0 w0 ρ S st a sv w) (hk : opBuild P h t ps slot st K = some r) :
    OpOK P N Hd S0 w0 sv a (.build t ps) ty w K r := by
  unfold opBuild at hk
  split at hk
  · rename_i v hv
    split at hk
    · rename_i hz
      obtain ⟨h1, _, z, h2, h3⟩ := zeroOK_spec (ρ := ρ) (S := S) (w := w) (H := st.heap) (zeroAV_zeroish hv) hz
      have e2 : (Array.map (fun x : Nat × Operand => (x.1, a.eval x.2)) ps).toList = ps.toList.map fun p => (p.1, a.eval p.2) := by simp
      split at hk
      · rename_i fs hu
        split at hk
        · rename_i u hp
          obtain ⟨cells, g1, g2, g3, g4⟩ := fill_agg (place := fun i => (fs.map fun f => (f.offset, P.cellsOf f.type))[i]?) hs (fun i v x y o hok hput hoff => by
            unfold partOK at hok
            rw [hu] at hok
            simp only at hok
            split at hok
            · rename_i f hf
              simp only [Bool.and_eq_true, Nat.beq_eq] at hok
              rw [offA_fld] at hoff
              split at hoff
              · rw [offA_nil] at hoff
                obtain rfl : v.fldOff i = o := by simpa using hoff
                simp [hf, hok.1, hok.2]
              · cases hoff
            · cases hok) ps.toList hp h3 h1
          have hag : v.isAgg = true := by
            unfold depth at hv
            simp only [zeroAV, hu] at hv
            cases hl : fs.toList with
            | nil => rw [hl] at hv; simp only [zeroChain, Option.some.injEq] at hv; subst hv; rfl
            | cons x l =>
              rw [hl] at hv
              simp only [zeroChain] at hv
              split at hv
              · split at hv
                · cases hv; rfl
                · cases hv
              · cases hv
          have hfs : ∀ f ∈ fs.toList, ∃ d, P.underlying f.type = some d := by
            intro f hf
            unfold depth at hv
            rw [zeroAV, hu] at hv
            obtain ⟨q, hq⟩ := zeroChain_all hv f hf
            exact zeroAV_under hq
          refine OpOK.pure hs hk (cv := .agg cells) ?_ (by have := VR.of_agg (g3.trans hag) g2; simpa using this)
          simp only [ex, execOp, Instr.build, Sem.run_bind, h2, run_underlying hu, Result.andThen_ok, run_mapM_places hfs, Sem.run_pure]
          rw [e2, g1]
          simp
        · cases hk
      · rename_i m e hu
        split at hk
        · rename_i u hp
          have hag : ∃ T, v = .dar m T (List.replicate m T.zero) ∧ ∃ n, tyOf P n e = some T := by
            unfold depth at hv
            simp only [zeroAV, hu] at hv
            split at hv
            · rename_i T hT
              cases hv
              exact ⟨T, rfl, _, hT⟩
            · cases hv
          obtain ⟨T, rfl, n, hT⟩ := hag
          obtain ⟨cells, g1, g2, g3, g4⟩ := fill_agg (place := fun i => some (i * P.cellsOf e, P.cellsOf e)) hs (fun i v x y o hok hput hoff => by
            unfold partOK at hok
            rw [hu] at hok
            simp only [Nat.beq_eq] at hok
            cases v <;> try (simp [offA] at hoff; done)
            simp only [offA] at hoff
            split at hoff
            · rw [offT_nil] at hoff
              have := put_idx hput
              simp only [Option.map_some, Option.some.injEq] at hoff
              rw [← hoff, hok, this]
              rfl
            · cases hoff) ps.toList hp h3 h1
          refine OpOK.pure hs hk (cv := .agg cells) ?_ (by have := VR.of_agg (g3.trans rfl) g2; simpa using this)
          simp only [ex, execOp, Instr.build, Sem.run_bind, h2, run_underlying hu, Result.andThen_ok]
          have hsz : (sizeOf e).run P w = .ok (P.cellsOf e) w := by
            cases n with
            | zero => simp [tyOf] at hT
            | succ n =>
              cases hue : P.underlying e with
              | none => simp [tyOf, hue] at hT
              | some d => exact run_size hue
          rw [hsz]
          simp only [Result.andThen_ok]
          rw [e2, g1]
          simp
        · cases hk
      · cases hk
    · cases hk
  · cases hk

/-! ## Stores -/

theorem setCell_heap {w : World} {b o x : Nat} {v : Value} (h : x ≠ b) : (w.setCell ⟨b, o, none⟩ v).heap[x]? = w.heap[x]? := by
  simp only [World.setCell, Array.getElem?_modify]
  rw [if_neg (fun e => h e.symm)]

theorem setCell_size {w : World} {b o : Nat} {v : Value} : (w.setCell ⟨b, o, none⟩ v).heap.size = w.heap.size := by
  simp [World.setCell]

theorem setCell_same {w : World} {b o : Nat} {v : Value} {c : Array Value} {e : TypeId} {f : Nat × Nat} (h : w.heap[b]? = some (.cells c e f)) :
    (w.setCell ⟨b, o, none⟩ v).heap[b]? = some (.cells (c.setIfInBounds o v) e f) := by
  simp [World.setCell, Array.getElem?_modify, h]

theorem setCells_heap {b x : Nat} (h : x ≠ b) : ∀ (vs : List Value) (o : Nat) (w : World), (w.setCells b o vs).heap[x]? = w.heap[x]? := by
  intro vs
  induction vs with
  | nil => intro o w; rfl
  | cons v vs ih => intro o w; rw [World.setCells, ih, setCell_heap h]

theorem setCells_size {b : Nat} : ∀ (vs : List Value) (o : Nat) (w : World), (w.setCells b o vs).heap.size = w.heap.size := by
  intro vs
  induction vs with
  | nil => intro o w; rfl
  | cons v vs ih => intro o w; rw [World.setCells, ih, setCell_size]

theorem setCells_same {b : Nat} {e : TypeId} {f : Nat × Nat} : ∀ (vs : List Value) (o : Nat) (w : World) (c : Array Value), w.heap[b]? = some (.cells c e f) → o + vs.length ≤ c.size →
    ∃ c', (w.setCells b o vs).heap[b]? = some (.cells c' e f) ∧ c'.toList = over c.toList o vs := by
  intro vs
  induction vs with
  | nil => intro o w c h _; exact ⟨c, h, by simp [over]⟩
  | cons v vs ih =>
    intro o w c h hl
    simp only [List.length_cons] at hl
    obtain ⟨c', h1, h2⟩ := ih (o + 1) _ _ (setCell_same (o := o) (v := v) h) (by simp; omega)
    refine ⟨c', h1, ?_⟩
    rw [h2]
    have hlt : o < c.toList.length := by simp; omega
    simp only [Array.toList_setIfInBounds]
    apply List.ext_getElem?
    intro j
    rw [over_get (by simp; omega), over_get (by simp; omega), List.getElem?_set]
    by_cases h1 : j = o
    · subst h1
      rw [if_neg (by omega), if_pos (by simp)]
      simp
      omega
    · by_cases h2 : o + 1 ≤ j ∧ j < o + 1 + vs.length
      · rw [if_pos h2, if_pos (by simp; omega)]
        rw [show j - o = (j - (o + 1)) + 1 by omega]
        simp
      · rw [if_neg h2, if_neg (by omega), if_neg (by simp; omega)]

theorem cell?_of {w : World} {b : Nat} {c : Array Value} {e : TypeId} {f : Nat × Nat} (h : w.heap[b]? = some (.cells c e f)) (j : Nat) : w.cell? ⟨b, j, none⟩ = c[j]? := by
  simp [World.cell?, h]

theorem frozen?_of {w : World} {b : Nat} {c : Array Value} {e : TypeId} {lo hi : Nat} (h : w.heap[b]? = some (.cells c e (lo, hi))) (hf : lo = hi ∨ c.size ≤ lo) {j : Nat} (hj : j < c.size) : w.frozen? ⟨b, j, none⟩ = false := by
  simp only [World.frozen?, h]
  rcases hf with hf | hf
  · simp; omega
  · simp; omega

theorem putD_storable : ∀ (p : List Step) (t : Ty) {x y : t.den} {v : AV}, putD H t x p v = some y → v.storable = true := by
  intro p
  induction p with
  | nil => intro t x y v h; have : deep H t v = some y := by cases t <;> exact h
           exact deep_storable _ _ this
  | cons s p ih =>
    intro t
    revert s
    induction t with
    | pair a b iha ihb =>
      intro s x y v h
      cases s with
      | fld k =>
        cases k with
        | zero =>
          simp only [putD] at h
          split at h
          · rename_i z hz; exact ih _ hz
          · cases h
        | succ k =>
          simp only [putD] at h
          split at h
          · rename_i z hz; exact ihb _ hz
          · cases h
      | idx i => simp [putD] at h
    | arr n t _ =>
      intro s x y v h
      cases s with
      | fld k => simp [putD] at h
      | idx i =>
        simp only [putD] at h
        obtain ⟨q, _, h⟩ := obind_eq h
        split at h
        · rename_i z hz; exact ih _ hz
        · cases h
    | _ => intro s x y v h; cases s <;> simp [putD] at h

theorem put_storable : ∀ (p : List Step) {u y v : AV}, u.put H p v = some y → v.storable = true := by
  intro p
  induction p with
  | nil =>
    intro u y v h
    have h' : (match u.like v && v.storable with | true => some v | false => none) = some y := by cases u <;> exact h
    split at h'
    · rename_i hb; simp only [Bool.and_eq_true] at hb; exact hb.2
    · cases h'
  | cons s p ih =>
    intro u y v h
    cases s with
    | fld k =>
      have h' : (match u.fld k with | some x => (match x.put H p v with | some y => u.setFld k y | none => none) | none => none) = some y := by cases u <;> exact h
      split at h'
      · split at h'
        · rename_i z hz; exact ih hz
        · cases h'
      · cases h'
    | idx i =>
      cases u <;> try (simp [AV.put] at h; done)
      simp only [AV.put] at h
      split at h
      · obtain ⟨q, _, h⟩ := obind_eq h
        split at h
        · rename_i z hz; exact putD_storable _ _ hz
        · cases h
      · cases h

/-- the machine's store, where the cells are the call's own -/
theorem run_storeVar_own {t : TypeId} {b base o : Nat} {v : Value} {cs : List Value} {n : Nat} (hn : (sizeOf t).run P w = .ok n w) (hv : v.cells.size = n) (h1 : ∀ x ∈ v.cells.toList, x.oneCell' = true) (ho : Own w b base cs) (hl : o + n ≤ cs.length) :
    (storeVar t ⟨b, base + o, none⟩ v).run P w = .ok () (w.setCells b (base + o) v.cells.toList) ∧ Own (w.setCells b (base + o) v.cells.toList) b base (over cs o v.cells.toList) ∧
      (∀ c e fz, w.heap[b]? = some (.cells c e fz) → ∃ c' e' fz', (w.setCells b (base + o) v.cells.toList).heap[b]? = some (.cells c' e' fz') ∧ c'.size = c.size) := by
  obtain ⟨c, e, lo, hi, g1, g2, g3, g4⟩ := ho
  have hlen : v.cells.toList.length = n := by simpa using hv
  obtain ⟨c', k1, k2⟩ := setCells_same v.cells.toList (base + o) w c g1 (by omega)
  have hsz : c'.size = c.size := by
    have := congrArg List.length k2
    rw [over_length (by simp; simp at hlen; omega)] at this
    simpa using this
  refine ⟨?_, ⟨c', e, lo, hi, k1, by rw [over_length (by omega)]; omega, ?_, by omega⟩, ?_⟩
  · have := run_storeCells_cells (P := P) b (base + o) v.cells.toList 0 w (fun j hj => by
        rw [cell?_of g1]
        have : base + o + 0 + j < c.size := by omega
        rw [Array.getElem?_eq_getElem this]; rfl) (fun j hj => frozen?_of g1 g4 (by omega)) h1
    simp only [storeVar, Sem.run_bind, hn, Result.andThen_ok]
    rw [if_neg (by simp [hv])]
    simpa using this
  · intro j x hj
    have hjl : j < cs.length := by
      have := (List.getElem?_eq_some_iff.1 hj).1
      rwa [over_length (by omega)] at this
    rw [over_get (by omega)] at hj
    have : c'[base + j]? = (over c.toList (base + o) v.cells.toList)[base + j]? := by rw [← k2]; simp
    rw [this, over_get (by simp; simp at hlen; omega)]
    split at hj
    · rename_i hb
      rw [if_pos (by omega), ← hj]
      congr 1
      omega
    · rename_i hb
      rw [if_neg (by omega)]
      simpa using g3 j x hj
  · intro c2 e2 f2 h2
    rw [g1] at h2
    obtain ⟨rfl, rfl, rfl⟩ : c = c2 ∧ e = e2 ∧ (lo, hi) = f2 := by
      injection h2 with h2; injection h2 with a1 a2 a3; exact ⟨a1, a2, a3⟩
    exact ⟨c', e, _, k1, hsz⟩

theorem fits_size {t : TypeId} {v : AV} {x : Value} (hf : fits P t v = true) (hs : v.storable = true) (hx : VR ρ S w H v x) :
    (sizeOf t).run P w = .ok v.size w ∧ x.cells.size = v.size ∧ ∀ y ∈ x.cells.toList, y.oneCell' = true := by
  obtain ⟨_, _, _, h3, _⟩ := fits_spec (w := w) hf
  have := hx.cells hs
  exact ⟨h3, by simpa using Rel.length _ this, Rel.leaf _ (storable_okIn hs) this⟩

theorem freeze_nth_none : ∀ (l : List Nat) (H : Heap) (i : Nat), nthB (freeze H l) i = none ↔ nthB H i = none := by
  intro l
  induction l with
  | nil => intro H i; rfl
  | cons j l ih =>
    intro H i
    show nthB (freeze (freeze1 H j) l) i = none ↔ _
    rw [ih, freeze1_nth]
    cases nthB H i with
    | none => exact Iff.rfl
    | some q => cases q <;> simp

theorem freeze_length : ∀ (l : List Nat) (H : Heap), (freeze H l).length = H.length := by
  intro l
  induction l with
  | nil => intro H; rfl
  | cons j l ih =>
    intro H
    show (freeze (freeze1 H j) l).length = _
    rw [ih]
    unfold freeze1
    split <;> simp [setR_eq]

theorem freeze_other : ∀ (l : List Nat) (H : Heap) (i : Nat), i ∉ l → nthB (freeze H l) i = nthB H i := by
  intro l
  induction l with
  | nil => intro H i _; rfl
  | cons j l ih =>
    intro H i hi
    simp only [List.mem_cons, not_or] at hi
    show nthB (freeze (freeze1 H j) l) i = _
    rw [ih _ _ hi.2, freeze1_nth]
    cases nthB H i with
    | none => rfl
    | some q => cases q <;> simp [hi.1]

theorem any_beq {l : List Nat} {i : Nat} (h : l.any (Nat.beq i) = false) : i ∉ l := by
  intro hi
  rw [List.any_eq_false] at h
  exact h i hi (by simp)

theorem store_sound {id : Nat} {p : List Step} {x : Operand} {H' : Heap} {t : TypeId} {b base o : Nat} (hs : Sim N Hd S0 w0 ρ S st a sv w) (hst : store st.heap id p (st.eval x) = some H') (hf : fits P t (st.eval x) = true)
    (hρ : ρ id = some (b, base)) (ho : offB st.heap id p = some o) :
    ∃ w' S', (storeVar t ⟨b, base + o, none⟩ (a.eval x)).run P w = .ok () w' ∧ Sim N Hd S0 w0 ρ S' { st with heap := H' } a sv w' := by
  have hx := hs.eval x
  unfold store at hst
  split at hst
  · rename_i u hb
    split at hst
    · rename_i y hy
      cases hst
      have hsto := put_storable _ hy
      obtain ⟨f1, f2, f3⟩ := fits_size hf hsto hx
      have hbl := hs.bl id
      rw [hb] at hbl
      obtain ⟨b', base', cs, q1, q2, q3, q4, q5, q6⟩ := hbl
      rw [hρ] at q1
      obtain ⟨rfl, rfl⟩ : b = b' ∧ base = base' := by simpa using q1
      obtain ⟨o', p1, p2, p3, p4, p5⟩ := put_sound hs.bl (hx.cells hsto) p u q2 hy
      have : o' = o := by
        unfold offB at ho; rw [hb] at ho; simp only at ho; rw [p1] at ho; simpa using ho
      subst this
      have hlen : (a.eval x).cells.toList.length = (st.eval x).size := by simpa using f2
      obtain ⟨r1, r2, r3⟩ := run_storeVar_own (o := o') f1 f2 f3 q4 (by omega)
      have hlt := nthB_lt hb
      have hset : nthB (setR st.heap id (some (.var y false))) id = some (.var y false) := by rw [nthB_set, if_pos ⟨rfl, hlt⟩]
      refine ⟨_, S, r1, (hs.write id b base hρ (q5 rfl) _ (fun z hz => setCells_heap hz _ _ _) (setCells_size _ _ _) r3 (setR st.heap id (some (.var y false))) (fun i hi => nthB_set_ne hi) (by rw [hb]; simp) ?_ ?_ ?_ ?_).1⟩
      · funext q
        unfold offB
        rw [hset, hb]
        exact (like_off q u y p4).symm
      · unfold rowInfo; rw [hset, hb]
      · unfold mapInfo; rw [hset, hb]
      · intro k
        rw [hset]
        exact ⟨b, base, _, hρ, Rel.carry k y y.on_true p3, p5 q3, r2, fun _ => q5 rfl, by simp⟩
    · cases hst
  · rename_i T l rr hb
    split at hst
    · rename_i i q
      split at hst
      · cases hst
      · rename_i hany
        have hni := any_beq hany
        obtain ⟨z, hz, hst⟩ := obind_eq hst
        rw [idxN_eq] at hz
        split at hst
        · rename_i y hy
          cases hst
          have hi : i < l.length := (List.getElem?_eq_some_iff.1 hz).1
          have hsto := putD_storable _ _ hy
          obtain ⟨f1, f2, f3⟩ := fits_size hf hsto hx
          obtain ⟨S', g1, g2, g3, g4⟩ := Sim.freeze (st.eval x).rows hs
          have hbf : nthB (freeze st.heap (st.eval x).rows) id = some (.row T l false rr) := by rw [freeze_other _ _ _ hni, hb]
          have hbl := g1.bl id
          have hbl0 := hs.bl id
          rw [hb] at hbl0
          simp only at hbl
          rw [hbf] at hbl
          rcases hbl0 with ⟨b', base', cs, q1, q2, q4, q5, q6⟩ | ⟨_, q2, _⟩
          · rw [hρ] at q1
            obtain ⟨rfl, rfl⟩ : b = b' ∧ base = base' := by simpa using q1
            have hnS : ¬ S' b := by
              rcases hbl with ⟨b', base', _, q1, _, _, q5, _⟩ | ⟨_, q2, _⟩
              · rw [hρ] at q1
                obtain ⟨rfl, rfl⟩ : b = b' ∧ base = base' := by simpa using q1
                exact q5 rfl
              · rw [q2] at hi; simp at hi
            obtain ⟨m1, m2⟩ := Many.at_ LV.len q2 hz
            obtain ⟨o', p1, p2, p3⟩ := putD_sound (S' := S') hs.bl g2.stay (hx.cells hsto) q T m1 hy (.inl fun j hj b base hρj => g3 j hj (hx.rows_row j hj) b base hρj)
            have hoo : o = i * T.size + o' := by
              unfold offB at ho; rw [hb] at ho; simp only at ho; rw [if_pos hi, p1] at ho
              simpa using ho.symm
            subst hoo
            have hlen : (a.eval x).cells.toList.length = (st.eval x).size := by simpa using f2
            have hdl : ((cs.drop (i * T.size)).take T.size).length = T.size := by simp; omega
            rw [hdl] at p2
            obtain ⟨r1, r2, r3⟩ := run_storeVar_own (o := i * T.size + o') f1 f2 f3 q4 (by omega)
            have hm : Many (LV S' w T) (l.set i y) (over cs (i * T.size + o') (a.eval x).cells.toList) := by
              have := Many.over (S := S') (q2.mono fun _ _ h => LV.mono g2.stay (fun _ _ => rfl) T h) hi p3
              rwa [over_over m2 (by omega)] at this
            have hlt := nthB_lt hbf
            have hset : nthB (setR (freeze st.heap (st.eval x).rows) id (some (.row T (setR l i y) false rr))) id = some (.row T (setR l i y) false rr) := by rw [nthB_set, if_pos ⟨rfl, hlt⟩]
            refine ⟨_, S', r1, (g1.write id b base hρ hnS _ (fun z hz => setCells_heap hz _ _ _) (setCells_size _ _ _) r3 (setR (freeze st.heap (st.eval x).rows) id (some (.row T (setR l i y) false rr))) (fun i hi => nthB_set_ne hi) (by rw [hbf]; simp) ?_ ?_ ?_ ?_).1⟩
            · funext q
              unfold offB
              rw [hset, hbf, setR_eq]
              simp
            · unfold rowInfo; rw [hset, hbf, setR_eq]; simp
            · unfold mapInfo; rw [hset, hbf]
            · intro k
              rw [hset, setR_eq l i y]
              refine .inl ⟨b, base, _, hρ, hm.mono fun _ _ h => LV.mono (fun _ h => h) k.same T h, r2, fun _ => hnS, by simp⟩
          · rw [q2] at hi; simp at hi
        · cases hst
    · cases hst
  · cases hst

theorem opStore_sound {h : Hand R} {t ty : TypeId} {x y : Operand} {slot : Nat} {K : AV → St → Option R} {r : R} (hs : Sim N Hd S0 w0 ρ S st a sv w) (hk : opStore P h t x y slot st K = some r) :
    OpOK P N Hd S0 w0 sv a (.store t x y) ty w K r := by
  have hx := hs.eval x
  unfold opStore at hk
  split at hk
  · rename_i hf
    split at hk
    · rename_i id p he
      rw [he] at hx
      obtain ⟨H', hH, hk⟩ := obind_eq hk
      obtain ⟨b, base, o, h1, h2, h3⟩ := hx.ptr_inv
      obtain ⟨w', S', g1, g2⟩ := store_sound hs hH hf h1 h2
      refine ⟨_, _, ρ, S', undef, w', hk, .inr ⟨?_, rfl⟩, g2, trivial⟩
      simp [ex, execOp, Instr.storeAt, Instr.sureAddr, h3, g1]
    · cases hk
  · cases hk

end Go.Am
