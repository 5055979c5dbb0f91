/-
  AM, sixteenth text: literals of slices and aggregates.
-/
import Derived.Test.YtjfgannabdaemaaGreatAm14
set_option linter.all false
namespace Go.Am
set_option linter.unusedSimpArgs false

variable {R : Type} {P : Program} {N : Nat} {Hd S0 : Nat → Prop} {w0 : World} {ρ : Emb} {S S' : Nat → Prop} {st : St} {a : Act} {sv : List Value} {w : World} {H : Heap}

theorem fold_over (off : Nat) : ∀ (vs : List Value) (k : Nat) (cells : Array Value), off + k + vs.length ≤ cells.size →
    ((vs.zipIdx k).foldl (fun (cs : Array Value) (p : Value × Nat) => cs.setIfInBounds (off + p.2) p.1) cells).toList = over cells.toList (off + k) vs := by
  intro vs
  induction vs with
  | nil => intro k cells _; simp [over]
  | cons v vs ih =>
    intro k cells h
    simp only [List.zipIdx_cons, List.foldl_cons]
    simp only [List.length_cons] at h
    rw [ih (k + 1) _ (by simp; omega)]
    have hl : off + k < cells.toList.length := by simp; omega
    simp only [Array.toList_setIfInBounds]
    apply List.ext_getElem?
    intro j
    rw [over_get (by simp; omega), over_get (by simp; omega), List.getElem?_set]
    by_cases h1 : j = off + k
    · subst h1
      rw [if_neg (by omega), if_pos (by simp)]
      simp
      omega
    · by_cases h2 : off + (k + 1) ≤ j ∧ j < off + (k + 1) + vs.length
      · rw [if_pos h2, if_pos (by simp; omega)]
        rw [show j - (off + k) = (j - (off + (k + 1))) + 1 by omega]
        simp
      · rw [if_neg h2, if_neg (by omega), if_neg (by simp; omega)]

theorem fold_over_array (off : Nat) (v : Value) (cells : Array Value) (h : off + v.cells.size ≤ cells.size) :
    (v.cells.zipIdx.foldl (fun cs (c, j) => cs.setIfInBounds (off + j) c) cells).toList = over cells.toList off v.cells.toList := by
  rw [← Array.foldl_toList]
  have := fold_over off v.cells.toList 0 cells (by simpa using h)
  simpa [Array.toList_zipIdx] using this

theorem Many.length_eq {α : Type} {f : α → List Value → Prop} {n : Nat} (h : ∀ a c, f a c → c.length = n) {l : List α} {cs : List Value} (hm : Many f l cs) : cs.length = l.length * n := Many.length h hm

theorem Many.over {T : Ty} {l : List T.den} {cs c : List Value} {i : Nat} {x : T.den} (hm : Many (LV S w T) l cs) (hi : i < l.length) (hx : LV S w T x c) : Many (LV S w T) (l.set i x) (over cs (i * T.size) c) := by
  have := Many.set LV.len hm hi hx
  have hc := LV.length T hx
  unfold Am.over
  rw [hc]
  exact this

theorem fill_row {T : Ty} : ∀ (ps : List (Nat × Operand)) {l l' : List T.den} {cells : Array Value}, partsRow st T l ps = some l' → Many (LV S' w T) l cells.toList →
    (∀ p ∈ ps, ∀ d, deep st.heap T (st.eval p.2) = some d → LVv S' w T d (a.eval p.2)) →
    ∃ cells', Instr.fill (fun i => some (i * T.size, T.size)) cells (ps.map fun p => (p.1, a.eval p.2)) = some cells' ∧ Many (LV S' w T) l' cells'.toList ∧ l'.length = l.length := by
  intro ps
  induction ps with
  | nil => intro l l' cells h hm _; simp only [partsRow, Option.some.injEq] at h; subst h; exact ⟨cells, rfl, hm, rfl⟩
  | cons p ps ih =>
    obtain ⟨i, x⟩ := p
    intro l l' cells h hm hp
    simp only [partsRow] at h
    split at h
    · rename_i d hd
      split at h
      · rename_i hi
        have hi : i < l.length := by simpa [Nat.blt_eq] using hi
        have hv := (hp (i, x) (by simp) d hd).cells
        have hc := LV.length T hv
        have hlen := Many.length LV.len hm
        have hsz : (a.eval x).cells.size = T.size := by simpa using hc
        have hb : i * T.size + T.size ≤ cells.size := by
          have : (i + 1) * T.size ≤ l.length * T.size := Nat.mul_le_mul_right _ hi
          rw [Nat.succ_mul] at this
          simp at hlen
          omega
        rw [setR_eq] at h
        have hm' := hm.over hi hv
        obtain ⟨cells', h1, h2, h3⟩ := ih (cells := (a.eval x).cells.zipIdx.foldl (fun cs (c, j) => cs.setIfInBounds (i * T.size + j) c) cells) h (by rw [fold_over_array _ _ _ (by omega)]; exact hm') (fun q hq => hp q (by simp [hq]))
        refine ⟨cells', ?_, h2, by rw [h3]; simp⟩
        simp only [List.map_cons, Instr.fill]
        rw [if_neg (by simp; omega)]
        exact h1
      · cases h
    · cases h

/-- a new row -/
theorem newRow_sound (hs : Sim N Hd S0 w0 ρ S st a sv w) {slot : Nat} (hslot : nthB st.heap slot = none) (H' : Heap) {T : Ty} {l : List T.den} (hb : nthB H' slot = some (.row T l false true)) (hH : ∀ i, i ≠ slot → nthB H' i = nthB st.heap i)
    {cs : List Value} {e : TypeId} (hv : Many (LV S w T) l cs) (n cap : Nat) (full : Bool) (hn : n ≤ l.length) (hfull : full = true → n = l.length) (hcap : l.length ≤ cap) (more : List Value) (hmore : cap * T.size ≤ cs.length + more.length) (fz : Nat × Nat := (0, 0)) (hfz : fz.1 = fz.2 ∨ cs.length + more.length ≤ fz.1 := by exact .inl rfl) :
    ∃ ρ', Sim N Hd S0 w0 ρ' S { st with heap := H' } a sv (w.alloc (.cells (cs ++ more).toArray e fz)) ∧
      VR ρ' S (w.alloc (.cells (cs ++ more).toArray e fz)) H' (.lsl slot 0 n full) (.slice (some ⟨w.heap.size, 0, none⟩) n cap) ∧
      Carry (fun _ => True) ρ S w st.heap ρ' S (w.alloc (.cells (cs ++ more).toArray e fz)) H' := by
  have hne : ∀ i, nthB st.heap i ≠ none → i ≠ slot := fun i hi e => hi (e ▸ hslot)
  have hSame : ∀ b, b < w.heap.size → (w.alloc (.cells (cs ++ more).toArray e fz)).heap[b]? = w.heap[b]? := fun b hb => by
    simp only [World.alloc, Array.getElem?_push]; rw [if_neg (by omega)]
  have hnew : (w.alloc (.cells (cs ++ more).toArray e fz)).heap[w.heap.size]? = some (.cells (cs ++ more).toArray e fz) := by simp only [World.alloc, Array.getElem?_push, if_true]
  have hnS : ¬ S w.heap.size := fun h => by have := hs.stay _ h; omega
  obtain ⟨h1, h2⟩ := hs.alloc slot hslot H' (.row T l false true) hb hH (.cells (cs ++ more).toArray e fz)
    (.inl ⟨w.heap.size, 0, cs, by simp, hv.mono fun _ _ h => LV.mono (fun _ h => h) (fun b hb => hSame b (hs.stay b hb)) T h,
      ⟨(cs ++ more).toArray, e, fz.1, fz.2, hnew, by simp, fun j v hj => by
        have : j < cs.length := (List.getElem?_eq_some_iff.1 hj).1
        simp [List.getElem?_append_left this, hj], by simpa using hfz⟩, fun _ => hnS, by simp⟩)
  refine ⟨_, h1, ?_, h2⟩
  refine VR.of_rel rfl ⟨some ⟨w.heap.size, 0, none⟩, cap, rfl, T, l.length, true, by unfold rowInfo; rw [hb], by omega, fun h => by have := hfull h; omega, .inl ⟨w.heap.size, 0, (cs ++ more).toArray, e, fz, by simp, fun _ => by simp, fun _ => rfl, hnew, ?_, ?_⟩⟩
  · simp; exact hmore
  · omega

theorem zeros_many {T : Ty} {z : List Value} (hz : LV S w T T.zero z) (n : Nat) : Many (LV S w T) (List.replicate n T.zero) (List.replicate n z).flatten := Many.replicate hz n

theorem map_getElem! (z : Array Value) (n : Nat) (hz : 0 < z.size) : ((Array.range n).map (fun i => z[i % z.size]!)).toList = (List.range n).map (fun i => z.toList.getD (i % z.toList.length) undef) := by
  simp only [Array.toList_map, Array.toList_range]
  apply List.map_congr_left
  intro i _
  have : i % z.size < z.size := Nat.mod_lt _ hz
  simp [List.getD, this, getElem!_pos]

theorem zero_row {e : TypeId} {T : Ty} (hp : 0 < T.size) (hz : zeroOK P e (inj0 T) = true) (n : Nat) :
    ∃ cells : Array Value, Many (LV S w T) (List.replicate n T.zero) cells.toList ∧ cells.size = n * T.size ∧
      ((n * T.size = 0 ∧ cells = (Array.range (n * T.size)).map (fun i => (#[] : Array Value)[i % (#[] : Array Value).size]!)) ∨
       (n * T.size ≠ 0 ∧ ∃ z : Value, (zeroValue e).run P w = .ok z w ∧ cells = (Array.range (n * T.size)).map (fun i => z.cells[i % z.cells.size]!))) := by
  obtain ⟨_, _, z, h1, h2⟩ := zeroOK_spec (ρ := fun _ => none) (S := S) (w := w) (H := []) (inj0_zeroish T) hz
  have h3 := Rel.inj0 T h2
  have hl := LV.length T h3
  have hl' : z.cells.size = T.size := by simpa using hl
  by_cases h0 : n * T.size = 0
  · have hn : n = 0 := by rcases Nat.mul_eq_zero.1 h0 with h | h <;> omega
    subst hn
    exact ⟨_, by simp [Many], by simp, .inl ⟨h0, rfl⟩⟩
  · refine ⟨_, ?_, by simp, .inr ⟨h0, z, h1, rfl⟩⟩
    rw [map_getElem! _ _ (by omega), ← hl', show z.cells.size = z.cells.toList.length by simp, range_flatten]
    exact zeros_many h3 n

theorem opBuildSlice_sound {h : Hand R} {t ty : TypeId} {n : Nat} {ps : Array (Nat × Operand)} {slot : Nat} {K : AV → St → Option R} {r : R} (hs : Sim N Hd S0 w0 ρ S st a sv w) (hslot : nthB st.heap slot = none) (hlt : slot < st.heap.length) (hk : opBuildSlice P h t n ps slot st K = some r) :
    OpOK P N Hd S0 w0 sv a (.buildSlice t n ps) ty w K r := by
  unfold opBuildSlice at hk
  split at hk
  · rename_i T hT
    obtain ⟨e, hu, _, hc, _, hp, hz⟩ := elemTy_spec hT
    split at hk
    · cases hk
    · rename_i hle
      have hle : n * T.size ≤ 16777216 := by simpa [Nat.ble_eq] using hle
      split at hk
      · rename_i l hl
        obtain ⟨cells, hz3, hz4, hz5⟩ := zero_row (P := P) (S := S) (w := w) hp hz n
        -- what is read
        have fr : ∃ S', Sim N Hd S0 w0 ρ S' { st with heap := (match T.flat with | true => st.heap | false => freeze st.heap (rowsIn st ps.toList)) } a sv w ∧ (∀ b, S b → S' b) ∧
            (∀ i, nthB (match T.flat with | true => st.heap | false => freeze st.heap (rowsIn st ps.toList)) i = none ↔ nthB st.heap i = none) ∧ (match T.flat with | true => st.heap | false => freeze st.heap (rowsIn st ps.toList)).length = st.heap.length ∧
            (∀ p ∈ ps.toList, ∀ d, deep st.heap T (st.eval p.2) = some d → LVv S' w T d (a.eval p.2)) := by
          cases hf : T.flat with
          | true => exact ⟨S, hs, fun _ h => h, fun _ => Iff.rfl, rfl, fun p _ d hd => deep_VR hs.bl hf (hs.eval p.2) hd⟩
          | false =>
            obtain ⟨S', g1, g2, g3, _⟩ := Sim.freeze (rowsIn st ps.toList) hs
            refine ⟨S', g1, g2.stay, ?_, ?_, ?_⟩
            · have : ∀ (l : List Nat) (H : Heap) (i : Nat), nthB (freeze H l) i = none ↔ nthB H i = none := by
                intro l
                induction l with
                | nil => intro H i; rfl
                | cons j l ih =>
                  intro H i
                  show nthB (freeze (freeze1 H j) l) i = none ↔ _
                  rw [ih, freeze1_nth]
                  cases nthB H i with
                  | none => exact Iff.rfl
                  | some q => cases q <;> simp
              exact fun i => this _ _ i
            · have : ∀ (l : List Nat) (H : Heap), (freeze H l).length = H.length := by
                intro l
                induction l with
                | nil => intro H; rfl
                | cons j l ih =>
                  intro H
                  show (freeze (freeze1 H j) l).length = _
                  rw [ih]
                  unfold freeze1
                  split <;> simp [setR_eq]
              exact this _ _
            · intro p hpm d hd
              refine deep_VR' hs.bl g2.stay (hs.eval p.2) hd (.inl fun id hid b base hρ => ?_)
              refine g3 id ?_ ((hs.eval p.2).rows_row id hid) b base hρ
              have : ∀ (l : List (Nat × Operand)), p ∈ l → id ∈ rowsIn st l := by
                intro l
                induction l with
                | nil => intro h; simp at h
                | cons q l ih =>
                  intro h
                  simp only [rowsIn, List.mem_append]
                  rcases List.mem_cons.1 h with rfl | h
                  · exact .inl hid
                  · exact .inr (ih h)
              exact this _ hpm
        obtain ⟨S', g1, g2, g3, g4, g5⟩ := fr
        obtain ⟨cells', k1, k2, k3⟩ := fill_row (S' := S') ps.toList hl (hz3.mono fun _ _ h => LV.mono g2 (fun _ _ => rfl) T h) g5
        have hl2 : l.length = n := by simpa using k3
        have hcl := Many.length LV.len k2
        have hslot' := (g3 slot).2 hslot
        have hnth : nthB (setR (match T.flat with | true => st.heap | false => freeze st.heap (rowsIn st ps.toList)) slot (some (.row T l false true))) slot = some (.row T l false true) := by
          rw [nthB_set, if_pos ⟨rfl, by rw [g4]; exact hlt⟩]
        obtain ⟨ρ', q1, q2, _⟩ := newRow_sound g1 hslot' (setR (match T.flat with | true => st.heap | false => freeze st.heap (rowsIn st ps.toList)) slot (some (.row T l false true))) hnth (fun i hi => nthB_set_ne hi) (e := e) k2 n n true (by omega) (fun _ => by omega) (by omega) []
          (by rw [hcl, hl2]; simp)
        refine ⟨_, _, ρ', S', _, _, hk, .inl ?_, q1, q2⟩
        have e1 : (ps.map fun p => (p.1, a.eval p.2)).toList = ps.toList.map fun p => (p.1, a.eval p.2) := by simp
        simp only [ex, execOp, Instr.buildSlice, Sem.run_bind, run_underlying hu, Result.andThen_ok, run_sizeOf_pos (show 0 < P.cellsOf e by omega), hc]
        rw [if_neg (by omega)]
        have e2 : (Array.map (fun x : Nat × Operand => (x.1, a.eval x.2)) ps).toList = ps.toList.map fun p => (p.1, a.eval p.2) := by simp
        rw [e2]
        rcases hz5 with ⟨h0, hz5⟩ | ⟨h0, z, hz6, hz5⟩
        · rw [if_pos h0]
          simp only [Sem.run_bind, Sem.run_pure, Result.andThen_ok]
          rw [← hz5, k1]
          simp [newRow]
        · rw [if_neg h0]
          simp only [Sem.run_bind, Sem.run_pure, Result.andThen_ok, hz6]
          rw [← hz5, k1]
          simp [newRow]
      · cases hk
  · cases hk

end Go.Am
