/-
  AM, twelfth text: places and reads.
-/
import Derived.Test.YtjfgannabdaemaaGreatAm10
import Derived.Laws.Cells
set_option linter.all false
namespace Go.Am
set_option linter.unusedSimpArgs false

variable {R : Type} {P : Program} {N : Nat} {Hd S0 : Nat → Prop} {w0 : World} {ρ : Emb} {S : Nat → Prop} {st : St} {a : Act} {sv : List Value} {w : World} {H : Heap}

theorem addr_add (b o n : Nat) : (⟨b, o, none⟩ : Addr).add n = ⟨b, o + n, none⟩ := by
  unfold Addr.add; split <;> simp_all

theorem Has.cell {b o : Nat} {cs : List Value} (h : Has w b o cs) : ∀ j v, cs[j]? = some v → w.cell? ((⟨b, o, none⟩ : Addr).add j) = some v := by
  intro j v hj
  obtain ⟨c, e, fz, h1, _, h3⟩ := h
  rw [addr_add]
  simp [World.cell?, h1, h3 j v hj]

theorem run_isAgg_under {t : TypeId} {d : TypeDesc} (h : P.underlying t = some d) : (isAgg t).run P w = .ok (match d with | .struct _ | .array _ _ => true | _ => false) w := by
  simp only [isAgg, Sem.run_bind, run_underlying h, Result.andThen_ok]
  cases d <;> rfl

theorem fits_spec {t : TypeId} {v : AV} (h : fits P t v = true) : ∃ d, P.underlying t = some d ∧ (isAgg t).run P w = .ok v.isAgg w ∧ (sizeOf t).run P w = .ok v.size w ∧ (v.isAgg = false → v.size = 1) := by
  unfold fits at h
  cases hu : P.underlying t with
  | none => rw [hu] at h; simp at h
  | some d =>
    rw [hu] at h
    refine ⟨d, rfl, ?_⟩
    rw [run_isAgg_under hu, run_size hu]
    cases d <;> simp_all

theorem run_loadVar_sound {t : TypeId} {v : AV} (hf : fits P t v = true) {b o : Nat} {cs : List Value} (hh : Has w b o cs) (hv : Rel ρ S w H v true cs) :
    ∃ cv, (loadVar t ⟨b, o, none⟩).run P w = .ok cv w ∧ VR ρ S w H v cv := by
  obtain ⟨d, hu, hg, hs, h1⟩ := fits_spec (w := w) hf
  have hl := Rel.length v hv
  unfold loadVar
  simp only [Sem.run_bind, hg, Result.andThen_ok]
  cases hb : v.isAgg with
  | true =>
    refine ⟨.agg cs.toArray, ?_, VR.of_agg hb hv⟩
    simp only [if_true, Sem.run_bind, hs, Result.andThen_ok]
    rw [← hl, run_loadCells_list w _ cs hh.cell]
    rfl
  | false =>
    obtain ⟨x, rfl⟩ : ∃ x, cs = [x] := by
      have := h1 hb
      cases cs with
      | nil => simp at hl; omega
      | cons x r => cases r with
        | nil => exact ⟨x, rfl⟩
        | cons _ _ => simp at hl; omega
    refine ⟨x, ?_, VR.of_rel hb hv⟩
    have := hh.cell 0 x rfl
    simp [addr_add] at this
    simp [this]

/-- what lies at a place -/
theorem load_sound (hr : ∀ id, BlkRel ρ S w H id (nthB H id)) {id : Nat} {p : List Step} {v : AV} (h : load H id p = some v) {b base o : Nat} (hρ : ρ id = some (b, base)) (ho : offB H id p = some o) :
    ∃ cs, Has w b (base + o) cs ∧ Rel ρ S w H v true cs := by
  have hb := hr id
  unfold load at h
  split at h
  · rename_i u frz hu
    rw [hu] at hb
    obtain ⟨b', base', cs, h1, h2, _, h3, _, _⟩ := hb
    rw [hρ] at h1
    obtain ⟨rfl, rfl⟩ : b = b' ∧ base = base' := by simpa using h1
    obtain ⟨o', g1, g2, g3⟩ := Rel.get p u h2 h
    have : o' = o := by unfold offB at ho; rw [hu] at ho; simp only at ho; rw [g1] at ho; simpa using ho
    subst this
    exact ⟨_, h3.has.part _ _ g2, g3⟩
  · rename_i t l frz real hu
    rw [hu] at hb
    split at h
    · rename_i i q
      obtain ⟨x, hx, h⟩ := obind_eq h
      rw [idxN_eq] at hx
      have hi : i < l.length := (List.getElem?_eq_some_iff.1 hx).1
      rcases hb with ⟨b', base', cs, h1, h2, h3, _, _⟩ | ⟨h1, h2, _⟩
      · rw [hρ] at h1
        obtain ⟨rfl, rfl⟩ : b = b' ∧ base = base' := by simpa using h1
        obtain ⟨g1, g2⟩ := Many.at_ LV.len h2 hx
        obtain ⟨o', k1, k2, k3⟩ := Rel.get q (inj t x) (Rel.inj (ρ := ρ) (H := H) t g1) h
        rw [off_inj] at k1
        have : o = i * t.size + o' := by
          unfold offB at ho; rw [hu] at ho; simp only [hi, if_true, k1] at ho
          simpa using ho.symm
        subst this
        have hlen : ((cs.drop (i * t.size)).take t.size).length = t.size := by simp; omega
        rw [take_drop_comp _ _ _ _ _ (by omega)] at k3
        exact ⟨_, h3.has.part _ _ (by omega), k3⟩
      · rw [hρ] at h1; cases h1
    · cases h
  · cases h

theorem VR.ptr_inv {id : Nat} {p : List Step} {v : Value} (h : VR ρ S w H (.ptr id p) v) : ∃ b base o, ρ id = some (b, base) ∧ offB H id p = some o ∧ v = .pointer (some ⟨b, base + o, none⟩) := by
  obtain ⟨b, base, o, h1, h2, h3⟩ := VR.rel rfl (by simp) h
  exact ⟨b, base, o, h1, h2, by simpa using h3⟩

theorem VR.rptr_inv {u : AV} {v : Value} (h : VR ρ S w H (.rptr u) v) : ∃ b o vs, v = .pointer (some ⟨b, o, none⟩) ∧ S b ∧ Rel ρ S w H u true vs ∧ Has w b o vs := by
  obtain ⟨b, o, vs, h1, h2, h3, h4⟩ := VR.rel rfl (by simp) h
  exact ⟨b, o, vs, by simpa using h1, h2, h3, h4⟩

theorem VR.rptr_mk {u : AV} {b o : Nat} {vs : List Value} (h1 : S b) (h2 : Rel ρ S w H u true vs) (h3 : Has w b o vs) : VR ρ S w H (.rptr u) (.pointer (some ⟨b, o, none⟩)) :=
  VR.of_rel rfl ⟨b, o, vs, rfl, h1, h2, h3⟩

theorem VR.ptr_mk {id : Nat} {p : List Step} {b base o : Nat} (h1 : ρ id = some (b, base)) (h2 : offB H id p = some o) : VR ρ S w H (.ptr id p) (.pointer (some ⟨b, base + o, none⟩)) :=
  VR.of_rel rfl ⟨b, base, o, h1, h2, rfl⟩

theorem opLoad_sound {h : Hand R} {t ty : TypeId} {x : Operand} {slot : Nat} {K : AV → St → Option R} {r : R} (hs : Sim N Hd S0 w0 ρ S st a sv w) (hk : opLoad P h t x slot st K = some r) :
    OpOK P N Hd S0 w0 sv a (.load t x) ty w K r := by
  have hx := hs.eval x
  have fin : ∀ {v : AV} {b o : Nat} {cs : List Value}, a.eval x = .pointer (some ⟨b, o, none⟩) → fits P t v = true → K v st = some r → Has w b o cs → Rel ρ S w st.heap v true cs → OpOK P N Hd S0 w0 sv a (.load t x) ty w K r := by
    intro v b o cs he hf hk hh hv
    obtain ⟨cv, h1, h2⟩ := run_loadVar_sound (P := P) hf hh hv
    exact OpOK.pure hs hk (by simp [ex, execOp, Instr.loadAt, Instr.sureAddr, he, h1]) h2
  have ptr : ∀ {id : Nat} {p : List Step} {v : AV}, VR ρ S w st.heap (.ptr id p) (a.eval x) → load st.heap id p = some v → fits P t v = true → K v st = some r → OpOK P N Hd S0 w0 sv a (.load t x) ty w K r := by
    intro id p v hx hl hf hk
    obtain ⟨b, base, o, h1, h2, h3⟩ := hx.ptr_inv
    obtain ⟨cs, h4, h5⟩ := load_sound hs.bl hl h1 h2
    exact fin h3 hf hk h4 h5
  unfold opLoad at hk
  split at hk
  · rename_i v he
    rw [he] at hx
    obtain ⟨b, o, vs, h1, h2, h3, h4⟩ := hx.rptr_inv
    split at hk
    · rename_i hf
      exact fin h1 hf hk h4 h3
    · cases hk
  · rename_i id p he
    rw [he] at hx
    split at hk
    · rename_i i q
      split at hk
      · rename_i T l f rr hb
        obtain ⟨y, hy, hk⟩ := obind_eq hk
        split at hk
        · rename_i v hv
          split at hk
          · rename_i hf
            refine ptr hx ?_ hf hk
            unfold load
            rw [hb]
            simp only [obind, hy, hv]
          · cases hk
        · cases hk
      · rename_i u f hb
        split at hk
        · rename_i v hv
          split at hk
          · rename_i hf
            refine ptr hx ?_ hf hk
            unfold load
            rw [hb]
            exact hv
          · cases hk
        · cases hk
      · cases hk
    · split at hk
      · rename_i v hv
        split at hk
        · rename_i hf
          exact ptr hx hv hf hk
        · cases hk
      · cases hk
  · cases hk

theorem opNilCheck_sound {h : Hand R} {ty : TypeId} {x : Operand} {slot : Nat} {K : AV → St → Option R} {r : R} (hs : Sim N Hd S0 w0 ρ S st a sv w) (hk : opNilCheck P h x slot st K = some r) :
    OpOK P N Hd S0 w0 sv a (.nilCheck x) ty w K r := by
  have hx := hs.eval x
  unfold opNilCheck at hk
  split at hk
  · rename_i id p he
    rw [he] at hx
    obtain ⟨b, base, o, h1, h2, h3⟩ := hx.ptr_inv
    exact OpOK.pure hs hk (by simp [ex, execOp, h3]) (h3 ▸ hx)
  · rename_i v he
    rw [he] at hx
    obtain ⟨b, o, vs, h1, _⟩ := hx.rptr_inv
    exact OpOK.pure hs hk (by simp [ex, execOp, h1]) (h1 ▸ hx)
  · rename_i f c he
    rw [he] at hx
    obtain ⟨vs, h1, _⟩ := VR.rel rfl (by simp) hx
    have h1 : a.eval x = .func (.func f) #[] vs.toArray := by simpa using h1
    exact OpOK.pure hs hk (by simp [ex, execOp, h1]) (h1 ▸ hx)
  · cases hk

theorem chain_fld : ∀ (v : AV) (i : Nat) {u : AV} {vs : List Value}, Rel ρ S w H v false vs → v.fld i = some u → ∃ cv, vs[i]? = some cv ∧ VR ρ S w H u cv := by
  intro v
  induction v with
  | pair p q _ ihq =>
    rintro i u vs ⟨x, d, rfl, h1, h2⟩ hf
    cases i with
    | zero =>
      simp only [AV.fld, Option.some.injEq] at hf
      subst hf
      refine ⟨x, rfl, ?_⟩
      rcases h1 with rfl | h1
      · trivial
      · cases hg : p.isAgg <;> rw [hg] at h1
        · exact VR.of_rel hg h1
        · obtain ⟨c, rfl, h⟩ := h1; exact VR.of_agg hg h
    | succ i => simpa using ihq i h2 hf
  | _ => intro i u vs _ hf; simp [AV.fld] at hf

theorem chain_mk {v : AV} {x : Value} {u : AV} {vs : List Value} (h : VR ρ S w H v x) (h' : Rel ρ S w H u false vs) : Rel ρ S w H (.pair v u) false (x :: vs) := by
  refine ⟨x, vs, rfl, ?_, h'⟩
  by_cases hd : v = .dead
  · exact .inl hd
  · right
    cases hg : v.isAgg with
    | true => exact VR.agg hg h
    | false => exact VR.rel hg hd h

theorem opExtract_sound {h : Hand R} {ty : TypeId} {x : Operand} {i slot : Nat} {K : AV → St → Option R} {r : R} (hs : Sim N Hd S0 w0 ρ S st a sv w) (hk : opExtract P h x i slot st K = some r) :
    OpOK P N Hd S0 w0 sv a (.extract x i) ty w K r := by
  have hx := hs.eval x
  unfold opExtract at hk
  split at hk
  · rename_i v he
    rw [he] at hx
    obtain ⟨vs, h1, h2⟩ := VR.rel rfl (by simp) hx
    have h1 : a.eval x = .tuple vs.toArray := by simpa using h1
    split at hk
    · rename_i u hu
      obtain ⟨cv, h3, h4⟩ := chain_fld v i h2 hu
      exact OpOK.pure hs hk (by simp [ex, execOp, Instr.extract, h1, h3]) h4
    · cases hk
  · cases hk

theorem chain_list {l : List AV} {vs : List Value} (h : All2 (VR ρ S w H) l vs) : Rel ρ S w H (chain l) false vs := by
  induction l generalizing vs with
  | nil => cases vs <;> first | rfl | exact h.elim
  | cons x l ih => cases vs with
    | nil => exact h.elim
    | cons y vs => exact chain_mk h.1 (ih h.2)

theorem evals (hs : Sim N Hd S0 w0 ρ S st a sv w) (l : List Operand) : All2 (VR ρ S w st.heap) (l.map st.eval) (l.map a.eval) := by
  induction l with
  | nil => trivial
  | cons x l ih => exact ⟨hs.eval x, ih⟩

theorem offA_append : ∀ (p q : List Step) (v : AV) {u : AV} {o : Nat}, v.get H p = some u → offA v p = some o → offA v (p ++ q) = (offA u q).map (o + ·) := by
  intro p
  induction p with
  | nil =>
    intro q v u o hg ho
    have e : v = u := by cases v <;> simpa [AV.get] using hg
    subst e
    rw [offA_nil] at ho
    obtain rfl : 0 = o := by simpa using ho
    rw [List.nil_append, map_zero_add]
  | cons s p ih =>
    intro q v u o hg ho
    cases s with
    | fld k =>
      have hg' : (match v.fld k with | some x => x.get H p | none => none) = some u := by cases v <;> exact hg
      rw [offA_fld] at ho
      rw [List.cons_append, offA_fld]
      cases hx : v.fld k with
      | none => rw [hx] at hg'; simp at hg'
      | some x =>
        rw [hx] at hg' ho
        simp only at hg' ho ⊢
        cases ho' : offA x p with
        | none => rw [ho'] at ho; simp at ho
        | some o' =>
          rw [ho'] at ho
          obtain rfl : v.fldOff k + o' = o := by simpa using ho
          rw [ih q x hg' ho']
          cases offA u q <;> simp [Nat.add_assoc]
    | idx i =>
      cases v <;> try (simp [AV.get] at hg; done)
      rename_i n t l
      simp only [AV.get] at hg
      obtain ⟨x, hx, hg⟩ := obind_eq hg
      simp only [offA, List.cons_append] at ho ⊢
      split at ho
      · rename_i hi
        rw [if_pos hi]
        cases ho' : offT t p with
        | none => rw [ho'] at ho; simp at ho
        | some o' =>
          rw [ho'] at ho
          obtain rfl : i * t.size + o' = o := by simpa using ho
          rw [← off_inj p t x] at ho'
          have := ih q (inj t x) hg ho'
          rw [off_inj] at this
          rw [this]
          cases offA u q <;> simp [Nat.add_assoc]
      · cases ho

/-- a place within a place -/
theorem offB_append {id : Nat} {p : List Step} {v : AV} {o : Nat} (hl : load H id p = some v) (ho : offB H id p = some o) (q : List Step) : offB H id (p ++ q) = (offA v q).map (o + ·) := by
  unfold load at hl
  unfold offB at ho ⊢
  split at hl
  · rename_i u frz hu
    rw [hu] at ho ⊢
    exact offA_append p q u hl ho
  · rename_i t l frz real hu
    rw [hu] at ho ⊢
    split at hl
    · rename_i i p
      obtain ⟨x, hx, hl⟩ := obind_eq hl
      simp only [List.cons_append] at ho ⊢
      split at ho
      · rename_i hi
        rw [if_pos hi]
        cases ho' : offT t p with
        | none => rw [ho'] at ho; simp at ho
        | some o' =>
          rw [ho'] at ho
          obtain rfl : i * t.size + o' = o := by simpa using ho
          rw [← off_inj p t x] at ho'
          have := offA_append p q (inj t x) hl ho'
          rw [off_inj] at this
          rw [this]
          cases offA v q <;> simp [Nat.add_assoc]
      · cases ho
    · cases hl
  · cases hl

theorem fieldOffB_spec {t : TypeId} {f : Nat} {v : AV} (h : fieldOffB P t f v = true) : ∃ fs x, P.underlying t = some (.struct fs) ∧ fs[f]? = some x ∧ x.offset = v.fldOff f ∧ 0 < P.cellsOf x.type := by
  unfold fieldOffB at h
  split at h
  · rename_i fs hu
    split at h
    · rename_i x hx
      simp only [Bool.and_eq_true, Nat.beq_eq, Nat.blt_eq] at h
      exact ⟨fs, x, hu, hx, h.1, h.2⟩
    · cases h
  · cases h

theorem run_sizeOf_pos {t : TypeId} (h : 0 < P.cellsOf t) : (sizeOf t).run P w = .ok (P.cellsOf t) w := by
  unfold Program.cellsOf at h ⊢
  cases hi : P.info? t with
  | none => rw [hi] at h; simp at h
  | some i => simp [Go.sizeOf, typeInfo, hi]

theorem run_fieldAt {t : TypeId} {f : Nat} {v : AV} (h : fieldOffB P t f v = true) (b o : Nat) : (Instr.fieldAt t (.pointer (some ⟨b, o, none⟩)) f).run P w = .ok (.pointer (some ⟨b, o + v.fldOff f, none⟩)) w := by
  obtain ⟨fs, x, hu, hx, ho, hp⟩ := fieldOffB_spec h
  have hp' : ¬ P.cellsOf x.type = 0 := by omega
  simp [Instr.fieldAt, run_underlying hu, hx, Instr.sureAddr, fieldPlace, run_sizeOf_pos hp, hp', addr_add, ho]

theorem opFieldAddr_sound {h : Hand R} {t ty : TypeId} {x : Operand} {f slot : Nat} {K : AV → St → Option R} {r : R} (hs : Sim N Hd S0 w0 ρ S st a sv w) (hk : opFieldAddr P h t x f slot st K = some r) :
    OpOK P N Hd S0 w0 sv a (.fieldAddr t x f) ty w K r := by
  have hx := hs.eval x
  unfold opFieldAddr at hk
  split at hk
  · rename_i v he
    rw [he] at hx
    obtain ⟨b, o, vs, h1, h2, h3, h4⟩ := hx.rptr_inv
    split at hk
    · rename_i hf
      split at hk
      · rename_i u hu
        obtain ⟨g1, g2⟩ := h3.fld v f hu
        exact OpOK.pure hs hk (by simp [ex, execOp, h1, run_fieldAt hf]) (VR.rptr_mk h2 g2 (h4.part _ _ g1))
      · cases hk
    · cases hk
  · rename_i id p he
    rw [he] at hx
    obtain ⟨b, base, o, h1, h2, h3⟩ := hx.ptr_inv
    split at hk
    · rename_i v hv
      split at hk
      · rename_i hf
        split at hk
        · rename_i u hu
          refine OpOK.pure hs hk (cv := .pointer (some ⟨b, base + (o + v.fldOff f), none⟩)) (by simp [ex, execOp, h3, run_fieldAt hf, Nat.add_assoc]) (VR.ptr_mk h1 ?_)
          rw [offB_append hv h2, offA_fld, hu]
          simp [offA_nil]
        · cases hk
      · cases hk
    · cases hk
  · cases hk

end Go.Am
