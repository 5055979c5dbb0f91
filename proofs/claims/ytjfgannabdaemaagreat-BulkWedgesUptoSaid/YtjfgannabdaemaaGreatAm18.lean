/-
  AM, nineteenth text: slice expressions.
-/
import Derived.Test.YtjfgannabdaemaaGreatAm17
import Derived.Laws.Slices
set_option linter.all false
namespace Go.Am
set_option linter.unusedSimpArgs false

variable {R : Type} {P : Program} {N : Nat} {Hd S0 : Nat → Prop} {w0 : World} {ρ : Emb} {S S' : Nat → Prop} {st : St} {a : Act} {sv : List Value} {w : World} {H : Heap}

/-- an index that may be left out, and its value -/
def OptV (v : Option Value) (x : Option Int) : Prop := (v = none ∧ x = none) ∨ ∃ k n, v = some (.int k n) ∧ x = some n

theorem optInt_spec (hs : Sim N Hd S0 w0 ρ S st a sv w) {o : Option Operand} {x : Option Int} (h : optInt st o = some x) : OptV (o.map a.eval) x := by
  unfold optInt at h
  split at h
  · cases h; exact .inl ⟨rfl, rfl⟩
  · rename_i y
    split at h
    · rename_i n hn
      cases h
      have hy := hs.eval y
      cases he : st.eval y <;> rw [he] at hn hy <;> simp [AV.toInt] at hn
      rename_i k m
      subst hn
      exact .inr ⟨k, _, by simp [hy.int_inv.1], rfl⟩
    · cases h

theorem run_bounds {lo hi : Option Value} {x y : Option Int} {isS : Bool} {len cap : Nat} (hl : OptV lo x) (hh : OptV hi y) (hc : len ≤ cap) (h1 : 0 ≤ x.getD 0) (h2 : x.getD 0 ≤ y.getD len) (h3 : y.getD len ≤ (cap : Int)) :
    (Instr.sliceBounds isS len cap lo hi none).run P w = .ok ((x.getD 0).toNat, (y.getD len).toNat, cap) w := by
  rcases hl with ⟨rfl, rfl⟩ | ⟨k, n, rfl, rfl⟩ <;> rcases hh with ⟨rfl, rfl⟩ | ⟨k', m, rfl, rfl⟩ <;> simp only [Option.getD_none, Option.getD_some] at h1 h2 h3 ⊢
  · simp [Instr.sliceBounds]
  · simp only [Instr.sliceBounds, Sem.run_bind, Sem.run_pure, Result.andThen_ok]
    rw [run_sliceBound w k' m cap _ (by omega) (by omega)]
    simp
  · simp only [Instr.sliceBounds, Sem.run_bind, Sem.run_pure, Result.andThen_ok]
    rw [run_sliceBound w k n len _ (by omega) (by omega)]
    simp
  · simp only [Instr.sliceBounds, Sem.run_bind, Sem.run_pure, Result.andThen_ok]
    rw [run_sliceBound w k' m cap _ (by omega) (by omega)]
    simp only [Result.andThen_ok]
    rw [run_sliceBound w k n m.toNat _ (by omega) (by omega)]
    simp

theorem run_bounds3 {lo hi mx : Option Value} {x : Option Int} {b m : Int} {isS : Bool} {len cap : Nat} (hl : OptV lo x) (hh : OptV hi (some b)) (hm : OptV mx (some m)) (h1 : 0 ≤ x.getD 0) (h2 : x.getD 0 ≤ b) (h3 : b ≤ m) (h4 : m ≤ (cap : Int)) :
    (Instr.sliceBounds isS len cap lo hi mx).run P w = .ok ((x.getD 0).toNat, b.toNat, m.toNat) w := by
  rcases hm with ⟨_, h⟩ | ⟨k2, n2, rfl, h⟩
  · cases h
  cases h
  rcases hh with ⟨_, h⟩ | ⟨k1, n1, rfl, h⟩
  · cases h
  cases h
  rcases hl with ⟨rfl, rfl⟩ | ⟨k, n, rfl, rfl⟩ <;> simp only [Option.getD_none, Option.getD_some] at h1 h2 ⊢
  · simp only [Instr.sliceBounds, Sem.run_bind, Sem.run_pure, Result.andThen_ok]
    rw [run_sliceBound w _ _ cap _ (by omega) (by omega)]
    simp only [Result.andThen_ok]
    rw [run_sliceBound w _ _ _ _ (by omega) (by omega)]
    simp
  · simp only [Instr.sliceBounds, Sem.run_bind, Sem.run_pure, Result.andThen_ok]
    rw [run_sliceBound w _ _ cap _ (by omega) (by omega)]
    simp only [Result.andThen_ok]
    rw [run_sliceBound w _ _ _ _ (by omega) (by omega)]
    simp only [Result.andThen_ok]
    rw [run_sliceBound w _ _ _ _ (by omega) (by omega)]
    simp

theorem strVal_extract (s : List Int) (i j : Nat) : (strVal s).extract i j = strVal ((s.take j).drop i) := by
  apply ByteArray.ext
  simp only [strVal, ByteArray.data_extract]
  apply Array.ext'
  simp [Array.toList_extract, List.extract_eq_take_drop, List.map_take, List.map_drop, List.drop_take]

/-- a piece of a list of deep values that stay -/
theorem Elems.piece {T : Ty} {l : List T.den} {b o : Nat} {cs : List Value} (hS : S b) (hm : Many (LV S w T) l cs) (hh : Has w b o cs) (i j : Nat) (hij : i ≤ j) (hj : j ≤ l.length) {q : Option Addr}
    (hq : i < j → q = some ⟨b, o + i * T.size, none⟩) : Elems S w (LV S w T) ((l.take j).drop i) q := by
  by_cases h : i < j
  · refine .inr ⟨b, o + i * T.size, ((cs.take (j * T.size)).drop (i * T.size)), hq h, hS, (hm.take LV.len j).drop LV.len i, ?_⟩
    have hl := Many.length LV.len hm
    have hjl : j * T.size ≤ cs.length := by rw [hl]; exact Nat.mul_le_mul_right _ hj
    have e : (cs.take (j * T.size)).drop (i * T.size) = (cs.drop (i * T.size)).take (j * T.size - i * T.size) := by rw [List.drop_take]
    rw [e]
    exact hh.part _ _ (by have := Nat.mul_le_mul_right T.size hij; omega)
  · refine .inl ?_
    simp; omega

theorem VR.dsl_inv {T : Ty} {l : List T.den} {tt : Bool} {x : Value} (h : VR ρ S w H (.dsl T l tt) x) : ∃ q cap, x = .slice q l.length cap ∧ l.length ≤ cap ∧ (tt = true → cap = l.length) ∧ Elems S w (LV S w T) l q := by
  obtain ⟨q, cap, h1, h2, h3, h4⟩ := VR.rel rfl (by simp) h
  exact ⟨q, cap, by simpa using h1, h2, h3, h4⟩

theorem VR.lsl_inv {id off len : Nat} {full : Bool} {x : Value} (h : VR ρ S w H (.lsl id off len full) x) : ∃ q cap, x = .slice q len cap ∧ InRow ρ w H id off len full q cap := by
  obtain ⟨q, cap, h1, h2⟩ := VR.rel rfl (by simp) h
  exact ⟨q, cap, by simpa using h1, h2⟩

theorem VR.nilsl_inv {x : Value} (h : VR ρ S w H .nilsl x) : x = .slice none 0 0 := by
  have : [x] = [Value.slice none 0 0] := VR.rel rfl (by simp) h
  simpa using this

/-- a slice expression on elements that stay -/
theorem sliceDeep_sound {t ty e : TypeId} {x : Operand} {lo hi mx : Option Operand} {xl xh xm : Option Int} {K : AV → St → Option R} {r : R} {T : Ty} {l : List T.den} {H' : Heap} (hs : Sim N Hd S0 w0 ρ S { st with heap := H' } a sv w)
    (hl : OptV (lo.map a.eval) xl) (hh : OptV (hi.map a.eval) xh) (hm : OptV (mx.map a.eval) xm) (hk : sliceDeep T l xl xh xm H' st K = some r) {q : Option Addr} {cap : Nat} (hcap : l.length ≤ cap)
    (hrun : ∀ lw hw mw, (∀ isS, (Instr.sliceBounds isS l.length cap (lo.map a.eval) (hi.map a.eval) (mx.map a.eval)).run P w = .ok (lw, hw, mw) w) → mw ≤ cap →
      ∃ q', (Instr.sliceAt t (a.eval x) (lo.map a.eval) (hi.map a.eval) (mx.map a.eval)).run P w = .ok (.slice q' (hw - lw) (mw - lw)) w ∧
        (lw ≤ hw → hw ≤ l.length → hw ≤ mw → Elems S w (LV S w T) ((l.take hw).drop lw) q')) :
    OpOK P N Hd S0 w0 sv a (.slice t x lo hi mx) ty w K r := by
  unfold sliceDeep at hk
  simp only at hk
  split at hk
  · rcases br_cases hk with ⟨hc, hk⟩ | ⟨_, hk⟩
    · simp only [decide_eq_true_eq] at hc
      obtain ⟨h1, h2, h3⟩ := hc
      rcases hm with ⟨hm, _⟩ | ⟨_, _, _, hm⟩
      · have hb := fun isS => run_bounds (P := P) (w := w) (isS := isS) hl hh hcap h1 h2 (by omega)
        obtain ⟨q', g1, g2⟩ := hrun _ _ _ (by rw [hm]; exact hb) (Nat.le_refl _)
        refine OpOK.pure hs hk (cv := .slice q' _ _) (by simp only [ex, execOp]; rw [Sem.run_bind]; simp only [g1, Result.andThen_ok]; rfl) (VR.of_rel rfl ⟨q', cap - (xl.getD 0).toNat, ?_, ?_, by simp, g2 (by omega) (by omega) (by omega)⟩)
        · congr 2
          simp
          omega
        · simp
          omega
      · cases hm
    · cases hk
  · rename_i m
    split at hk
    · cases hk
    · rename_i b
      rcases br_cases hk with ⟨hc, hk⟩ | ⟨_, hk⟩
      · simp only [decide_eq_true_eq, Option.getD_some] at hc
        obtain ⟨h1, h2, h3, h4⟩ := hc
        have hb := fun isS => run_bounds3 (P := P) (w := w) (isS := isS) (len := l.length) (cap := cap) hl hh hm h1 h2 h3 (by omega)
        obtain ⟨q', g1, g2⟩ := hrun _ _ _ hb (by omega)
        have fin : ∀ tt : Bool, (tt = true → b = m) → K (.dsl T ((l.take b.toNat).drop (xl.getD 0).toNat) tt) { st with heap := H' } = some r → OpOK P N Hd S0 w0 sv a (.slice t x lo hi mx) ty w K r := by
          intro tt htt hk
          refine OpOK.pure hs hk (cv := .slice q' _ _) (by simp only [ex, execOp]; rw [Sem.run_bind]; simp only [g1, Result.andThen_ok]; rfl) (VR.of_rel rfl ⟨q', m.toNat - (xl.getD 0).toNat, ?_, ?_, ?_, g2 (by omega) (by omega) (by omega)⟩)
          · congr 2
            simp
            omega
          · simp
            omega
          · intro h
            have := htt h
            simp
            omega
        rcases br_cases hk with ⟨hc, hk⟩ | ⟨hc, hk⟩
        · exact fin true (fun _ => by simpa using hc) hk
        · exact fin false (by simp) hk
      · cases hk

theorem Addr.add_none (b o k : Nat) : (⟨b, o, none⟩ : Addr).add k = ⟨b, o + k, none⟩ := by unfold Addr.add; split <;> simp_all

theorem run_slice_bounds {t e : TypeId} {q : Option Addr} {len cap lw hw mw : Nat} {lo hi mx : Option Value} (hu : P.underlying t = some (.slice e)) (hz : 0 < P.cellsOf e)
    (hb : (Instr.sliceBounds true len cap lo hi mx).run P w = .ok (lw, hw, mw) w) :
    (Instr.sliceAt t (.slice q len cap) lo hi mx).run P w = .ok (.slice (if mw = lw then q else q.map (·.add (lw * P.cellsOf e))) (hw - lw) (mw - lw)) w := by
  simp only [Instr.sliceAt, Instr.slice, Sem.run_bind, run_underlying hu, Result.andThen_ok, hb, run_sizeOf_pos hz, Sem.run_pure]

theorem run_array_bounds {t e : TypeId} {q : Addr} {n lw hw mw : Nat} {lo hi mx : Option Value} (hu : P.underlying t = some (.array n e)) (hz : 0 < P.cellsOf e)
    (hb : (Instr.sliceBounds false n n lo hi mx).run P w = .ok (lw, hw, mw) w) :
    (Instr.sliceAt t (.pointer (some q)) lo hi mx).run P w = .ok (.slice (some (if mw = lw then q else q.add (lw * P.cellsOf e))) (hw - lw) (mw - lw)) w := by
  simp only [Instr.sliceAt, Instr.sureAddr, Sem.run_bind, run_underlying hu, Result.andThen_ok, hb, run_sizeOf_pos hz, Sem.run_pure]

/-- elements at an array's place -/
theorem array_sound {t ty : TypeId} {x : Operand} {lo hi mx : Option Operand} {xl xh xm : Option Int} {K : AV → St → Option R} {r : R} {T : Ty} {n : Nat} {l : List T.den} {H' : Heap} (hs : Sim N Hd S0 w0 ρ S { st with heap := H' } a sv w)
    (hl : OptV (lo.map a.eval) xl) (hh : OptV (hi.map a.eval) xh) (hm : OptV (mx.map a.eval) xm) (hk : sliceDeep T l xl xh xm H' st K = some r) (hb : arrayB P t n T = true)
    {b o : Nat} {cs : List Value} (hx : a.eval x = .pointer (some ⟨b, o, none⟩)) (hS : S b) (hv : LV S w (.arr n T) l cs) (hh' : Has w b o cs) :
    OpOK P N Hd S0 w0 sv a (.slice t x lo hi mx) ty w K r := by
  obtain ⟨hn, hv⟩ := hv
  obtain ⟨e, hu, hc, hp⟩ := arrayB_spec hb
  refine sliceDeep_sound (e := e) (q := none) (cap := l.length) hs hl hh hm hk (Nat.le_refl _) fun lw hw mw hbo hmw => ?_
  have h1 := hbo false
  rw [show l.length = n from hn] at h1
  rw [hx]
  refine ⟨_, run_array_bounds hu (by omega) h1, fun g1 g2 g3 => Elems.piece hS hv hh' lw hw g1 g2 fun h => ?_⟩
  rw [if_neg (by omega), Addr.add_none, hc]

theorem opSlice_sound {h : Hand R} {t ty : TypeId} {x : Operand} {lo hi mx : Option Operand} {slot : Nat} {K : AV → St → Option R} {r : R} (hs : Sim N Hd S0 w0 ρ S st a sv w) (hk : opSlice P h t x lo hi mx slot st K = some r) :
    OpOK P N Hd S0 w0 sv a (.slice t x lo hi mx) ty w K r := by
  have hx := hs.eval x
  unfold opSlice at hk
  split at hk
  · rename_i xl xh xm hl hh hm
    have hl := optInt_spec hs hl
    have hh := optInt_spec hs hh
    have hm := optInt_spec hs hm
    unfold sliceAV at hk
    split at hk
    · -- nil
      rename_i he
      rw [he] at hx
      have hv := hx.nilsl_inv
      split at hk
      · rename_i hsl
        obtain ⟨e, hu, hze⟩ : ∃ e, P.underlying t = some (.slice e) ∧ 0 < P.cellsOf e := by unfold isSlice at hsl; split at hsl <;> first | exact ⟨_, by assumption, by simpa using hsl⟩ | cases hsl
        have fin : ∀ {lw hw mw : Nat}, (∀ isS, (Instr.sliceBounds isS 0 0 (lo.map a.eval) (hi.map a.eval) (mx.map a.eval)).run P w = .ok (lw, hw, mw) w) → hw = 0 → mw = 0 → K .nilsl st = some r → OpOK P N Hd S0 w0 sv a (.slice t x lo hi mx) ty w K r := by
          intro lw hw mw hb e1 e2 hk
          subst e1 e2
          refine OpOK.pure hs hk (cv := .slice none 0 0) ?_ (VR.of_rel rfl rfl)
          simp only [ex, execOp, hv]
          rw [Sem.run_bind, run_slice_bounds hu hze (hb true)]
          simp
        split at hk
        · cases hk
        · rename_i _ _ hne
          rcases br_cases hk with ⟨hc, hk'⟩ | ⟨_, hk'⟩
          · clear hk
            simp only [decide_eq_true_eq] at hc
            obtain ⟨c1, c2, c3⟩ := hc
            cases xm with
            | none =>
              rcases hm with ⟨hm, _⟩ | ⟨_, _, _, hm⟩
              · exact fin (fun isS => by rw [hm]; exact run_bounds (len := 0) (cap := 0) hl hh (Nat.le_refl _) (by omega) (by simp; omega) (by simp; omega)) (by simp [c2]) rfl hk'
              · cases hm
            | some m =>
              cases xh with
              | none => exact absurd rfl (hne m rfl)
              | some b =>
                simp only [Option.getD_some] at c2 c3
                exact fin (fun isS => run_bounds3 (len := 0) (cap := 0) hl hh hm (by omega) (by omega) (by omega) (by omega)) (by omega) (by omega) hk'
          · cases hk'
      · cases hk
    · -- a text
      rename_i s he
      rw [he] at hx
      obtain ⟨hv, hby⟩ := hx.str_inv
      split at hk
      · rename_i hst hmx
        have hu : P.underlying t = some .string := by unfold isString at hst; split at hst <;> first | assumption | cases hst
        rcases br_cases hk with ⟨hc, hk⟩ | ⟨_, hk⟩
        · simp only [decide_eq_true_eq] at hc
          obtain ⟨c1, c2, c3⟩ := hc
          rcases hm with ⟨hm, _⟩ | ⟨_, _, _, hm⟩
          · have hsz : (strVal s).size = s.length := by simp [strVal, ByteArray.size]
            have hb := run_bounds (P := P) (w := w) (isS := false) (len := s.length) (cap := s.length) hl hh (Nat.le_refl _) c1 c2 c3
            refine OpOK.pure hs hk (cv := .string ((strVal s).extract (xl.getD 0).toNat (xh.getD s.length).toNat)) ?_ (VR.of_rel rfl ⟨by rw [strVal_extract], fun n hn => hby n (List.mem_of_mem_take (List.mem_of_mem_drop hn))⟩)
            simp only [ex, execOp, hv, Instr.sliceAt, Instr.slice, Sem.run_bind, run_underlying hu, Result.andThen_ok, hm, hsz]
            simp [hb]
          · cases hm
        · cases hk
      · cases hk
    · -- deep elements
      rename_i T l tt he
      rw [he] at hx
      obtain ⟨q, cap, hv, hcap, _, hel⟩ := hx.dsl_inv
      split at hk
      · rename_i hb
        obtain ⟨e, hu, hc, hp⟩ := sliceB_spec hb
        refine sliceDeep_sound (e := e) (q := q) hs hl hh hm hk hcap fun lw hw mw hbo hmw => ?_
        rw [hv]
        refine ⟨_, run_slice_bounds hu (by omega) (hbo true), fun g1 g2 g3 => ?_⟩
        rcases hel with hel | ⟨b, o, cs, rfl, hS, hm, hh⟩
        · exact .inl (by rw [hel]; simp)
        · refine Elems.piece hS hm hh lw hw g1 g2 fun h => ?_
          rw [if_neg (by omega), hc]
          simp [Addr.add_none]
      · cases hk
    · rename_i n T l he
      rw [he] at hx
      obtain ⟨b, o, vs, h1, h2, h3, h4⟩ := hx.rptr_inv
      split at hk
      · rename_i hb
        exact array_sound hs hl hh hm hk hb h1 h2 h3 h4
      · cases hk
    · rename_i id off len full he
      rw [he] at hx
      obtain ⟨q, cap, hv, hin⟩ := hx.lsl_inv
      split at hk
      · rename_i T l frz real hb
        split at hk
        · rename_i hsb
          obtain ⟨e, hu, hc, hp⟩ := sliceB_spec hsb
          have hin' := hin
          obtain ⟨T', n, rr, hri, hn1, hn2, hin⟩ := hin
          have hri' := hri
          unfold rowInfo at hri'
          rw [hb] at hri'
          simp only [Option.some.injEq, Prod.mk.injEq] at hri'
          obtain ⟨rfl, rfl, rfl⟩ := hri'
          have hbl := hs.bl id
          rw [hb] at hbl
          split at hk
          · -- three indices: the elements stay from here on
            obtain ⟨S', g1, g2, g3, g4, g5⟩ := hs.freeze1 id
            have hdl : ((l.drop off).take len).length = len := by simp; omega
            have hlc : len ≤ cap := by
              rcases hin with ⟨b, base, c, ee, fz, i1, i2, i3, i4, i5, i6⟩ | ⟨i1, i2, i3, _⟩ <;> omega
            have hv' := hv
            rw [← hdl] at hv
            refine sliceDeep_sound (e := e) (q := q) (cap := cap) g1 hl hh hm hk (by omega) fun lw hw mw hbo hmw => ?_
            rw [hv]
            refine ⟨_, run_slice_bounds hu (by omega) (hbo true), fun q1 q2 q3 => ?_⟩
            by_cases hlt : lw < hw
            · rcases hin with ⟨b, base, c, ee, fz, i1, i2, i3, i4, i5, i6⟩ | ⟨i1, i2, i3, _⟩
              · rcases hbl with ⟨b', base', cs, j1, j2, j3, _, _⟩ | ⟨_, j2, _⟩
                · rw [i1] at j1
                  obtain ⟨rfl, rfl⟩ : b = b' ∧ base = base' := by simpa using j1
                  have hS : S' b := g3 T ⟨l, frz, real, hb⟩ b base i1
                  have hl' := Many.length LV.len j2
                  have hm' : Many (LV S' w T) ((l.drop off).take len) ((cs.drop (off * T.size)).take (len * T.size)) := ((j2.mono fun _ _ h => LV.mono g2.stay (fun _ _ => rfl) T h).drop LV.len off).take LV.len len
                  have hle : off * T.size + len * T.size ≤ cs.length := by rw [hl', ← Nat.add_mul]; exact Nat.mul_le_mul_right _ hn1
                  refine Elems.piece hS hm' (j3.has.part (off * T.size) (len * T.size) hle) lw hw q1 q2 fun h => ?_
                  rw [if_neg (by omega), i2 (by omega), hc]
                  simp [Addr.add_none]
                · rw [j2] at hn1; simp at hn1; omega
              · omega
            · exact .inl (by simp; omega)
          · rename_i _ hmx
            have fin : ∀ {lw hw : Nat} {fl : Bool}, (∀ isS, (Instr.sliceBounds isS len cap (lo.map a.eval) (hi.map a.eval) (mx.map a.eval)).run P w = .ok (lw, hw, cap) w) → lw ≤ hw → off + hw ≤ l.length → lw ≤ cap → (fl = true → off + hw = l.length) →
                K (.lsl id (off + lw) (hw - lw) fl) st = some r → OpOK P N Hd S0 w0 sv a (.slice t x lo hi mx) ty w K r := by
              intro lw hw fl hbo q1 q2 q3 q4 hk
              refine OpOK.pure hs hk (cv := .slice _ (hw - lw) (cap - lw)) (by simp only [ex, execOp]; rw [Sem.run_bind, hv]; simp only [run_slice_bounds hu (show 0 < P.cellsOf e by omega) (hbo true), Result.andThen_ok]; rfl) (VR.of_rel rfl ⟨_, _, rfl, T, l.length, real, hri, by omega, fun h => by have := q4 h; omega, ?_⟩)
              rcases hin with ⟨b, base, c, ee, fz, i1, i2, i3, i4, i5, i6⟩ | ⟨i1, i2, i3, i4⟩
              · refine .inl ⟨b, base, c, ee, fz, i1, fun h => ?_, fun h => ?_, i4, ?_, by omega⟩
                · rw [if_neg (by omega), i2 (by omega), hc]
                  simp [Addr.add_none, Nat.add_mul, Nat.add_assoc]
                · have := i3 h
                  split <;> simp [this]
                · rw [Nat.add_mul, Nat.add_assoc, Nat.add_assoc, ← Nat.add_mul, ← Nat.add_assoc, show lw + (cap - lw) = cap by omega]
                  omega
              · exact .inr ⟨i1, i2, by omega, i4⟩
            have hlc : len ≤ cap := by
              rcases hin with ⟨b, base, c, ee, fz, i1, i2, i3, i4, i5, i6⟩ | ⟨i1, i2, i3, _⟩ <;> omega
            have hcap : l.length ≤ off + cap := by
              rcases hin with ⟨b, base, c, ee, fz, i1, i2, i3, i4, i5, i6⟩ | ⟨i1, i2, i3, _⟩ <;> omega
            rcases hm with ⟨hm, _⟩ | ⟨_, _, _, hm⟩
            · simp only at hk
              split at hk
              · rcases br_cases hk with ⟨hc', hk⟩ | ⟨_, hk⟩
                · simp only [decide_eq_true_eq] at hc'
                  refine fin (fl := full) (lw := (xl.getD 0).toNat) (hw := len) (fun isS => by rw [hm]; have := run_bounds (P := P) (w := w) (isS := isS) hl hh hlc hc'.1 (by simp; omega) (by simp; omega); simpa using this) (by omega) hn1 (by omega) hn2 hk
                · cases hk
              · rename_i b _
                rcases br_cases hk with ⟨hc', hk⟩ | ⟨_, hk⟩
                · simp only [decide_eq_true_eq] at hc'
                  refine fin (fl := false) (lw := (xl.getD 0).toNat) (hw := b.toNat) (fun isS => by rw [hm]; have := run_bounds (P := P) (w := w) (isS := isS) hl hh hlc hc'.1 (by simp; omega) (by simp; omega); simpa using this) (by omega) (by omega) (by omega) (by simp) hk
                · cases hk
            · cases hm
        · cases hk
      · cases hk
    · rename_i id p he
      rw [he] at hx
      obtain ⟨b, base, o, h1, h2, h3⟩ := hx.ptr_inv
      split at hk
      · rename_i n T l hl'
        split at hk
        · rename_i hb
          obtain ⟨cs, h4, h5⟩ := load_sound hs.bl hl' h1 h2
          obtain ⟨S', g1, g2, g3, g4, g5⟩ := hs.freeze1 id
          have hS : S' b := by
            unfold load at hl'
            split at hl'
            · rename_i v f hb; exact g4 v f hb b base h1
            · rename_i T l f r hb; exact g3 T ⟨l, f, r, hb⟩ b base h1
            · cases hl'
          exact array_sound g1 hl hh hm hk hb h3 hS (LV.mono g2.stay (fun _ _ => rfl) (.arr n T) h5) h4
        · cases hk
      · cases hk
    · cases hk
  · cases hk

end Go.Am
