/-
  AM, twenty-third text: built-in functions.
-/
import Derived.Test.YtjfgannabdaemaaGreatAm21
set_option linter.all false
namespace Go.Am
set_option linter.unusedSimpArgs false

variable {R : Type} {P : Program} {N : Nat} {Hd S0 : Nat → Prop} {w0 : World} {ρ : Emb} {S S' : Nat → Prop} {st : St} {a : Act} {sv : List Value} {w : World} {H : Heap}

theorem LVv.flat_sl {w : World} {T : Ty} {xs : List T.den} {x : Value} {news : List Value} (hf : T.flat = true) (h : Many (LV S' w T) xs news) : Many (LV S w T) xs news :=
  h.mono fun _ _ h => LV.flat T hf h

/-- what is read deep, and kept -/
theorem kept_sound {T : Ty} {x : Operand} {xs : List T.den} {tx e' : TypeId} (hs : Sim N Hd S0 w0 ρ S st a sv w) (hd : deep st.heap (.sl T) (st.eval x) = some xs) :
    ∃ S', Sim N Hd S0 w0 ρ S' { st with heap := kept st.heap T (st.eval x) } a sv w ∧ Carry (fun _ => True) ρ S w st.heap ρ S' w (kept st.heap T (st.eval x)) ∧
      (P.underlying tx = some (.slice e') → ∃ news, Src P T.size tx (a.eval x) xs.length news w ∧ Many (LV S' w T) xs news ∧ ∀ m, m ≤ xs.length → (Builtin.firstCells T.size m (a.eval x)).run P w = .ok (news.take (m * T.size)).toArray w) := by
  have hx := hs.eval x
  unfold kept
  cases hf : T.flat with
  | true =>
    refine ⟨S, hs, Carry.refl _ _ _ _, fun hu => ?_⟩
    have hv : LVv (fun _ => True) w (.sl T) xs (a.eval x) := deep_VR' hs.bl (fun _ _ => trivial) hx hd (.inl fun _ _ _ _ _ => trivial)
    obtain ⟨news, h1, h2, h3⟩ := src_slice hu hv
    exact ⟨news, h1, h2.mono fun _ _ h => LV.flat T hf h, h3⟩
  | false =>
    obtain ⟨S', g1, g2, g3, _⟩ := Sim.freeze (st.eval x).rows hs
    refine ⟨S', g1, g2, fun hu => ?_⟩
    have hv : LVv S' w (.sl T) xs (a.eval x) := deep_VR' hs.bl g2.stay hx hd (.inl fun id hid b base hρ => g3 id hid (hx.rows_row id hid) b base hρ)
    exact src_slice hu hv

/-- so many zeros, behind nothing -/
theorem append_make {t tx ty : TypeId} {T : Ty} {k kx : IntKind} {n : Int} {K : AV → St → Option R} {r : R} (hs : Sim N Hd S0 w0 ρ S st a sv w) (hT : elemTy P t = some T) (hu' : P.underlying tx = some (.int kx))
    (hk : br (decide (n = 0)) (K .nilsl st) (br (decide (0 < n ∧ n ≤ (lim : Int))) (K (.lsl st.heap.length 0 n.toNat true) { st with heap := push st.heap (.row T (List.replicate n.toNat T.zero) false true) }) none) = some r) :
    AppOK P N Hd S0 w0 sv a t tx ty (.slice none 0 0) (.int k n) w K r := by
  obtain ⟨e, hu, _, hc, hby, hp, hz⟩ := elemTy_spec hT
  obtain ⟨i, z, hi, hzv, hzs⟩ := zero_size hz
  have hbi : i.bytes ≤ 4096 := by simpa [Program.bytesOf, hi] using hby
  have hisz : i.size = T.size := by rw [← hc]; simp [Program.cellsOf, hi]
  rcases br_cases hk with ⟨h0, hk⟩ | ⟨_, hk⟩
  · have h0 : n = 0 := by simpa using h0
    subst h0
    refine ⟨.nilsl, st, ρ, S, .slice none 0 0, w, hk, ?_, hs, VR.of_rel rfl rfl⟩
    have w0 : IntKind.i64.wrap 0 = 0 := by rw [IntKind.wrap_i64]; omega
    simp [Builtin.append_, run_underlying hu, run_underlying hu', sizeOf, typeInfo, hi, asInt, asIntOf, w0]
  · rcases br_cases hk with ⟨h0, hk⟩ | ⟨_, hk⟩
    · have h0 : 0 < n ∧ n ≤ 4294967296 := of_decide_eq_true h0
      obtain ⟨m, rfl⟩ : ∃ m : Nat, n = (m : Int) := ⟨n.toNat, by omega⟩
      simp only [Int.toNat_natCast] at hk
      have hm : 0 < m ∧ m ≤ 4294967296 := by omega
      have hs' := hs.world (w' := w.drew) rfl
      have hnone : nthB st.heap st.heap.length = none := by rw [nthB_eq]; simp
      obtain ⟨cells, g1, g2, g3⟩ := zero_row (P := P) (S := S) (w := w.drew) hp hz m
      have hcell : Builtin.zeroCells z.cells m = cells := by
        have hz' : (zeroValue e).run P w.drew = .ok z w.drew := by simp [zeroValue, typeInfo, hi, hzv]
        rcases g3 with ⟨h0, _⟩ | ⟨_, zv, h1, h2⟩
        · have := Nat.mul_pos hm.1 hp; omega
        · rw [hz'] at h1
          injection h1 with h1 _
          subst h1
          rw [h2]
          unfold Builtin.zeroCells
          rw [hzs]
      have hge := grownCap_ge w m 0 e
      have hfit : Builtin.nextslicecap (0 + m) 0 * i.bytes ≤ 281474976710656 := growslice_fits (by omega) (by
        have := Nat.mul_le_mul (show 0 + m ≤ 4294967296 by omega) hbi
        omega)
      have hrun : (Builtin.append_ #[t, tx] ty #[.slice none 0 0, .int k (m : Int)]).run P w =
          .ok (.slice (some ⟨w.heap.size, 0, none⟩) m (grownCap w m 0 e)) (w.drew.alloc (.cells (cells.toList ++ (Builtin.zeroCells z.cells (grownCap w m 0 e - m)).toList).toArray e)) := by
        have w1 : IntKind.i64.wrap (m : Int) = m := by rw [IntKind.wrap_i64]; omega
        have n1 : ¬ ((m : Int) < 0) := by omega
        have n2 : ¬ ((m : Int) * (i.bytes : Int) > 2 ^ 48) := by
          have := Nat.mul_le_mul hm.2 hbi
          have e1 : ((m : Int) * (i.bytes : Int)) = ((m * i.bytes : Nat) : Int) := by simp
          rw [e1]
          omega
        have n3 : ¬ (m * T.size = 0) := by have := Nat.mul_pos hm.1 hp; omega
        have n4 : ¬ (m ≤ 0) := by omega
        have n5 : ¬ (9223372036854775807 < (m : Int)) := by omega
        have n6 : ¬ (281474976710656 < Builtin.nextslicecap m 0 * i.bytes) := by rw [Nat.zero_add] at hfit; omega
        have n2' : ¬ (281474976710656 < (m : Int) * (i.bytes : Int)) := by simpa using n2
        have n7 : ¬ (m = 0) := by omega
        rw [← hcell]
        simp [Builtin.append_, run_underlying hu, run_underlying hu', sizeOf, typeInfo, zeroValue, hi, hzv, asInt, asIntOf, w1, n1, n2', hisz, n4, n5, n6, n3, n7, Question.forced, Builtin.firstCells, newRow, grownCap]
        try (congr 2; apply Array.ext'; simp)
      have hcl := Many.length LV.len g1
      obtain ⟨ρ', q1, q2, _⟩ := newRow_sound hs' hnone (push st.heap (.row T (List.replicate m T.zero) false true)) (by unfold push; rw [nthB_push, if_pos rfl]) (fun i hi => by unfold push; rw [nthB_push, if_neg hi]) (e := e)
        g1 m (grownCap w m 0 e) true (by simp) (fun _ => by simp) (by simpa using hge) (Builtin.zeroCells z.cells (grownCap w m 0 e - m)).toList (by
          have h5 : (Builtin.zeroCells z.cells (grownCap w m 0 e - m)).toList.length = (grownCap w m 0 e - m) * T.size := by rw [Array.length_toList, size_zeroCells, hzs]
          rw [hcl, h5, List.length_replicate, ← Nat.add_mul]
          exact Nat.mul_le_mul_right _ (by omega))
      exact ⟨_, _, ρ', S, _, _, hk, hrun, q1, q2⟩
    · cases hk

theorem appendAV_sound {t tx ty : TypeId} {s x : Operand} {K : AV → St → Option R} {r : R} (hs : Sim N Hd S0 w0 ρ S st a sv w) (hk : appendAV P t tx (st.eval s) (st.eval x) st K = some r) :
    AppOK P N Hd S0 w0 sv a t tx ty (a.eval s) (a.eval x) w K r := by
  unfold appendAV at hk
  split at hk
  · cases hk
  · rename_i T hT
    split at hk
    · rename_i e' hu
      split at hk
      · rename_i xs hd
        obtain ⟨S', g1, g2, g3⟩ := kept_sound (P := P) (tx := tx) (e' := e') hs hd
        obtain ⟨news, h1, h2, _⟩ := g3 hu
        exact grow_sound g1 hT ((hs.eval s).carry g2 (AV.on_true _)) h1 h2 hk
      · cases hk
    · rename_i hu
      split at hk
      · rename_i l he
        split at hk
        · rename_i xs hc
          obtain ⟨rfl, hxs⟩ := castL_eq hc
          simp only at hxs
          subst hxs
          have hx := hs.eval x
          rw [he] at hx
          obtain ⟨hv, hb⟩ := hx.str_inv
          obtain ⟨news, h1, h2⟩ := src_string (P := P) (S := S) (w := w) hu hb
          rw [← hv] at h1
          exact grow_sound hs hT (hs.eval s) h1 h2 hk
        · cases hk
      · cases hk
    · rename_i kx hu
      split at hk
      · rename_i k n hes hex
        have h1 := hs.eval s
        have h2 := hs.eval x
        rw [hes] at h1
        rw [hex] at h2
        rw [nilsl_inv h1, (VR.int_inv h2).1]
        exact append_make hs hT hu hk
      · cases hk
    · cases hk

theorem run_storeVar_own' {b base o : Nat} {vs cs : List Value} (h1 : ∀ x ∈ vs, x.oneCell' = true) (ho : Own w b base cs) (hl : o + vs.length ≤ cs.length) :
    (storeCells ⟨b, base + o, none⟩ vs).run P w = .ok () (w.setCells b (base + o) vs) ∧ Own (w.setCells b (base + o) vs) b base (Am.over cs o vs) ∧
      (∀ c e fz, w.heap[b]? = some (.cells c e fz) → ∃ c' e' fz', (w.setCells b (base + o) vs).heap[b]? = some (.cells c' e' fz') ∧ c'.size = c.size) := by
  obtain ⟨c, e, lo, hi, g1, g2, g3, g4⟩ := ho
  obtain ⟨c', k1, k2⟩ := setCells_same vs (base + o) w c g1 (by omega)
  have hsz : c'.size = c.size := by
    have := congrArg List.length k2
    rw [over_length (by simp; omega)] at this
    simpa using this
  refine ⟨?_, ⟨c', e, lo, hi, k1, by rw [over_length (by omega)]; omega, ?_, by omega⟩, ?_⟩
  · have := run_storeCells_cells (P := P) b (base + o) vs 0 w (fun j hj => by
        rw [cell?_of g1]
        have : base + o + 0 + j < c.size := by omega
        rw [Array.getElem?_eq_getElem this]; rfl) (fun j hj => frozen?_of g1 g4 (by omega)) h1
    simpa using this
  · intro j x hj
    have hjl : j < cs.length := by
      have := (List.getElem?_eq_some_iff.1 hj).1
      rwa [over_length (by omega)] at this
    rw [over_get (by omega)] at hj
    have : c'[base + j]? = (Am.over c.toList (base + o) vs)[base + j]? := by rw [← k2]; simp
    rw [this, over_get (by simp; omega)]
    split at hj
    · rename_i hb
      rw [if_pos (by omega), ← hj]
      congr 1
      omega
    · rename_i hb
      rw [if_neg (by omega)]
      simpa using g3 j x hj
  · intro c2 e2 f2 h2
    rw [g1] at h2
    obtain ⟨rfl, rfl, rfl⟩ : c = c2 ∧ e = e2 ∧ (lo, hi) = f2 := by
      injection h2 with h2; injection h2 with a1 a2 a3; exact ⟨a1, a2, a3⟩
    exact ⟨c', e, _, k1, hsz⟩

/-- what a copy is made of -/
theorem listOf_sound {T : Ty} {x : Operand} {xs : List T.den} {tx e' : TypeId} (hu : P.underlying tx = some (.slice e')) (hs : Sim N Hd S0 w0 ρ S st a sv w) (hd : listOf st.heap T (st.eval x) = some xs) :
    ∃ S', Sim N Hd S0 w0 ρ S' { st with heap := kept st.heap T (st.eval x) } a sv w ∧ Carry (fun _ => True) ρ S w st.heap ρ S' w (kept st.heap T (st.eval x)) ∧
      ∃ news : List Value, (Builtin.lenOf (a.eval x)).run P w = .ok xs.length w ∧ news.length = xs.length * T.size ∧ (∀ u ∈ news, u.oneCell' = true) ∧ Many (LV S' w T) xs news ∧
        ∀ m, m ≤ xs.length → (Builtin.firstCells T.size m (a.eval x)).run P w = .ok (news.take (m * T.size)).toArray w := by
  unfold listOf at hd
  split at hd
  · rename_i l he
    obtain ⟨rfl, hxs⟩ := castL_eq hd
    simp only at hxs
    subst hxs
    have hx := hs.eval x
    rw [he] at hx
    obtain ⟨hv, hb⟩ := hx.str_inv
    refine ⟨S, ?_, ?_, l.map (Value.int .u8), ?_, by simp [Ty.size], fun u hu => ?_, ints_many hb, fun m hm => ?_⟩
    · exact hs
    · exact Carry.refl _ _ _ _
    · rw [hv]; simp [Builtin.lenOf, strVal_size]
    · obtain ⟨n, _, rfl⟩ := List.mem_map.1 hu; rfl
    · rw [hv]
      simp only [Builtin.firstCells, Ty.size, Nat.mul_one, Sem.run_pure]
      congr 1
      apply Array.ext'
      have e : (strVal l).data.toList = l.map fun n => UInt8.ofNat n.toNat := by simp [strVal]
      have e2 : ((strVal l).extract 0 m).data.toList = (l.take m).map fun n => UInt8.ofNat n.toNat := by
        rw [ByteArray.data_extract]
        simp [e, List.map_take]
      simp only [Array.toList_map, e2, List.map_map, List.toList_toArray]
      rw [← List.map_take]
      apply List.map_congr_left
      intro n hn
      obtain ⟨g1, g2⟩ := hb n (List.mem_of_mem_take hn)
      simp
      omega
  · obtain ⟨S', g1, g2, g3⟩ := kept_sound (P := P) (tx := tx) (e' := e') hs hd
    obtain ⟨news, h1, h2, h3⟩ := g3 hu
    exact ⟨S', g1, g2, news, h1.len w, h1.newsLen, h1.one, h2, h3⟩

theorem copyAV_sound {t ty : TypeId} {ts : Array TypeId} {d x : Operand} {K : AV → St → Option R} {r : R} (hs : Sim N Hd S0 w0 ρ S st a sv w) (ht : ts[0]? = some t) (hk : copyAV P t (st.eval d) (st.eval x) st K = some r) :
    ∃ v st' ρ' S' cv w', K v st' = some r ∧ (Builtin.copy_ ts ty #[a.eval d, a.eval x]).run P w = .ok cv w' ∧ Sim N Hd S0 w0 ρ' S' st' a sv w' ∧ VR ρ' S' w' st'.heap v cv := by
  unfold copyAV at hk
  split at hk
  · cases hk
  · rename_i T hT
    obtain ⟨e, hu, _, hce, hby, hp, hz⟩ := elemTy_spec hT
    split at hk
    · cases hk
    · rename_i xs hd
      have hd' := hs.eval d
      split at hk
      · rename_i id off len full he
        rw [he] at hd'
        obtain ⟨S', g1, g2, news, hlen0', hnl', hone', h2, h3⟩ := listOf_sound (P := P) (tx := t) (e' := e) hu hs hd
        split at hk
        · rename_i T0 l0 real hb
          split at hk
          · rename_i l hcast
            obtain ⟨rfl, hl0⟩ := castL_eq hcast
            simp only at hl0
            subst hl0
            rcases br_cases hk with ⟨hlim, hk⟩ | ⟨_, hk⟩
            · have hlim := Nat.le_of_ble_eq_true hlim
              have hbl := g1.bl id
              simp only at hbl
              rw [hb] at hbl
              have hlt := nthB_lt hb
              obtain ⟨q, cap, hv, hin⟩ := (hd'.carry g2 (AV.on_true _)).lsl_inv
              obtain ⟨T', nn, r', hri, hn1, hn2, hin⟩ := hin
              unfold rowInfo at hri
              rw [hb] at hri
              simp only [Option.some.injEq, Prod.mk.injEq] at hri
              obtain ⟨rfl, rfl, rfl⟩ := hri
              have hlen0 : (Builtin.lenOf (a.eval x)).run P w = .ok xs.length w := hlen0'
              have hnl : news.length = xs.length * T0.size := hnl'
              generalize hm0 : min len xs.length = m at *
              have hml : m ≤ len ∧ m ≤ xs.length := by omega
              have hfc := h3 m hml.2
              have hmn : Nat.min xs.length len = m := by rw [← hm0]; exact Nat.min_comm _ _
              have hty : ts[0]? = some t := ht
              have hrun0 : ∀ w', (match q with | some ad => storeCells ad (news.take (m * T0.size)) | none => pure ()).run P w = .ok () w' → (Builtin.copy_ ts ty #[a.eval d, a.eval x]).run P w = .ok (goInt m) w' := by
                intro w' hst
                rw [hv]
                have e1 : (sizeOf e).run P w = .ok T0.size w := by rw [run_sizeOf_pos (by omega), hce]
                cases q with
                | none =>
                  obtain rfl : w = w' := by simpa using hst
                  simp [Builtin.copy_, hty, run_underlying hu, hlen0, hmn, e1, hfc]
                | some ad => simp [Builtin.copy_, hty, run_underlying hu, hlen0, hmn, e1, hfc, hst]
              have hvi : ∀ {ρ : Emb} {S : Nat → Prop} {w : World} {H : Heap}, VR ρ S w H (.int .i64 (m : Nat)) (goInt m) := VR.int_mk (int_range hlim)
              by_cases hm00 : m = 0
              · have e2 : splice l0 off (xs.take m) = l0 := by rw [hm00]; simp [splice]
                rw [e2] at hk
                have e3 : setBlk (kept st.heap T0 (st.eval x)) id (.row T0 l0 false real) = kept st.heap T0 (st.eval x) := setR_self hb
                rw [e3] at hk
                exact ⟨_, _, ρ, S', _, w, hk, hrun0 w (by rw [hm00]; cases q <;> simp [storeCells]), g1, hvi⟩
              · rcases hin with ⟨b, base, c, ee, fz, i1, i2, i3, i4, i5, i6⟩ | ⟨i1, i2, i3, i4⟩
                · rcases hbl with ⟨b', base', cs, j1, j2, j3, j7, _⟩ | ⟨j1, _⟩
                  · rw [j1] at i1
                    obtain ⟨rfl, rfl⟩ : b' = b ∧ base' = base := by simpa using i1
                    have hq := i2 (by omega)
                    subst hq
                    have hcl := Many.length LV.len j2
                    have hmT : m * T0.size ≤ news.length := by rw [hnl]; exact Nat.mul_le_mul_right _ hml.2
                    have htl : (news.take (m * T0.size)).length = m * T0.size := by simp; omega
                    have hle : off * T0.size + m * T0.size ≤ cs.length := by rw [hcl, ← Nat.add_mul]; exact Nat.mul_le_mul_right _ (by omega)
                    have hst := run_storeVar_own' (P := P) (b := b') (base := base') (o := off * T0.size) (vs := news.take (m * T0.size)) (fun u hu => hone' u (List.mem_of_mem_take hu)) j3 (by omega)
                    obtain ⟨s1, s2, s3⟩ := hst
                    have hset2 : nthB (setBlk (kept st.heap T0 (st.eval x)) id (.row T0 (splice l0 off (xs.take m)) false real)) id = some (.row T0 (splice l0 off (xs.take m)) false real) := by
                      unfold setBlk; rw [nthB_set, if_pos ⟨rfl, hlt⟩]
                    have hlen : (splice l0 off (xs.take m)).length = l0.length := by simp [splice]; omega
                    have hm : Many (LV S' w T0) (splice l0 off (xs.take m)) (Am.over cs (off * T0.size) (news.take (m * T0.size))) := by
                      have q1 := (j2.take LV.len off).append (h2.take LV.len m)
                      have q2 := j2.drop LV.len (off + (xs.take m).length)
                      have e4 : (off + (xs.take m).length) * T0.size = off * T0.size + (news.take (m * T0.size)).length := by rw [htl, Nat.add_mul, List.length_take_of_le hml.2]
                      rw [e4] at q2
                      exact q1.append q2
                    have hsim := (g1.write id b' base' j1 (j7 rfl) _ (fun z hz => setCells_heap hz _ _ _) (setCells_size _ _ _) s3 (setBlk (kept st.heap T0 (st.eval x)) id (.row T0 (splice l0 off (xs.take m)) false real)) (fun i hi => nthB_set_ne hi) (by simp only; rw [hb]; simp)
                      (by funext p; unfold offB; simp only; rw [hset2, hb]; simp only [hlen]) (by unfold rowInfo; simp only; rw [hset2, hb]; simp only [hlen]) (by unfold mapInfo; simp only; rw [hset2, hb]) (fun k => by
                      rw [hset2]
                      exact .inl ⟨b', base', _, j1, hm.mono fun _ _ h => LV.mono (fun _ h => h) k.same T0 h, s2, j7, by simp⟩)).1
                    exact ⟨_, _, ρ, S', _, _, hk, hrun0 _ s1, hsim, hvi⟩
                  · rw [i1] at j1; cases j1
                · omega
            · cases hk
          · cases hk
        · cases hk
      · cases hk

theorem evals_all (hs : Sim N Hd S0 w0 ρ S st a sv w) (l : List Operand) : All2 (VR ρ S w st.heap) (l.map st.eval) (l.map a.eval) := by
  induction l with
  | nil => trivial
  | cons x l ih => exact ⟨hs.eval x, ih⟩

theorem list_head {α : Type} {l : Array α} {x : α} {r : List α} (h : l.toList = x :: r) : l[0]? = some x := by
  rw [← Array.getElem?_toList, h]; rfl

theorem two_args {l : Array Operand} {x y : AV} (h : l.toList.map st.eval = [x, y]) : ∃ p q, l.toList = [p, q] ∧ st.eval p = x ∧ st.eval q = y := by
  cases hl : l.toList with
  | nil => rw [hl] at h; simp at h
  | cons p r => cases r with
    | nil => rw [hl] at h; simp at h
    | cons q r => cases r with
      | nil => rw [hl] at h; simp only [List.map_cons, List.map_nil, List.cons.injEq, and_true] at h; exact ⟨p, q, rfl, h.1, h.2⟩
      | cons _ _ => rw [hl] at h; simp at h

theorem one_arg {l : Array Operand} {x : AV} (h : l.toList.map st.eval = [x]) : ∃ p, l.toList = [p] ∧ st.eval p = x := by
  cases hl : l.toList with
  | nil => rw [hl] at h; simp at h
  | cons p r => cases r with
    | nil => rw [hl] at h; simp only [List.map_cons, List.map_nil, List.cons.injEq, and_true] at h; exact ⟨p, rfl, h⟩
    | cons q r => rw [hl] at h; simp at h

theorem map_args {l : Array Operand} {ps : List Operand} (h : l.toList = ps) : l.map a.eval = (ps.map a.eval).toArray := by
  apply Array.ext'
  simp [h]

theorem opBuiltin_sound {ty : TypeId} {b : Builtin} {c : Call} {K : AV → St → Option R} {r : R} (hs : Sim N Hd S0 w0 ρ S st a sv w) (hb : c.callee = .builtin b) (hk : builtinAV P b c.argTypes.toList (c.args.toList.map st.eval) st K = some r) :
    OpOK P N Hd S0 w0 sv a (.call c) ty w K r := by
  have red : ∀ {m : Sem Value} {cv : Value} {w' : World}, (∀ cs, builtin b c.argTypes ty cs (c.args.map a.eval) = (do pure (Next.value (← m)))) → m.run P w = .ok cv w' → (ex a.eval (.call c) ty).run P w = .ok (.value cv) w' := by
    intro m cv w' h1 h2
    simp only [ex, execOp, resolve, hb, Sem.run_bind, Sem.run_pure, Result.andThen_ok, invoke]
    rw [h1]
    simp [h2]
  unfold builtinAV at hk
  split at hk
  · rename_i x t tr hx ht
    obtain ⟨p, hp, rfl⟩ := one_arg hx
    split at hk
    · rename_i n hn
      rcases br_cases hk with ⟨hl, hk⟩ | ⟨_, hk⟩
      · refine OpOK.pure hs hk (red (m := Builtin.len_ c.argTypes ty #[a.eval p]) ?_ (lenAV_sound hs hn (list_head ht))) (VR.int_mk (int_range (Nat.le_of_ble_eq_true hl)))
        intro cs; rw [map_args hp]; rfl
      · cases hk
    · cases hk
  · rename_i t tr hx ht
    obtain ⟨p, hp, hpe⟩ := one_arg hx
    split at hk
    · rename_i hsl
      have hv := hs.eval p
      rw [hpe] at hv
      obtain ⟨e, hu⟩ : ∃ e, P.underlying t = some (.slice e) := by unfold isSlice at hsl; split at hsl <;> first | exact ⟨_, by assumption⟩ | cases hsl
      refine OpOK.pure hs hk (red (m := Builtin.cap_ c.argTypes ty #[a.eval p]) (cv := goInt 0) (by intro cs; rw [map_args hp]; rfl) ?_) (VR.int_mk (int_range (by simp [lim])))
      rw [hv.nilsl_inv]
      simp [Builtin.cap_, list_head ht, run_underlying hu]
    · cases hk
  · rename_i k n l hx
    cases hl : c.args.toList with
    | nil => rw [hl] at hx; simp at hx
    | cons p ps =>
      rw [hl] at hx
      simp only [List.map_cons, List.cons.injEq] at hx
      obtain ⟨h1, rfl⟩ := hx
      have hv := hs.eval p
      rw [h1] at hv
      obtain ⟨hv, hr⟩ := hv.int_inv
      split at hk
      · rename_i v hm
        obtain ⟨m, rfl, g1, g2⟩ := minmax_sound (P := P) (f := Builtin.min2) (fun k x l y h => by
          subst h
          simp only [Builtin.min2, Sem.run_pure]
          congr 2
          split <;> omega) (fun x y => by omega) hs hm hr
        refine OpOK.pure hs hk (red (m := Builtin.min_ c.argTypes ty (c.args.map a.eval)) (fun _ => rfl) ?_) (VR.int_mk g1)
        rw [map_args hl]
        simp only [Builtin.min_, List.map_cons, hv]
        exact g2
      · cases hk
  · rename_i k n l hx
    cases hl : c.args.toList with
    | nil => rw [hl] at hx; simp at hx
    | cons p ps =>
      rw [hl] at hx
      simp only [List.map_cons, List.cons.injEq] at hx
      obtain ⟨h1, rfl⟩ := hx
      have hv := hs.eval p
      rw [h1] at hv
      obtain ⟨hv, hr⟩ := hv.int_inv
      split at hk
      · rename_i v hm
        obtain ⟨m, rfl, g1, g2⟩ := minmax_sound (P := P) (f := Builtin.max2) (fun k x l y h => by
          subst h
          simp only [Builtin.max2, Sem.run_pure]
          congr 2
          split <;> omega) (fun x y => by omega) hs hm hr
        refine OpOK.pure hs hk (red (m := Builtin.max_ c.argTypes ty (c.args.map a.eval)) (fun _ => rfl) ?_) (VR.int_mk g1)
        rw [map_args hl]
        simp only [Builtin.max_, List.map_cons, hv]
        exact g2
      · cases hk
  · rename_i s x t tx hx ht
    obtain ⟨p, q, hp, rfl, rfl⟩ := two_args hx
    obtain ⟨v, st', ρ', S', cv, w', g1, g2, g3, g4⟩ := appendAV_sound (ty := ty) hs hk
    refine ⟨v, st', ρ', S', cv, w', g1, .inl (red (m := Builtin.append_ #[t, tx] ty #[a.eval p, a.eval q]) ?_ g2), g3, g4⟩
    intro cs
    rw [map_args hp]
    have : c.argTypes = #[t, tx] := by apply Array.ext'; rw [ht]
    rw [this]
    rfl
  · rename_i d x t tr hx ht
    obtain ⟨p, q, hp, rfl, rfl⟩ := two_args hx
    obtain ⟨v, st', ρ', S', cv, w', g1, g2, g3, g4⟩ := copyAV_sound (ty := ty) hs (list_head ht) hk
    refine ⟨v, st', ρ', S', cv, w', g1, .inl (red (m := Builtin.copy_ c.argTypes ty #[a.eval p, a.eval q]) ?_ g2), g3, g4⟩
    intro cs
    rw [map_args hp]
    rfl
  · cases hk

end Go.Am
