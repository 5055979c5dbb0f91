/-
  AM, thirteenth text: more operations that only compute, or read.
-/
import Derived.Test.YtjfgannabdaemaaGreatAm11
set_option linter.all false
namespace Go.Am
set_option linter.unusedSimpArgs false

variable {R : Type} {P : Program} {N : Nat} {Hd S0 : Nat → Prop} {w0 : World} {ρ : Emb} {S : Nat → Prop} {st : St} {a : Act} {sv : List Value} {w : World} {H : Heap}

theorem opMove_sound {ty : TypeId} {x : Operand} {K : AV → St → Option R} {r : R} (hs : Sim N Hd S0 w0 ρ S st a sv w) (hk : K (st.eval x) st = some r) :
    OpOK P N Hd S0 w0 sv a (.move x) ty w K r ∧ OpOK P N Hd S0 w0 sv a (.assign x) ty w K r :=
  ⟨OpOK.pure hs hk (by simp [ex, execOp]) (hs.eval x), OpOK.pure hs hk (by simp [ex, execOp]) (hs.eval x)⟩

theorem opPick_sound {h : Hand R} {ty : TypeId} {c x y : Operand} {slot : Nat} {K : AV → St → Option R} {r : R} (hs : Sim N Hd S0 w0 ρ S st a sv w) (hk : opPick P h c x y slot st K = some r) :
    OpOK P N Hd S0 w0 sv a (.pick c x y) ty w K r := by
  have hc := hs.eval c
  unfold opPick at hk
  split at hk
  · rename_i t he
    rw [he] at hc
    have e := hc.bool_inv
    rcases br_cases hk with ⟨rfl, hk⟩ | ⟨rfl, hk⟩
    · exact OpOK.pure hs hk (by simp [ex, execOp, e, asBool]) (hs.eval x)
    · exact OpOK.pure hs hk (by simp [ex, execOp, e, asBool]) (hs.eval y)
  · cases hk

theorem opUn_sound {ty t : TypeId} {op : UnOp} {x : Operand} {K : AV → Option R} {r : R} {K' : AV → St → Option R} (hK : ∀ v, K v = K' v st) (hs : Sim N Hd S0 w0 ρ S st a sv w) (hk : unAV op (st.eval x) K = some r) :
    OpOK P N Hd S0 w0 sv a (.unOp op t x) ty w K' r := by
  have hx := hs.eval x
  unfold unAV at hk
  split at hk
  · rename_i k n he
    rw [he] at hx
    obtain ⟨e, _⟩ := hx.int_inv
    rw [hK] at hk
    exact OpOK.pure hs hk (by simp [ex, execOp, e, Op.unary, Op.intArith]) (VR.int_mk (wrap_range _ _))
  · rename_i k n he
    rw [he] at hx
    obtain ⟨e, _⟩ := hx.int_inv
    split at hk
    · rename_i m hm
      simp only [bits, Option.some.injEq] at hm
      subst hm
      rw [hK] at hk
      exact OpOK.pure hs hk (by simp [ex, execOp, e, Op.unary, Op.intBits]) (VR.int_mk (wrap_range _ _))
    · cases hk
  · rename_i b he
    rw [he] at hx
    have e := hx.bool_inv
    rw [hK] at hk
    exact OpOK.pure hs hk (by simp [ex, execOp, e, Op.unary]) (VR.bool_mk _)
  · cases hk

theorem opMakeFunc_sound {ty : TypeId} {f : FuncId} {first caps : Array Operand} {K : AV → St → Option R} {r : R} (hs : Sim N Hd S0 w0 ρ S st a sv w) (hf : first.size = 0) (hk : K (.func f (chain (caps.toList.map st.eval))) st = some r) :
    OpOK P N Hd S0 w0 sv a (.makeFunc (.func f) first caps) ty w K r := by
  have e : first = #[] := Array.eq_empty_of_size_eq_zero hf
  subst e
  refine OpOK.pure hs hk (cv := .func (.func f) #[] (caps.toList.map a.eval).toArray) ?_ (VR.of_rel rfl ⟨_, rfl, chain_list (evals hs caps.toList)⟩)
  have : (caps.toList.map a.eval).toArray = caps.map a.eval := by apply Array.ext'; simp
  simp [ex, execOp, Instr.makeFunc, this]

theorem LV.part_agg {t : TypeId} {u : AV} (hf : fits P t u = true) {cs : Array Value} {c pre post : List Value} (hc : cs.toList = pre ++ (c ++ post)) (hu : Rel ρ S w H u true c) :
    ∃ cv, (part t cs pre.length).run P w = .ok cv w ∧ VR ρ S w H u cv := by
  obtain ⟨d, hd, hg, hs, h1⟩ := fits_spec (w := w) hf
  have hl := Rel.length u hu
  unfold part
  simp only [Sem.run_bind, hg, Result.andThen_ok]
  cases hb : u.isAgg with
  | true =>
    refine ⟨.agg c.toArray, ?_, VR.of_agg hb hu⟩
    simp only [if_true, Sem.run_bind, hs, Result.andThen_ok, Sem.run_pure]
    congr 2
    apply Array.ext'
    rw [← hl]
    simp [Array.toList_extract, hc, List.extract_eq_take_drop]
  | false =>
    obtain ⟨x, rfl⟩ : ∃ x, c = [x] := by
      have := h1 hb
      cases c with
      | nil => simp at hl; omega
      | cons x r => cases r with
        | nil => exact ⟨x, rfl⟩
        | cons _ _ => simp at hl; omega
    refine ⟨x, ?_, VR.of_rel hb hu⟩
    have : cs[pre.length]? = some x := by rw [← Array.getElem?_toList, hc]; simp
    simp [this]

theorem opField_sound {h : Hand R} {t ty : TypeId} {x : Operand} {f slot : Nat} {K : AV → St → Option R} {r : R} (hs : Sim N Hd S0 w0 ρ S st a sv w) (hk : opField P h t x f slot st K = some r) :
    OpOK P N Hd S0 w0 sv a (.field t x f) ty w K r := by
  have hx := hs.eval x
  unfold opField at hk
  split at hk
  · rename_i hf
    split at hk
    · rename_i u hu
      split at hk
      · rename_i hfit
        obtain ⟨fs, fd, h1, h2, h3, h4⟩ := fieldOffB_spec hf
        have hag : (st.eval x).isAgg = true := by
          cases hv : st.eval x <;> rw [hv] at hu <;> first | rfl | (simp [AV.fld] at hu; done)
        obtain ⟨cs, he, hrel⟩ := hx.agg hag
        obtain ⟨g1, g2⟩ := hrel.fld _ f hu
        have hty : fieldTy P t f = fd.type := by unfold fieldTy; rw [h1]; simp only [h2]
        rw [hty] at hfit
        have hlen : (cs.take ((st.eval x).fldOff f)).length = (st.eval x).fldOff f := by simp; omega
        obtain ⟨cv, k1, k2⟩ := LV.part_agg (P := P) (cs := cs.toArray) (pre := cs.take ((st.eval x).fldOff f)) (post := (cs.drop ((st.eval x).fldOff f)).drop u.size) hfit (by rw [List.take_append_drop, List.take_append_drop]) g2
        rw [hlen] at k1
        exact OpOK.pure hs hk (by simp [ex, execOp, Instr.field, run_underlying h1, h2, he, asAgg, h3, k1]) k2
      · cases hk
    · cases hk
  · cases hk

theorem idx_spec {α : Type} {l : List α} {i : Int} {x : α} (h : idx l i = some x) : ∃ n : Nat, i = n ∧ l[n]? = some x := by
  unfold idx at h
  split at h
  · rename_i n; rw [idxN_eq] at h; exact ⟨n, rfl, h⟩
  · cases h

theorem sliceB_spec {t : TypeId} {T : Ty} (h : sliceB P t T = true) : ∃ e, P.underlying t = some (.slice e) ∧ P.cellsOf e = T.size ∧ 0 < T.size := by
  unfold sliceB at h
  split at h
  · rename_i e hu
    simp only [Bool.and_eq_true, Nat.beq_eq, Nat.blt_eq] at h
    exact ⟨e, hu, h.1, h.2⟩
  · cases h

theorem arrayB_spec {t : TypeId} {n : Nat} {T : Ty} (h : arrayB P t n T = true) : ∃ e, P.underlying t = some (.array n e) ∧ P.cellsOf e = T.size ∧ 0 < T.size := by
  unfold arrayB at h
  split at h
  · rename_i m e hu
    simp only [Bool.and_eq_true, Nat.beq_eq, Nat.blt_eq] at h
    obtain ⟨⟨rfl, h1⟩, h2⟩ := h
    exact ⟨e, hu, h1, h2⟩
  · cases h

theorem run_indexAt_slice' {t e : TypeId} (hu : P.underlying t = some (.slice e)) (hp : 0 < P.cellsOf e) (b o len cap : Nat) (k : IntKind) (i : Int) (h : 0 ≤ i ∧ i < len) :
    (Instr.indexAt t (.slice (some ⟨b, o, none⟩) len cap) (.int k i)).run P w = .ok (.pointer (some ⟨b, o + i.toNat * P.cellsOf e, none⟩)) w := by
  simp [Instr.indexAt, run_underlying hu, asIntOf, h, run_sizeOf_pos hp, addr_add]

theorem run_indexAt_array' {t e : TypeId} {n : Nat} (hu : P.underlying t = some (.array n e)) (hp : 0 < P.cellsOf e) (b o : Nat) (k : IntKind) (i : Int) (h : 0 ≤ i ∧ i < n) :
    (Instr.indexAt t (.pointer (some ⟨b, o, none⟩)) (.int k i)).run P w = .ok (.pointer (some ⟨b, o + i.toNat * P.cellsOf e, none⟩)) w := by
  simp [Instr.indexAt, run_underlying hu, asIntOf, h, run_sizeOf_pos hp, addr_add, Instr.sureAddr]

theorem opIndexAddr_sound {h : Hand R} {t ty : TypeId} {x i : Operand} {slot : Nat} {K : AV → St → Option R} {r : R} (hs : Sim N Hd S0 w0 ρ S st a sv w) (hk : opIndexAddr P h t x i slot st K = some r) :
    OpOK P N Hd S0 w0 sv a (.indexAddr t x i) ty w K r := by
  have hx := hs.eval x
  have hi := hs.eval i
  unfold opIndexAddr at hk
  split at hk
  · rename_i k n hn
    rw [hn] at hi
    obtain ⟨ei, _⟩ := hi.int_inv
    split at hk
    · rename_i T l tight he
      rw [he] at hx
      obtain ⟨ad, cap, e1, h1, _, h3⟩ := VR.rel rfl (by simp) hx
      have e1 : a.eval x = .slice ad l.length cap := by simpa using e1
      split at hk
      · rename_i hb
        obtain ⟨e, hu, hc, hp⟩ := sliceB_spec hb
        obtain ⟨y, hy, hk'⟩ := obind_eq hk
        obtain ⟨m, rfl, hz⟩ := idx_spec hy
        have hm : m < l.length := (List.getElem?_eq_some_iff.1 hz).1
        rcases h3 with rfl | ⟨b, o, cs, rfl, g1, g2, g3⟩
        · simp at hm
        · obtain ⟨k1, k2⟩ := Many.at_ LV.len g2 hz
          exact OpOK.pure hs hk' (by simp [ex, execOp, e1, ei, run_indexAt_slice' hu (by omega) b o l.length cap k m ⟨by omega, by omega⟩, hc]) (VR.rptr_mk g1 (Rel.inj T k1) (g3.part _ _ k2))
      · cases hk
    · rename_i id off len full he
      rw [he] at hx
      obtain ⟨ad, cap, e1, hin⟩ := VR.rel rfl (by simp) hx
      have e1 : a.eval x = .slice ad len cap := by simpa using e1
      split at hk
      · rename_i T l f rr hb
        split at hk
        · rename_i hsb
          obtain ⟨e, hu, hc, hp⟩ := sliceB_spec hsb
          rcases br_cases hk with ⟨hlt, hk⟩ | ⟨_, hk⟩
          · have hlt : 0 ≤ n ∧ n < (len : Int) := by simpa using hlt
            obtain ⟨t', m, rr', hri, h1, h2, h3⟩ := hin
            have : rowInfo st.heap id = some (T, l.length, rr) := by unfold rowInfo; rw [hb]
            rw [this] at hri
            obtain ⟨rfl, rfl, rfl⟩ : T = t' ∧ l.length = m ∧ rr = rr' := by simpa using hri
            rcases h3 with ⟨b, base, c, e2, fz, hρ, ha, _, hc', h4, h5⟩ | ⟨_, h4, _⟩
            · obtain rfl := ha (by omega)
              refine OpOK.pure hs hk (cv := .pointer (some ⟨b, base + (off + n.toNat) * T.size, none⟩)) ?_ (VR.ptr_mk hρ ?_)
              · simp [ex, execOp, e1, ei, run_indexAt_slice' hu (by omega) b _ len cap k n hlt, hc, Nat.add_mul, Nat.add_assoc]
              · unfold offB
                rw [hb]
                simp only [offT_nil]
                rw [if_pos (by omega)]
                rfl
            · omega
          · cases hk
        · cases hk
      · cases hk
    · rename_i m T l he
      rw [he] at hx
      obtain ⟨b, o, vs, e1, g1, g2, g3⟩ := hx.rptr_inv
      split at hk
      · rename_i hb
        obtain ⟨e, hu, hc, hp⟩ := arrayB_spec hb
        obtain ⟨y, hy, hk'⟩ := obind_eq hk
        obtain ⟨j, rfl, hz⟩ := idx_spec hy
        have hm : j < l.length := (List.getElem?_eq_some_iff.1 hz).1
        obtain ⟨hl, hmany⟩ := g2
        obtain ⟨k1, k2⟩ := Many.at_ LV.len hmany hz
        exact OpOK.pure hs hk' (by simp [ex, execOp, e1, ei, run_indexAt_array' hu (by omega) b o k j ⟨by omega, by omega⟩, hc]) (VR.rptr_mk g1 (Rel.inj T k1) (g3.part _ _ k2))
      · cases hk
    · rename_i id p he
      rw [he] at hx
      obtain ⟨b, base, o, h1, h2, e1⟩ := hx.ptr_inv
      split at hk
      · rename_i m T l hl
        split at hk
        · rename_i hb
          obtain ⟨e, hu, hc, hp⟩ := arrayB_spec hb
          rcases br_cases hk with ⟨hlt, hk⟩ | ⟨_, hk⟩
          · have hlt : 0 ≤ n ∧ n < (m : Int) := by simpa using hlt
            refine OpOK.pure hs hk (cv := .pointer (some ⟨b, base + (o + n.toNat * T.size), none⟩)) ?_ (VR.ptr_mk h1 ?_)
            · simp [ex, execOp, e1, ei, run_indexAt_array' hu (by omega) b _ k n hlt, hc, Nat.add_assoc]
            · rw [offB_append hl h2]
              simp only [offA, offT_nil]
              rw [if_pos (by omega)]
              rfl
          · cases hk
        · cases hk
      · cases hk
    · cases hk
  · cases hk

theorem arrayT_spec {t : TypeId} {n : Nat} {T : Ty} (h : arrayT P t n T = true) : ∃ e, P.underlying t = some (.array n e) ∧ P.cellsOf e = T.size ∧ tyOf P depth e = some T := by
  unfold arrayT at h
  split at h
  · rename_i m e hu
    simp only [Bool.and_eq_true, Nat.beq_eq] at h
    obtain ⟨⟨rfl, h1⟩, h2⟩ := h
    split at h2
    · rename_i U hU
      obtain rfl := Ty.same_eq h2
      exact ⟨e, hu, h1, hU⟩
    · cases h2
  · cases h

theorem VR.of_LVv {T : Ty} {x : T.den} {v : Value} (h : LVv S w T x v) : VR ρ S w H (inj T x) v := by
  unfold LVv at h
  cases hg : (inj T x).isAgg with
  | true => rw [hg] at h; obtain ⟨c, rfl, h⟩ := h; exact VR.of_agg hg (Rel.inj T h)
  | false => rw [hg] at h; exact VR.of_rel hg (Rel.inj T h)

theorem opIndex_sound {h : Hand R} {t ty : TypeId} {x i : Operand} {slot : Nat} {K : AV → St → Option R} {r : R} (hs : Sim N Hd S0 w0 ρ S st a sv w) (hk : opIndex P h t x i slot st K = some r) :
    OpOK P N Hd S0 w0 sv a (.index t x i) ty w K r := by
  have hx := hs.eval x
  have hi := hs.eval i
  unfold opIndex at hk
  split at hk
  · rename_i k n hn
    rw [hn] at hi
    obtain ⟨ei, _⟩ := hi.int_inv
    split at hk
    · rename_i m T l he
      rw [he] at hx
      obtain ⟨cs, e1, hl, hm⟩ := hx.agg rfl
      split at hk
      · rename_i hb
        obtain ⟨e, hu, hc, hT⟩ := arrayT_spec hb
        obtain ⟨y, hy, hk'⟩ := obind_eq hk
        obtain ⟨j, rfl, hz⟩ := idx_spec hy
        have hj : j < l.length := (List.getElem?_eq_some_iff.1 hz).1
        obtain ⟨k1, k2⟩ := Many.at_ LV.len hm hz
        have hlen : (cs.take (j * T.size)).length = j * T.size := by simp; omega
        obtain ⟨cv, r1, r2⟩ := run_part (P := P) hT (cs := cs.toArray) (pre := cs.take (j * T.size)) (post := (cs.drop (j * T.size)).drop T.size) (by rw [List.take_append_drop, List.take_append_drop]) k1 (by simp; omega)
        rw [hlen] at r1
        obtain ⟨d, hd⟩ := tyOf_under hT
        exact OpOK.pure hs hk' (by simp [ex, execOp, Instr.index, e1, ei, asIntOf, run_underlying hu, run_size hd, hc, show j < m by omega, r1]) (VR.of_LVv r2)
      · cases hk
    · rename_i s he
      rw [he] at hx
      obtain ⟨e1, hby⟩ := hx.str_inv
      split at hk
      · rename_i hb
        obtain ⟨y, hy, hk'⟩ := obind_eq hk
        obtain ⟨j, rfl, hz⟩ := idx_spec hy
        have hj : j < s.length := (List.getElem?_eq_some_iff.1 hz).1
        have hyb : byteB y := hby y (List.mem_of_getElem? hz)
        have hu : P.underlying t = some .string := by unfold isString at hb; split at hb <;> first | assumption | cases hb
        have hget : (strVal s)[j]? = some (UInt8.ofNat y.toNat) := by
          have : (strVal s).data[j]? = some (UInt8.ofNat y.toNat) := by simp [strVal, hz]
          rw [← this]
          have hsz : (strVal s).size = s.length := strVal_size s
          rw [getElem?_pos (strVal s) j (by omega)]
          rw [getElem?_pos (strVal s).data j (by have : (strVal s).data.size = s.length := hsz; omega)]
          rfl
        have h1 := hyb.1
        have h2 := hyb.2
        have hval : ((UInt8.ofNat y.toNat).toNat : Int) = y := by simp; omega
        refine OpOK.pure hs hk' (cv := .int .u8 y) ?_ (VR.int_mk ⟨by simpa [IntKind.min, IntKind.signed] using h1, by simp [IntKind.max, IntKind.signed, IntKind.bits]; omega⟩)
        simp [ex, execOp, Instr.index, e1, ei, asIntOf, run_underlying hu, hget]
        omega
      · cases hk
    · cases hk
  · cases hk

end Go.Am
