/-
  AM, twenty-first text: make, pointers to arrays, append, copy.
-/
import Derived.Test.YtjfgannabdaemaaGreatAm19
set_option linter.all false
namespace Go.Am
set_option linter.unusedSimpArgs false

variable {R : Type} {P : Program} {N : Nat} {Hd S0 : Nat → Prop} {w0 : World} {ρ : Emb} {S S' : Nat → Prop} {st : St} {a : Act} {sv : List Value} {w : World} {H : Heap}

theorem zeroOK_info {t : TypeId} {v : AV} (h : zeroOK P t v = true) : ∃ i z, P.info? t = some i ∧ i.zero = some z := by
  unfold zeroOK at h
  split at h
  · rename_i i hi
    split at h
    · rename_i z hz; exact ⟨i, z, hi, hz⟩
    · cases h
  · cases h

theorem run_makeSlice {t e : TypeId} {T : Ty} {k k' : IntKind} {x y : Int} (hu : P.underlying t = some (.slice e)) (hc : P.cellsOf e = T.size) (hb : P.bytesOf e ≤ 4096) (hp : 0 < T.size) (hz : zeroOK P e (inj0 T) = true)
    (h1 : 0 ≤ x) (h2 : x ≤ y) (h3 : y ≤ (lim : Int)) :
    ∃ cells : Array Value, Many (LV S w T) (List.replicate y.toNat T.zero) cells.toList ∧
      (Instr.makeSlice t (.int k x) (.int k' y)).run P w = .ok (.slice (some ⟨w.heap.size, 0, none⟩) x.toNat y.toNat) (w.alloc (.cells cells e)) := by
  obtain ⟨cells, g1, g2, g3⟩ := zero_row (P := P) (S := S) (w := w) hp hz y.toNat
  obtain ⟨i, z, hi, hzv⟩ := zeroOK_info hz
  have hbi : i.bytes ≤ 4096 := by simpa [Program.bytesOf, hi] using hb
  refine ⟨cells, g1, ?_⟩
  have hlim : y ≤ 4294967296 := h3
  have wx : IntKind.i64.wrap x = x := by rw [IntKind.wrap_i64]; omega
  have wy : IntKind.i64.wrap y = y := by rw [IntKind.wrap_i64]; omega
  have hby : (i.bytes : Int) * y ≤ 281474976710656 := by
    have := Int.mul_le_mul (show (i.bytes : Int) ≤ 4096 by omega) hlim (by omega) (by omega)
    omega
  have hty : (typeInfo e).run P w = .ok i w := by simp [typeInfo, hi]
  have hax : ∀ (k : IntKind) (n : Int), (asInt (.int k n)).run P w = .ok n w := fun k n => by simp [asInt, asIntOf]
  simp only [Instr.makeSlice, Sem.run_bind, run_underlying hu, Result.andThen_ok, hax, Sem.run_pure, hty, wx, wy]
  rw [if_neg (by simp; omega)]
  simp only [Sem.run_bind, run_askRoom, Result.andThen_ok, run_sizeOf_pos (show 0 < P.cellsOf e by omega), hc]
  rcases g3 with ⟨h0, g3⟩ | ⟨h0, zv, hz6, g3⟩
  · rw [if_pos h0, g3]
    simp [newRow, h0]
  · rw [if_neg h0, g3]
    simp [newRow, hz6]

theorem OpOK.mk {op : Op} {ty : TypeId} {K : AV → St → Option R} {r : R} {st' : St} (h : Sim N Hd S0 w0 ρ S' st' a sv w) {v : AV} {cv : Value} (hk : K v st' = some r) (he : (ex a.eval op ty).run P w = .ok (.value cv) w) (hv : VR ρ S' w st'.heap v cv) : OpOK P N Hd S0 w0 sv a op ty w K r :=
  ⟨v, st', ρ, S', cv, w, hk, .inl he, h, hv⟩

theorem opMakeSlice_sound {h : Hand R} {t ty : TypeId} {n c : Operand} {slot : Nat} {K : AV → St → Option R} {r : R} (hs : Sim N Hd S0 w0 ρ S st a sv w) (hslot : nthB st.heap slot = none) (hlt : slot < st.heap.length) (hk : opMakeSlice P h t n c slot st K = some r) :
    OpOK P N Hd S0 w0 sv a (.makeSlice t n c) ty w K r := by
  have hn := hs.eval n
  have hc := hs.eval c
  unfold opMakeSlice at hk
  split at hk
  · rename_i T k x k' y hT hen hec
    rw [hen] at hn
    rw [hec] at hc
    obtain ⟨e, hu, _, hce, hby, hp, hz⟩ := elemTy_spec hT
    rcases br_cases hk with ⟨hb, hk⟩ | ⟨_, hk⟩
    · simp only [decide_eq_true_eq] at hb
      obtain ⟨b1, b2, b3⟩ := hb
      obtain ⟨cells, g1, g2⟩ := run_makeSlice (P := P) (S := S) (w := w) (k := k) (k' := k') hu hce hby hp hz b1 b2 b3
      have fin : ∀ (m : Nat) (full : Bool), m = y.toNat → (full = true → x = y) → K (.lsl slot 0 x.toNat full) (setSlot st slot (.row T (List.replicate m T.zero) false true)) = some r → OpOK P N Hd S0 w0 sv a (.makeSlice t n c) ty w K r := by
        intro m full hm hf hk
        subst hm
        have hcl := Many.length LV.len g1
        obtain ⟨ρ', q1, q2, _⟩ := newRow_sound hs hslot (setR st.heap slot (some (.row T (List.replicate y.toNat T.zero) false true))) (by rw [nthB_set, if_pos ⟨rfl, hlt⟩]) (fun i hi => nthB_set_ne hi) (e := e) g1 x.toNat y.toNat full (by simp; omega) (fun h => by have := hf h; simp; omega) (by simp) []
          (by rw [hcl]; simp)
        refine ⟨_, _, ρ', S, _, _, hk, .inl ?_, q1, q2⟩
        simp only [ex, execOp]
        rw [Sem.run_bind, hn.int_inv.1, hc.int_inv.1, g2]
        simp
      split at hk
      · rename_i i j
        split at hk
        · rename_i hij
          have := Nat.beq_eq.mp hij
          subst this
          rw [hen] at hec
          have hxy : x = y := by injection hec
          exact fin _ true (by rw [hxy]) (fun _ => hxy) hk
        · exact fin _ false rfl (by simp) hk
      · rename_i ki i kj j _
        have hx : x = i := by
          have : constAV (.int ki i) = .int k x := hen
          unfold constAV at this
          simp only at this
          split at this
          · injection this with _ h; exact h.symm
          · cases this
        have hy : y = j := by
          have : constAV (.int kj j) = .int k' y := hec
          unfold constAV at this
          simp only at this
          split at this
          · injection this with _ h; exact h.symm
          · cases this
        rcases br_cases hk with ⟨hc, hk⟩ | ⟨hc, hk⟩
        · have hxy : x = y := by rw [hx, hy]; simpa using hc
          exact fin _ true (by rw [hxy]) (fun _ => hxy) hk
        · exact fin _ false rfl (by simp) hk
      · exact fin _ false rfl (by simp) hk
    · cases hk
  · cases hk

theorem opSliceToArrayPointer_sound {h : Hand R} {t ty : TypeId} {x : Operand} {slot : Nat} {K : AV → St → Option R} {r : R} (hs : Sim N Hd S0 w0 ρ S st a sv w) (hk : opSliceToArrayPointer P h t x slot st K = some r) :
    OpOK P N Hd S0 w0 sv a (.sliceToArrayPointer t x) ty w K r := by
  unfold opSliceToArrayPointer at hk
  split at hk
  · rename_i n e hu
    split at hk
    · rename_i T hT
      split at hk
      · rename_i l hd
        rcases br_cases hk with ⟨hc, hk⟩ | ⟨_, hk⟩
        · simp only [decide_eq_true_eq] at hc
          obtain ⟨S', g1, g2, g3, _⟩ := Sim.freeze (st.eval x).rows hs
          have hx := hs.eval x
          have hv : LVv S' w (.sl T) l (a.eval x) := deep_VR' hs.bl g2.stay hx hd (.inl fun id hid b base hρ => g3 id hid (hx.rows_row id hid) b base hρ)
          obtain ⟨q, cap, h1, h2, h3⟩ := (show LV S' w (.sl T) l [a.eval x] from hv)
          rcases h3 with h3 | ⟨b, o, cs, rfl, hS, hm, hh⟩
          · have : List.length l = 0 := by rw [h3]; rfl
            omega
          · have hv' : a.eval x = .slice (some ⟨b, o, none⟩) (List.length l) cap := by simpa using h1
            have hl := Many.length LV.len hm
            have hle : n * T.size ≤ cs.length := by rw [hl]; exact Nat.mul_le_mul_right _ hc.2
            have hpart := hh.part 0 (n * T.size) (by omega)
            refine OpOK.mk (st' := { st with heap := freeze st.heap (st.eval x).rows }) g1 hk (cv := .pointer (some ⟨b, o, none⟩)) ?_ (VR.of_rel rfl ⟨b, o, cs.take (n * T.size), rfl, hS, ⟨by simp; omega, hm.take LV.len n⟩, by simpa using hpart⟩)
            simp only [ex, execOp, hv', Instr.arrayAt, Sem.run_bind, run_underlying hu, Result.andThen_ok]
            rw [if_neg (by omega)]
            simp
        · cases hk
      · cases hk
    · cases hk
  · cases hk

/-! ## A row that is written beyond its end, or laid anew: what spoke of it is dead -/

theorem AV.size_kill (k : Nat) : ∀ v : AV, (v.kill k).size = v.size := by
  intro v
  induction v with
  | pair a b iha ihb => simp [AV.kill, AV.size, iha, ihb]
  | lsl id o n f => unfold AV.kill; split <;> rfl
  | ptr id p => unfold AV.kill; split <;> rfl
  | map id => unfold AV.kill; split <;> rfl
  | _ => rfl

theorem AV.fld_kill (k : Nat) : ∀ (v : AV) (j : Nat), (v.kill k).fld j = (v.fld j).map (AV.kill k) ∧ (v.kill k).fldOff j = v.fldOff j := by
  intro v
  induction v with
  | pair a b iha ihb =>
    intro j
    cases j with
    | zero => exact ⟨rfl, rfl⟩
    | succ j => exact ⟨(ihb j).1, by simp [AV.kill, AV.fldOff, AV.size_kill, (ihb j).2]⟩
  | lsl id o n f => intro j; unfold AV.kill; split <;> exact ⟨rfl, rfl⟩
  | ptr id p => intro j; unfold AV.kill; split <;> exact ⟨rfl, rfl⟩
  | map id => intro j; unfold AV.kill; split <;> exact ⟨rfl, rfl⟩
  | _ => intro j; exact ⟨rfl, rfl⟩

theorem offA_kill (k : Nat) : ∀ (p : List Step) (v : AV), offA (v.kill k) p = offA v p := by
  intro p
  induction p with
  | nil => intro v; rw [offA_nil, offA_nil]
  | cons s p ih =>
    intro v
    cases s with
    | fld j =>
      rw [offA_fld, offA_fld, (AV.fld_kill k v j).1, (AV.fld_kill k v j).2]
      cases v.fld j with
      | none => rfl
      | some u => simp [ih]
    | idx i =>
      cases v <;> first
        | rfl
        | (simp only [AV.kill]; split <;> rfl)

theorem okIn_kill (k : Nat) : ∀ v : AV, v.okIn = true → (v.kill k).okIn = true := by
  intro v
  induction v with
  | pair a b iha ihb => intro h; simp only [AV.kill, AV.okIn, Bool.and_eq_true] at h ⊢; exact ⟨iha h.1, ihb h.2⟩
  | lsl id o n f => intro _; unfold AV.kill; split <;> rfl
  | ptr id p => intro _; unfold AV.kill; split <;> rfl
  | map id => intro _; unfold AV.kill; split <;> rfl
  | _ => intro h; exact h

theorem nthB_kill (k : Nat) (H : Heap) (i : Nat) : nthB (H.map (killBlk k)) i = killBlk k (nthB H i) := by
  rw [nthB_eq, nthB_eq]
  simp only [List.getD, List.getElem?_map]
  cases H[i]? <;> rfl

theorem Sim.renew (h : Sim N Hd S0 w0 ρ S st a sv w) (id b base : Nat) (w' : World) (H' : Heap) {T : Ty} {l : List T.den} {rr : Bool} {cs : List Value} (hρ0 : ρ id ≠ none → ∃ x y, ρ id = some (x, y))
    (hfresh : (∃ y, ρ id = some (b, y)) ∨ w.heap.size ≤ b) (hS : ¬ S b) (hb : b < w'.heap.size) (hz : w.heap.size ≤ w'.heap.size)
    (hw : ∀ x, x ≠ b → x < w.heap.size → w'.heap[x]? = w.heap[x]?) (hN : N ≤ b ∨ Hd b)
    (hid : nthB H' id = some (.row T l false rr)) (hH : ∀ i, i ≠ id → nthB H' i = killBlk id (nthB st.heap i)) (hm : Many (LV S w' T) l cs) (ho : Own w' b base cs) (he : w'.os = w.os ∧ w'.output = w.output ∧ w'.tape = w.tape := by first | exact ⟨rfl, rfl, rfl⟩ | exact setCells_eff _ _ _ _) :
    Sim N Hd S0 w0 (fun i => if i = id then some (b, base) else ρ i) S { tmps := st.tmps.map (AV.kill id), saved := st.saved.map (AV.kill id), heap := H' } a sv w' := by
  have hne : ∀ i x y, i ≠ id → ρ i = some (x, y) → x ≠ b := by
    intro i x y hi hx e
    subst e
    rcases hfresh with ⟨z, hz⟩ | hz
    · exact hi (h.inj i id x y z hx hz)
    · have := (h.own i x y hx).1; omega
  have k : Carry (· ≠ id) ρ S w st.heap (fun i => if i = id then some (b, base) else ρ i) S w' H' := {
    emb := fun i hi _ => by simp only [if_neg (show i ≠ id from hi)]
    off := fun i hi hn => by
      funext p
      unfold offB
      rw [hH i hi]
      cases hq : nthB st.heap i with
      | none => rfl
      | some q => cases q <;> simp only [killBlk] <;> first | rfl | exact offA_kill id p _
    row := fun i hi hn => by
      unfold rowInfo
      rw [hH i hi]
      cases hq : nthB st.heap i with
      | none => rfl
      | some q => cases q <;> rfl
    map := fun i hi hn => by
      unfold mapInfo
      rw [hH i hi]
      cases hq : nthB st.heap i with
      | none => rfl
      | some q => cases q <;> rfl
    stay := fun _ h => h
    same := fun x hx => hw x (fun e => hS (e ▸ hx)) (h.stay x hx)
    size := fun i x y c e fz hi hx hc => ⟨c, e, fz, by rw [hw x (hne i x y hi hx) (h.own i x y hx).1]; exact hc, rfl⟩ }
  exact {
    tm := by
      show All2 _ (st.tmps.map (AV.kill id)) _
      rw [All2.map_left]
      exact h.tm.mono fun v x hv => (hv.kill id).carry k (v.on_kill id)
    sv := by
      show All2 _ (st.saved.map (AV.kill id)) _
      rw [All2.map_left]
      exact h.sv.mono fun v x hv => (hv.kill id).carry k (v.on_kill id)
    bl := fun i => by
      show BlkRel _ _ _ H' i (nthB H' i)
      by_cases e : i = id
      · subst e
        rw [hid]
        exact .inl ⟨b, base, cs, by simp, hm, ho, fun _ => hS, by simp⟩
      · rw [hH i e]
        have hbl := h.bl i
        have hρi : (fun i => if i = id then some (b, base) else ρ i) i = ρ i := by simp [e]
        cases hq : nthB st.heap i with
        | none => rw [hq] at hbl; show _ = none; rw [hρi]; exact hbl
        | some q =>
          rw [hq] at hbl
          have hsame : ∀ x y, ρ i = some (x, y) → w'.heap[x]? = w.heap[x]? := fun x y hx => hw x (hne i x y e hx) (h.own i x y hx).1
          cases q with
          | var v f =>
            obtain ⟨x, y, cs', g1, g2, g3, g4, g5, g6⟩ := hbl
            refine ⟨x, y, cs', by rw [hρi]; exact g1, Rel.carry k _ (v.on_kill id) (g2.kill id), okIn_kill id v g3, ?_, g5, g6⟩
            obtain ⟨c, ee, lo, hi, o1, o2, o3, o4⟩ := g4
            exact ⟨c, ee, lo, hi, by rw [hsame x y g1]; exact o1, o2, o3, o4⟩
          | row T' l' f' r' =>
            rcases hbl with ⟨x, y, cs', g1, g2, g4, g5, g6⟩ | ⟨g1, g2⟩
            · refine .inl ⟨x, y, cs', by rw [hρi]; exact g1, g2.mono fun _ _ h => LV.mono (fun _ h => h) k.same T' h, ?_, g5, g6⟩
              obtain ⟨c, ee, lo, hi, o1, o2, o3, o4⟩ := g4
              exact ⟨c, ee, lo, hi, by rw [hsame x y g1]; exact o1, o2, o3, o4⟩
            · exact .inr ⟨by rw [hρi]; exact g1, g2⟩
          | mp kt vt l' =>
            obtain ⟨x, es, clock, g1, g2, g3, g4⟩ := hbl
            refine ⟨x, es, clock, by rw [hρi]; exact g1, g2, by rw [hsame x 0 g1]; exact g3, g4.mono fun p e he => ⟨LVv.mono (fun _ h => h) k.same he.1, LVv.mono (fun _ h => h) k.same he.2⟩⟩
          | iter => exact hbl.elim
    inj := fun i j x y z hi hj => by
      by_cases ei : i = id <;> by_cases ej : j = id <;> simp only [ei, ej, if_true, if_false] at hi hj ⊢
      · obtain ⟨rfl, _⟩ : b = x ∧ base = y := by simpa using hi
        exact absurd rfl (hne j b z ej hj)
      · obtain ⟨rfl, _⟩ : b = x ∧ base = z := by simpa using hj
        exact absurd rfl (hne i b y ei hi)
      · exact h.inj i j x y z hi hj
    own := fun i x y hi => by
      by_cases ei : i = id
      · simp only [ei, if_true] at hi
        obtain ⟨rfl, _⟩ : b = x ∧ base = y := by simpa using hi
        exact ⟨hb, hN⟩
      · simp only [ei, if_false] at hi
        have := h.own i x y hi
        exact ⟨by omega, this.2⟩
    stay := fun x hx => by have := h.stay x hx; omega
    lim := h.lim
    grew := h.grew
    keep := fun x h1 h2 => by
      have hxs : x < w.heap.size := by have := h.base; omega
      rw [hw x (fun e => by rcases hN with h3 | h3; omega; exact h2 (e ▸ h3)) hxs]
      exact h.keep x h1 h2
    base := by have := h.base; omega
    dfr := h.dfr
    eff := ⟨he.1.trans h.eff.1, he.2.1.trans h.eff.2.1, he.2.2.trans h.eff.2.2⟩ }

end Go.Am
