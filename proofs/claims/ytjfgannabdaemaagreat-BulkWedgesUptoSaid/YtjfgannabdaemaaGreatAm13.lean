/-
  AM, fourteenth text: new blocks.
-/
import Derived.Test.YtjfgannabdaemaaGreatAm12
set_option linter.all false
namespace Go.Am
set_option linter.unusedSimpArgs false

variable {R : Type} {P : Program} {N : Nat} {Hd S0 : Nat → Prop} {w0 : World} {ρ : Emb} {S : Nat → Prop} {st : St} {a : Act} {sv : List Value} {w : World} {H : Heap}

theorem zBool_spec {cs r : List Value} (h : zBool cs = some r) : cs = .bool false :: r := by
  unfold zBool at h; split at h <;> first | (cases h; rfl) | cases h

theorem zInt_spec {k : IntKind} {cs r : List Value} (h : zInt k cs = some r) : cs = .int k 0 :: r := by
  unfold zInt at h
  split at h
  · split at h
    · rename_i hc
      simp only [Bool.and_eq_true, decide_eq_true_eq] at hc
      obtain ⟨h1, rfl⟩ := hc
      obtain rfl := kindB_eq h1
      cases h; rfl
    · cases h
  · cases h

theorem zStr_spec {cs r : List Value} (h : zStr cs = some r) : cs = .string (strVal []) :: r := by
  unfold zStr at h
  split at h
  · rename_i s q
    split at h
    · rename_i he
      cases h
      have : s = strVal [] := by
        apply ByteArray.ext
        apply Array.ext'
        simpa [strVal] using he
      rw [this]
    · cases h
  · cases h

theorem zSlice_spec {cs r : List Value} (h : zSlice cs = some r) : cs = .slice none 0 0 :: r := by
  unfold zSlice at h; split at h <;> first | (cases h; rfl) | cases h

theorem zeroN {t : Ty} (ih : ∀ {cs r : List Value}, zeroT t cs = some r → ∃ c, cs = c ++ r ∧ LV S w t t.zero c) : ∀ (n : Nat) {cs r : List Value}, timesN (zeroT t) n cs = some r → ∃ c, cs = c ++ r ∧ LV S w (.arr n t) (Ty.zero (.arr n t)) c := by
  intro n
  induction n with
  | zero =>
    intro cs r h
    simp only [timesN, Option.some.injEq] at h
    exact ⟨[], by simpa using h, rfl, rfl⟩
  | succ n ihn =>
    intro cs r h
    simp only [timesN] at h
    split at h
    · rename_i q h1
      obtain ⟨c, rfl, hc⟩ := ih h1
      obtain ⟨d, rfl, hd⟩ := ihn h
      refine ⟨c ++ d, by simp, ?_, ?_⟩
      · simp [Ty.zero]
      · show Many _ (List.replicate (n + 1) t.zero) _
        rw [List.replicate_succ]
        exact ⟨c, d, rfl, hc, hd.2⟩
    · cases h

theorem zeroT_spec : ∀ (t : Ty) {cs r : List Value}, zeroT t cs = some r → ∃ c, cs = c ++ r ∧ LV S w t t.zero c := by
  intro t
  induction t with
  | bool => intro cs r h; exact ⟨[.bool false], zBool_spec h, rfl⟩
  | int k => intro cs r h; exact ⟨[.int k 0], zInt_spec h, rfl, minmax_zero k⟩
  | str => intro cs r h; exact ⟨[.string (strVal [])], zStr_spec h, rfl, by simp [Ty.zero]⟩
  | unit => intro cs r h; simp only [zeroT, Option.some.injEq] at h; exact ⟨[], by simpa using h, rfl⟩
  | pair a b iha ihb =>
    intro cs r h
    simp only [zeroT] at h
    split at h
    · rename_i q h1
      obtain ⟨c, rfl, hc⟩ := iha h1
      obtain ⟨d, rfl, hd⟩ := ihb h
      exact ⟨c ++ d, by simp, c, d, rfl, hc, hd⟩
    · cases h
  | arr n t ih => intro cs r h; exact zeroN ih n h
  | sl t _ => intro cs r h; exact ⟨_, zSlice_spec h, none, 0, rfl, Nat.le_refl _, .inl rfl⟩
  | fr t _ => intro cs r h; exact ⟨_, zSlice_spec h, none, 0, rfl, Nat.le_refl _, .inl rfl⟩

def Zeroish : AV → Prop
  | .pair a b => Zeroish a ∧ Zeroish b
  | .dar n t l => l = List.replicate n t.zero
  | _ => True

theorem zeroB_spec : ∀ (v : AV) {cs r : List Value}, Zeroish v → zeroB v cs = some r → v.okIn = true ∧ v ≠ .dead ∧ ∃ c, cs = c ++ r ∧ Rel ρ S w H v true c := by
  intro v
  induction v with
  | unit => intro cs r _ h; simp only [zeroB, Option.some.injEq] at h; exact ⟨rfl, by simp, [], by simpa using h, rfl⟩
  | pair a b iha ihb =>
    intro cs r hz h
    simp only [zeroB] at h
    split at h
    · rename_i q h1
      obtain ⟨o1, _, c, rfl, hc⟩ := iha hz.1 h1
      obtain ⟨o2, _, d, rfl, hd⟩ := ihb hz.2 h
      exact ⟨by simp [AV.okIn, o1, o2], by simp, c ++ d, by simp, c, d, rfl, hc, hd⟩
    · cases h
  | bool b =>
    intro cs r _ h
    simp only [zeroB] at h
    split at h
    · exact ⟨rfl, by simp, [.bool false], zBool_spec h, rfl⟩
    · cases h
  | int k n =>
    intro cs r _ h
    simp only [zeroB] at h
    split at h
    · rename_i hn
      have : n = 0 := by simpa using hn
      subst this
      exact ⟨rfl, by simp, [.int k 0], zInt_spec h, rfl, minmax_zero k⟩
    · cases h
  | str s =>
    intro cs r _ h
    simp only [zeroB] at h
    split at h
    · exact ⟨rfl, by simp, [.string (strVal [])], zStr_spec h, rfl, by simp⟩
    · cases h
  | nilsl => intro cs r _ h; exact ⟨rfl, by simp, _, zSlice_spec h, rfl⟩
  | dar n t l =>
    intro cs r hz h
    obtain rfl : l = _ := hz
    obtain ⟨c, rfl, hc⟩ := zeroN (S := S) (w := w) (fun h => zeroT_spec t h) n h
    exact ⟨rfl, by simp, c, rfl, hc⟩
  | nilptr => intro cs r _ h; simp only [zeroB] at h; split at h <;> first | (cases h; exact ⟨rfl, by simp, _, rfl, rfl⟩) | cases h
  | nilfunc => intro cs r _ h; simp only [zeroB] at h; split at h <;> first | (cases h; exact ⟨rfl, by simp, _, rfl, rfl⟩) | cases h
  | nilmap => intro cs r _ h; simp only [zeroB] at h; split at h <;> first | (cases h; exact ⟨rfl, by simp, _, rfl, rfl⟩) | cases h
  | _ => intro cs r _ h; simp [zeroB] at h

theorem zeroChain_zeroish {f : TypeId → Option AV} (ih : ∀ {t v}, f t = some v → Zeroish v) : ∀ {fs : List Field} {v : AV}, zeroChain f fs = some v → Zeroish v := by
  intro fs
  induction fs with
  | nil => intro v h; simp only [zeroChain, Option.some.injEq] at h; subst h; trivial
  | cons x r ihr =>
    intro v h
    simp only [zeroChain] at h
    split at h
    · rename_i a ha
      split at h
      · rename_i b hb
        simp only [Option.some.injEq] at h
        subst h
        exact ⟨ih ha, ihr hb⟩
      · cases h
    · cases h

theorem zeroAV_zeroish : ∀ {n : Nat} {t : TypeId} {v : AV}, zeroAV P n t = some v → Zeroish v := by
  intro n
  induction n with
  | zero => intro t v h; simp [zeroAV] at h
  | succ n ih =>
    intro t v h
    simp only [zeroAV] at h
    split at h <;> first
      | (cases h; trivial)
      | (cases h; done)
      | skip
    · split at h
      · cases h; rfl
      · cases h
    · exact zeroChain_zeroish ih h

theorem inj0_zeroish : ∀ t : Ty, Zeroish (inj0 t) := by
  intro t
  induction t with
  | pair a b iha ihb => exact ⟨iha, ihb⟩
  | arr n t _ => rfl
  | _ => trivial

theorem zeroOK_spec {t : TypeId} {v : AV} (hz : Zeroish v) (h : zeroOK P t v = true) : v.okIn = true ∧ v ≠ .dead ∧ ∃ z, (zeroValue t).run P w = .ok z w ∧ Rel ρ S w H v true z.cells.toList := by
  unfold zeroOK at h
  split at h
  · rename_i i hi
    split at h
    · rename_i z hzv
      split at h
      · rename_i hb
        obtain ⟨h1, h2, c, h3, h4⟩ := zeroB_spec (ρ := ρ) (S := S) (w := w) (H := H) v hz hb
        refine ⟨h1, h2, z, by simp [zeroValue, typeInfo, hi, hzv], ?_⟩
        rw [h3, List.append_nil]
        exact h4
      · cases h
    · cases h
  · cases h

theorem Own.new {cs : List Value} {e : TypeId} : Own (w.alloc (.cells cs.toArray e)) w.heap.size 0 cs := by
  refine ⟨cs.toArray, e, 0, 0, by simp only [World.alloc, Array.getElem?_push, if_true], by simp, fun j v hj => by simpa using hj, .inl rfl⟩

/-- a new variable -/
theorem newVar_sound (hs : Sim N Hd S0 w0 ρ S st a sv w) {slot : Nat} (hslot : nthB st.heap slot = none) (hlt : slot < st.heap.length) {v : AV} {cs : List Value} {e : TypeId} (hv : Rel ρ S w st.heap v true cs) (hok : v.okIn = true) :
    ∃ ρ', Sim N Hd S0 w0 ρ' S (setSlot st slot (.var v false)) a sv (w.alloc (.cells cs.toArray e)) ∧ VR ρ' S (w.alloc (.cells cs.toArray e)) (setSlot st slot (.var v false)).heap (.ptr slot []) (.pointer (some ⟨w.heap.size, 0, none⟩)) := by
  have hn : nthB (setR st.heap slot (some (.var v false))) slot = some (.var v false) := by rw [nthB_set, if_pos ⟨rfl, hlt⟩]
  have hne : ∀ i, nthB st.heap i ≠ none → i ≠ slot := fun i hi e => hi (e ▸ hslot)
  have hoth : ∀ i, i ≠ slot → nthB (setR st.heap slot (some (.var v false))) i = nthB st.heap i := fun i hi => nthB_set_ne hi
  have k : Carry (fun _ => True) ρ S w st.heap (fun i => if i = slot then some (w.heap.size, 0) else ρ i) S (w.alloc (.cells cs.toArray e)) (setR st.heap slot (some (.var v false))) := {
    emb := fun i _ hi => by simp [hne i hi]
    off := fun i _ hi => by unfold offB; rw [hoth i (hne i hi)]
    row := fun i _ hi => by unfold rowInfo; rw [hoth i (hne i hi)]
    map := fun i _ hi => by unfold mapInfo; rw [hoth i (hne i hi)]
    stay := fun _ h => h
    same := fun b hb => by have := hs.stay b hb; simp only [World.alloc, Array.getElem?_push]; rw [if_neg (by omega)]
    size := fun i b base c e fz _ hr hc => ⟨c, e, fz, by have := (hs.own i b base hr).1; simp only [World.alloc, Array.getElem?_push]; rw [if_neg (by omega)]; exact hc, rfl⟩ }
  have hnS : ¬ S w.heap.size := fun h => by have := hs.stay _ h; omega
  obtain ⟨h1, h2⟩ := hs.alloc slot hslot (setR st.heap slot (some (.var v false))) (.var v false) hn hoth (.cells cs.toArray e)
    ⟨w.heap.size, 0, cs, by simp, hv.carry k v v.on_true, hok, Own.new, fun _ => hnS, by simp⟩
  refine ⟨_, h1, ?_⟩
  have := VR.ptr_mk (ρ := fun i => if i = slot then some (w.heap.size, 0) else ρ i) (S := S) (w := w.alloc (.cells cs.toArray e)) (H := setR st.heap slot (some (.var v false))) (id := slot) (p := []) (b := w.heap.size) (base := 0) (o := 0) (by simp) (by unfold offB; rw [hn]; exact offA_nil v)
  exact this

theorem opAlloc_sound {h : Hand R} {t ty : TypeId} {slot : Nat} {K : AV → St → Option R} {r : R} (hs : Sim N Hd S0 w0 ρ S st a sv w) (hslot : nthB st.heap slot = none) (hlt : slot < st.heap.length) (hk : opAlloc P h t slot st K = some r) :
    OpOK P N Hd S0 w0 sv a (.alloc t) ty w K r := by
  unfold opAlloc at hk
  split at hk
  · rename_i v hv
    split at hk
    · rename_i hz
      obtain ⟨h1, _, z, h2, h3⟩ := zeroOK_spec (ρ := ρ) (S := S) (w := w) (H := st.heap) (zeroAV_zeroish hv) hz
      obtain ⟨ρ', g1, g2⟩ := newVar_sound hs hslot hlt (e := t) h3 h1
      refine ⟨_, _, ρ', S, _, _, hk, .inl ?_, g1, g2⟩
      simp [ex, execOp, Instr.alloc, h2, newVar, newRow]
    · cases hk
  · cases hk

theorem opBox_sound {h : Hand R} {t ty : TypeId} {x : Operand} {slot : Nat} {K : AV → St → Option R} {r : R} (hs : Sim N Hd S0 w0 ρ S st a sv w) (hslot : nthB st.heap slot = none) (hlt : slot < st.heap.length) (hk : opBox P h t x slot st K = some r) :
    OpOK P N Hd S0 w0 sv a (.box t x) ty w K r := by
  have hx := hs.eval x
  unfold opBox at hk
  split at hk
  · rename_i hc
    simp only [Bool.and_eq_true] at hc
    have hnd : st.eval x ≠ .dead := by intro e; rw [e] at hc; simp [AV.storable] at hc
    have key : ∃ cs, Rel ρ S w st.heap (st.eval x) true cs ∧ (a.eval x).cells = cs.toArray := by
      cases hg : (st.eval x).isAgg with
      | true => obtain ⟨c, e, h⟩ := hx.agg hg; exact ⟨c, h, by rw [e]; rfl⟩
      | false =>
        have h := hx.rel hg hnd
        refine ⟨[a.eval x], h, ?_⟩
        have : ∀ c, a.eval x ≠ .agg c := by
          intro c e
          rw [e] at h
          cases hv : st.eval x <;> rw [hv] at h hg hnd hc <;> first
            | exact hnd rfl
            | (simp [AV.isAgg] at hg; done)
            | (simp [Rel, LV] at h; done)
            | (simp [AV.storable, AV.okIn] at hc; done)
        cases hv : a.eval x <;> first | rfl | exact absurd hv (this _)
    obtain ⟨cs, h1, h2⟩ := key
    obtain ⟨ρ', g1, g2⟩ := newVar_sound hs hslot hlt (e := t) h1 (storable_okIn hc.2)
    refine ⟨_, _, ρ', S, _, _, hk, .inl ?_, g1, g2⟩
    simp [ex, execOp, Instr.box, newVar, newRow, h2]
  · cases hk

end Go.Am
