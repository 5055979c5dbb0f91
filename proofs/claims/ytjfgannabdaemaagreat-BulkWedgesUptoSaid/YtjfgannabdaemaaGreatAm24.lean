/-
  AM, twenty-fifth text: the operations of a region, in their listed order.
-/
import Derived.Test.YtjfgannabdaemaaGreatAm23
import Derived.Orders
set_option linter.all false
namespace Go.Am
set_option linter.unusedSimpArgs false

variable {R : Type} {P : Program} {N : Nat} {Hd S0 : Nat → Prop} {w0 : World} {ρ : Emb} {S S' : Nat → Prop} {st : St} {a : Act} {sv : List Value} {w : World} {H : Heap}

/-- a temporary that is known -/
theorem Sim.tmp (hs : Sim N Hd S0 w0 ρ S st a sv w) (t : Nat) (h : nthD st.tmps t ≠ .dead) : ∃ x, a.tmps[t]? = some x ∧ VR ρ S w st.heap (nthD st.tmps t) x := by
  rw [nthD_eq] at h ⊢
  cases ht : st.tmps[t]? with
  | none => simp [List.getD, ht] at h
  | some v =>
    obtain ⟨b, hb, hv⟩ := hs.tm.get ht
    exact ⟨b, by simpa using hb, by simpa [List.getD, ht] using hv⟩

theorem Sim.set_bool (hs : Sim N Hd S0 w0 ρ S st a sv w) {t : Nat} {b : Bool} (h : nthD st.tmps t = .bool b) : Sim N Hd S0 w0 ρ S { st with tmps := setR st.tmps t (.bool b) } a sv w :=
  hs.setTmp t fun x _ hx => by rw [h] at hx; exact hx

theorem guarded_sound {ops : Array Oper} {o : Oper} {yes no : St → Option R} {r : R} (hs : Sim N Hd S0 w0 ρ S st a sv w) (hk : guarded ops o st yes no = some r) :
    ∃ st', Sim N Hd S0 w0 ρ S st' a sv w ∧ st'.heap = st.heap ∧ ((Region.wanted o (yielded ops a.tmps) = true ∧ yes st' = some r) ∨ (Region.wanted o (yielded ops a.tmps) = false ∧ no st' = some r)) := by
  unfold guarded at hk
  split at hk
  · rename_i hg
    exact ⟨st, hs, rfl, .inl ⟨by simp [Region.wanted, hg], hk⟩⟩
  · rename_i j want hg
    split at hk
    · cases hk
    · rename_i t ht
      split at hk
      · rename_i b hb
        obtain ⟨x, hx, hv⟩ := hs.tmp t (by rw [hb]; simp)
        rw [hb] at hv
        have hx' := hv.bool_inv
        subst hx'
        have hy : yielded ops a.tmps j = some b := by simp [yielded, ht, hx]
        split at hk
        · rcases br_cases hk with ⟨rfl, hk⟩ | ⟨rfl, hk⟩
          · exact ⟨_, hs.set_bool hb, rfl, .inl ⟨by simp [Region.wanted, hg, hy], hk⟩⟩
          · exact ⟨_, hs.set_bool hb, rfl, .inr ⟨by simp [Region.wanted, hg, hy], hk⟩⟩
        · rcases br_cases hk with ⟨rfl, hk⟩ | ⟨rfl, hk⟩
          · exact ⟨_, hs.set_bool hb, rfl, .inr ⟨by simp [Region.wanted, hg, hy], hk⟩⟩
          · exact ⟨_, hs.set_bool hb, rfl, .inl ⟨by simp [Region.wanted, hg, hy], hk⟩⟩
      · rename_i v hb
        obtain ⟨x, hx, hv⟩ := hs.tmp t (by rw [hb]; simp)
        rw [hb] at hv
        obtain ⟨vs, hv, _⟩ := VR.rel rfl (by simp) hv
        have hv : x = .tuple vs.toArray := by simpa using hv
        subst hv
        have hy : yielded ops a.tmps j = none := by simp [yielded, ht, hx]
        exact ⟨st, hs, rfl, .inr ⟨by cases want <;> simp [Region.wanted, hg, hy], hk⟩⟩
      · cases hk

theorem undef_rel : VR ρ S w H (.tup .unit) undef := VR.of_rel rfl ⟨[], rfl, rfl⟩

/-- what an operation comes to, in the walk -/
theorem StepOK.wp {o : Oper} {K : AV → St → Option R} {r : R} {next : Act → World → Prop} {Q : Exit → Act → World → Prop} (h : StepOK P N Hd S0 w0 sv a o.op o.type w K r)
    (hn : ∀ v st' ρ' S' cv w', K v st' = some r → Sim N Hd S0 w0 ρ' S' st' a sv w' → VR ρ' S' w' st'.heap v cv → next (a.put o.dst cv) w') : o.wp P a w next Q := by
  unfold Oper.wp
  rw [ex_eq]
  rcases h with ⟨v, st', ρ', S', cv, w', h1, h2, h3, h4⟩ | ⟨f, args, h1, _, h2⟩
  · rcases h2 with h2 | ⟨h2, rfl⟩
    · rw [h2, Oper.upon_value]; exact hn _ _ _ _ _ _ h1 h3 h4
    · rw [h2, Oper.upon_skip]; exact hn _ _ _ _ _ _ h1 h3 h4
  · rw [h1, Oper.upon_enter]
    refine h2.mono fun e w' he => ?_
    obtain ⟨cv, v, st', ρ', S', rfl, g1, g2, g3⟩ := he
    exact hn _ _ _ _ _ _ g1 g2 g3

theorem slotOK_spec {o : Op} {slot : Nat} (h : slotOK o slot st = true) : isAlloc o = true → nthB st.heap slot = none ∧ slot < st.heap.length := by
  intro ha
  unfold slotOK at h
  rw [ha] at h
  simp only at h
  split at h
  · rename_i hb; exact ⟨hb, by simpa [Nat.blt_eq] using h⟩
  · cases h

theorem runOps_sound {h : Hand R} (hP : Plain P) (hh : HandOK P N Hd S0 w0 h) {ops : Array Oper} {Q : Exit → Act → World → Prop} {K : St → Option R} {r : R} : ∀ (l : List Oper) (slot : Nat) {st : St} {ρ : Emb} {S : Nat → Prop} {a : Act} {w : World},
    Sim N Hd S0 w0 ρ S st a sv w → runOps P h ops l slot st K = some r → (∀ st' ρ' S' a' w', K st' = some r → Sim N Hd S0 w0 ρ' S' st' a' sv w' → Q .normal a' w') → wpList P ops Q l a w := by
  intro l
  induction l with
  | nil => intro slot st ρ S a w hs hk hQ; exact hQ _ _ _ _ _ hk hs
  | cons o l ih =>
    intro slot st ρ S a w hs hk hQ
    simp only [runOps] at hk
    obtain ⟨st', hs', _, hy⟩ := guarded_sound hs hk
    unfold wpList
    rcases hy with ⟨hw, hk⟩ | ⟨hw, hk⟩
    · rw [if_pos hw]
      split at hk
      · rename_i hsl
        refine .inl ((doOp_sound hP hh hs' (slotOK_spec hsl) hk).wp fun v st'' ρ' S' cv w' h1 h2 h3 => ?_)
        exact ih _ (h2.put o.dst h3) h1 hQ
      · cases hk
    · rw [if_neg (by simp [hw])]
      exact ih _ (hs'.put o.dst undef_rel) hk hQ

/-! ## Code -/

theorem Sim.room (hs : Sim N Hd S0 w0 ρ S st a sv w) (n : Nat) : Sim N Hd S0 w0 ρ S (Am.room st n) a sv w := by
  have hn : ∀ i, nthB (Am.room st n).heap i = nthB st.heap i := fun i => nthB_room st.heap n i
  have k : Carry (fun _ => True) ρ S w st.heap ρ S w (Am.room st n).heap := {
    emb := fun _ _ _ => rfl
    off := fun i _ _ => by unfold offB; rw [hn]
    row := fun i _ _ => by unfold rowInfo; rw [hn]
    map := fun i _ _ => by unfold mapInfo; rw [hn]
    stay := fun _ h => h
    same := fun _ _ => rfl
    size := fun i b base c e fz _ _ hc => ⟨c, e, fz, hc, rfl⟩ }
  exact {
    tm := hs.tm.mono fun v x hv => hv.carry k v.on_true
    sv := hs.sv.mono fun v x hv => hv.carry k v.on_true
    bl := fun i => by
      rw [hn]
      exact BlkRel.carry k rfl (fun hn => by have := hs.bl i; rw [hn] at this; exact this) trivial (fun _ _ _ => rfl) (fun _ _ _ hs => hs) (fun v f _ => v.on_true) (hs.bl i)
    inj := hs.inj
    own := hs.own
    stay := hs.stay
    lim := hs.lim
    grew := hs.grew
    keep := hs.keep
    base := hs.base
    dfr := hs.dfr
    eff := hs.eff }

theorem forceS_eq {α : Type} : ∀ (l : List α) (K : List α → Option R), forceS l K = K l := by
  intro l
  induction l with
  | nil => intro K; rfl
  | cons x l ih => intro K; show forceS l (fun l => K (x :: l)) = _; rw [ih]

theorem forceA_eq : ∀ (v : AV) (K : AV → Option R), forceA v K = K v := by
  intro v
  induction v with
  | pair p q ihp ihq => intro K; simp only [forceA, ihp, ihq]
  | rptr v ih => intro K; simp only [forceA, ih]
  | tup v ih => intro K; simp only [forceA, ih]
  | func f c ih => intro K; simp only [forceA, ih]
  | bool b => intro K; cases b <;> rfl
  | dar n t l => intro K; simp only [forceA, forceS_eq]
  | _ => intro K; rfl

theorem forceL_eq : ∀ (l : List AV) (K : List AV → Option R), forceL l K = K l := by
  intro l
  induction l with
  | nil => intro K; rfl
  | cons x l ih => intro K; show forceA x (fun x => forceL l fun l => K (x :: l)) = _; rw [forceA_eq, ih]

theorem forceB_eq (b : Option Blk) (K : Option Blk → Option R) : forceB b K = K b := by
  cases b with
  | none => rfl
  | some b => cases b <;> simp only [forceB, forceA_eq, forceS_eq]

theorem forceH_eq : ∀ (l : Heap) (K : Heap → Option R), forceH l K = K l := by
  intro l
  induction l with
  | nil => intro K; rfl
  | cons x l ih => intro K; show forceB x (fun x => forceH l fun l => K (x :: l)) = _; rw [forceB_eq, ih]

theorem force_eq (on : Bool) (st : St) (K : St → Option R) : force on st K = K st := by
  cases on
  · rfl
  · simp only [force, forceL_eq, forceH_eq]

end Go.Am
