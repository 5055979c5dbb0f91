/-
  AM, twenty-sixth text: code.
-/
import Derived.Test.YtjfgannabdaemaaGreatAm24h
import Derived.LoopN
set_option linter.all false
namespace Go.Am
set_option linter.unusedSimpArgs false

variable {R : Type} {P : Program} {N : Nat} {Hd S0 : Nat → Prop} {w0 : World} {ρ : Emb} {S S' : Nat → Prop} {st : St} {a : Act} {sv : List Value} {w : World} {H : Heap}

theorem allB_mem {α : Type} {f : α → Bool} : ∀ {l : List α}, allB f l = true → ∀ x ∈ l, f x = true := by
  intro l
  induction l with
  | nil => intro _ x hx; simp at hx
  | cons y l ih =>
    intro h x hx
    simp only [allB, Bool.and_eq_true] at h
    rcases List.mem_cons.1 hx with rfl | hx
    · exact h.1
    · exact ih h.2 x hx

theorem memB_mem {l : List Nat} {i : Nat} (h : memB l i = true) : i ∈ l := by
  unfold memB at h
  rw [List.any_eq_true] at h
  obtain ⟨j, hj, he⟩ := h
  rw [Nat.eq_of_beq_eq_true he]
  exact hj

theorem allB_append {α : Type} {f : α → Bool} : ∀ {l m : List α}, allB f (l ++ m) = true → allB f l = true ∧ allB f m = true := by
  intro l
  induction l with
  | nil => intro m h; exact ⟨rfl, h⟩
  | cons x l ih =>
    intro m h
    simp only [List.cons_append, allB, Bool.and_eq_true] at h ⊢
    exact ⟨⟨h.1, (ih h.2).1⟩, (ih h.2).2⟩

theorem AV.on_refs {mk : List Nat} : ∀ (v : AV), allB (memB mk) v.refs = true → v.on (fun i => memB mk i = true) := by
  intro v
  induction v with
  | pair a b iha ihb => intro h; obtain ⟨h1, h2⟩ := allB_append h; exact ⟨iha h1, ihb h2⟩
  | lsl id o n f => intro h; simp only [AV.refs, allB, Bool.and_true] at h; exact h
  | ptr id p => intro h; simp only [AV.refs, allB, Bool.and_true] at h; exact h
  | map id => intro h; simp only [AV.refs, allB, Bool.and_true] at h; exact h
  | rptr v ih => intro h; exact ih h
  | func f c ih => intro h; exact ih h
  | tup v ih => intro h; exact ih h
  | _ => intro _; trivial

theorem nthB_trim : ∀ (H : Heap) (i : Nat), nthB (trimH H) i = nthB H i := by
  intro H
  induction H with
  | nil => intro i; rfl
  | cons b H ih =>
    intro i
    simp only [trimH]
    split
    · rename_i he
      cases i with
      | zero => rfl
      | succ i =>
        have := ih i
        rw [he] at this
        exact this
    · cases i with
      | zero => rfl
      | succ i => exact ih i

theorem nthB_mask (mk : List Nat) : ∀ (H : Heap) (k i : Nat), nthB (maskH mk H k) i = match memB mk (k + i) with | true => nthB H i | false => none := by
  intro H
  induction H with
  | nil => intro k i; cases memB mk (k + i) <;> rfl
  | cons b H ih =>
    intro k i
    cases i with
    | zero => rfl
    | succ i =>
      have := ih (k + 1) i
      rw [show k + 1 + i = k + (i + 1) by omega] at this
      exact this

theorem keepT_rel {f g : AV → Value → Prop} (ks : List Nat) (hd : ∀ x, g .dead x) : ∀ {l : List AV} {m : List Value} (k : Nat), (∀ v x, v ∈ keepT ks l k → f v x → g v x) → All2 f l m → All2 g (keepT ks l k) m := by
  intro l
  induction l with
  | nil => intro m k _ h; cases m <;> first | trivial | exact h.elim
  | cons v l ih =>
    intro m k hg h
    cases m with
    | nil => exact h.elim
    | cons x m =>
      refine ⟨?_, ih (k + 1) (fun u y hu => hg u y (by simp [keepT, hu])) h.2⟩
      cases hm : memB ks k with
      | true => exact hg v x (by simp [keepT, hm]) h.1
      | false => exact hd x

theorem Sim.gc (hs : Sim N Hd S0 w0 ρ S st a sv w) (ks : List Nat) : ∃ ρ', Sim N Hd S0 w0 ρ' S (Am.gc ks st) a sv w := by
  unfold Am.gc gcWith
  generalize marks st.heap 4000 (refsL (keepT ks st.tmps 0) ++ refsL st.saved) [] = mk
  split
  · rename_i h
    simp only [Bool.and_eq_true] at h
    obtain ⟨⟨h1, h2⟩, h3⟩ := h
    have hnth : ∀ i, nthB (trimH (maskH mk st.heap 0)) i = match memB mk i with | true => nthB st.heap i | false => none := by
      intro i
      rw [nthB_trim, nthB_mask, Nat.zero_add]
    have k : Carry (fun i => memB mk i = true) ρ S w st.heap (fun i => match memB mk i with | true => ρ i | false => none) S w (trimH (maskH mk st.heap 0)) := {
      emb := fun i hi _ => by simp only [hi]
      off := fun i hi _ => by unfold offB; rw [hnth, hi]
      row := fun i hi _ => by unfold rowInfo; rw [hnth, hi]
      map := fun i hi _ => by unfold mapInfo; rw [hnth, hi]
      stay := fun _ h => h
      same := fun _ _ => rfl
      size := fun i b base c e fz _ _ hc => ⟨c, e, fz, hc, rfl⟩ }
    refine ⟨fun i => match memB mk i with | true => ρ i | false => none, ?_⟩
    exact {
      tm := by
        refine keepT_rel ks (fun _ => trivial) 0 (fun v x hv hx => ?_) hs.tm
        exact hx.carry k (AV.on_refs v (allB_mem h1 v hv))
      sv := by
        have : ∀ v ∈ st.saved, insideV mk v = true := allB_mem h2
        exact All2.mono_mem (fun v => insideV mk v = true) (fun v x hu hv => VR.carry k (AV.on_refs v hu) hv) this hs.sv
      bl := fun i => by
        show BlkRel _ _ _ (trimH (maskH mk st.heap 0)) i (nthB (trimH (maskH mk st.heap 0)) i)
        rw [hnth]
        cases hi : memB mk i with
        | true =>
          show BlkRel _ _ _ _ i (nthB st.heap i)
          refine BlkRel.carry k rfl (fun hn => by have := hs.bl i; rw [hn] at this; show (match memB mk i with | true => ρ i | false => none) = none; rw [hi]; exact this) hi (fun _ _ _ => rfl) (fun _ _ _ hs => hs) (fun v f e => ?_) (hs.bl i)
          have hb : nthB st.heap i = some (.var v f) := e
          have := allB_mem h3 i (memB_mem hi)
          rw [hb] at this
          exact AV.on_refs v this
        | false =>
          show (match memB mk i with | true => ρ i | false => none) = none
          rw [hi]
      inj := fun i j b x y hi hj => by
        cases ei : memB mk i <;> cases ej : memB mk j <;> simp only [ei, ej] at hi hj <;> first | exact hs.inj i j b x y hi hj | (cases hi; done) | (cases hj; done)
      own := fun i b x hi => by
        cases ei : memB mk i <;> simp only [ei] at hi
        · cases hi
        · exact hs.own i b x hi
      stay := hs.stay
      lim := hs.lim
      grew := hs.grew
      keep := hs.keep
      base := hs.base
      dfr := hs.dfr
      eff := hs.eff }
  · exact ⟨ρ, hs⟩

def Ex.out : Ex → Exit
  | .normal => .normal
  | .ret => .ret
  | .exit id => .exit id

def loopsOf : Code → List Code
  | .seq a b => loopsOf a ++ loopsOf b
  | .cond _ a b => loopsOf a ++ loopsOf b
  | .block _ c => loopsOf c
  | .loop c => c :: loopsOf c
  | _ => []

def bodyLoops (P : Program) (f : FuncId) : List Code :=
  match P.funcs[f]? with
  | some fn => match fn.body with
    | some c => loopsOf c
    | none => []
  | none => []

/-- the loops that are cut are cut soundly -/
def CutsOK (cfg : Cfg) (N : Nat) (Hd S0 : Nat → Prop) (w0 : World) : Prop :=
  ∀ (f : FuncId) (c : Code) (cut : Cut), c ∈ bodyLoops cfg.P f → cfg.cuts f (Code.key c) = some cut → ∀ {R : Type} {st : St} {K : Ex → St → Option R} {r : R} {ρ : Emb} {S : Nat → Prop} {a : Act} {sv : List Value} {w : World} {Q : Exit → Act → World → Prop},
    cut R st K = some r → Sim N Hd S0 w0 ρ S st a sv w → (∀ e st' ρ' S' a' w', K e st' = some r → Sim N Hd S0 w0 ρ' S' st' a' sv w' → Q e.out a' w') → (Code.loop c).wp cfg.P Q a w

theorem exec_sound {cfg : Cfg} {h : Hand R} (hP : Plain cfg.P) (hh : HandOK cfg.P N Hd S0 w0 h) (hv : ∀ f F, cfg.env f = some F → Sound cfg.P f F) (hc : CutsOK cfg N Hd S0 w0) {f : FuncId} : ∀ (c : Code) {st : St} {K : Ex → St → Option R} {r : R} {ρ : Emb} {S : Nat → Prop} {a : Act} {sv : List Value} {w : World} {Q : Exit → Act → World → Prop},
    (∀ d ∈ loopsOf c, d ∈ bodyLoops cfg.P f) → exec cfg h f c st K = some r → Sim N Hd S0 w0 ρ S st a sv w → (∀ e st' ρ' S' a' w', K e st' = some r → Sim N Hd S0 w0 ρ' S' st' a' sv w' → Q e.out a' w') → c.wp cfg.P Q a w := by
  intro c
  induction c with
  | skip => intro st K r ρ S a sv w Q _ hk hs hQ; exact wp_skip (hQ _ _ _ _ _ _ hk hs)
  | label l => intro st K r ρ S a sv w Q _ hk hs hQ; exact wp_label (hQ _ _ _ _ _ _ hk hs)
  | exit id => intro st K r ρ S a sv w Q _ hk hs hQ; exact wp_exit (hQ (.exit id) _ _ _ _ _ hk hs)
  | ret => intro st K r ρ S a sv w Q _ hk hs hQ; exact wp_ret (hQ .ret _ _ _ _ _ hk hs)
  | region id ops drawn =>
    intro st K r ρ S a sv w Q _ hk hs hQ
    cases drawn with
    | false =>
      exact wp_region_list (runOps_sound hP hh ops.toList _ (hs.room _) hk fun st' ρ' S' a' w' h1 h2 => by
        rw [force_eq] at h1
        exact hQ .normal _ _ _ _ _ h1 h2)
    | true =>
      simp only [exec] at hk
      split at hk
      · rename_i hm
        refine drawn_sound hP hv hm hk (hs.room _) fun acc st' ρ' S' a' w' h1 h2 => ?_
        rw [force_eq] at h1
        exact hQ .normal _ _ _ _ _ h1 h2
      · cases hk
  | seq x y ihx ihy =>
    intro st K r ρ S a sv w Q hl hk hs hQ
    refine wp_seq (ihx (fun d hd => hl d (by simp [loopsOf, hd])) hk hs fun e st' ρ' S' a' w' h1 h2 => ?_)
    cases e with
    | normal => exact ihy (fun d hd => hl d (by simp [loopsOf, hd])) h1 h2 hQ
    | ret => exact hQ .ret _ _ _ _ _ h1 h2
    | exit id => exact hQ (.exit id) _ _ _ _ _ h1 h2
  | cond c x y ihx ihy =>
    intro st K r ρ S a sv w Q hl hk hs hQ
    have hx : ∀ d ∈ loopsOf x, d ∈ bodyLoops cfg.P f := fun d hd => hl d (by simp [loopsOf, hd])
    have hy : ∀ d ∈ loopsOf y, d ∈ bodyLoops cfg.P f := fun d hd => hl d (by simp [loopsOf, hd])
    cases c with
    | tmp t =>
      simp only [exec] at hk
      split at hk
      · rename_i b hb
        obtain ⟨v, hv1, hv2⟩ := hs.tmp t (by rw [hb]; simp)
        rw [hb] at hv2
        have := hv2.bool_inv
        subst this
        have he : a.eval (.tmp t) = .bool b := by simp [Act.eval, Array.getD_eq_getD_getElem?, hv1]
        rcases br_cases hk with ⟨rfl, hk⟩ | ⟨rfl, hk⟩
        · exact wp_cond_true he (ihx hx hk (hs.set_bool hb) hQ)
        · exact wp_cond_false he (ihy hy hk (hs.set_bool hb) hQ)
      · cases hk
    | const v =>
      cases v <;> try (cases hk; done)
      rename_i b
      simp only [exec] at hk
      rcases br_cases hk with ⟨rfl, hk⟩ | ⟨rfl, hk⟩
      · exact wp_cond_true rfl (ihx hx hk hs hQ)
      · exact wp_cond_false rfl (ihy hy hk hs hQ)
    | _ => cases hk
  | block id c ih =>
    intro st K r ρ S a sv w Q hl hk hs hQ
    refine wp_block (ih (fun d hd => hl d (by simp [loopsOf, hd])) hk hs fun e st' ρ' S' a' w' h1 h2 => ?_)
    cases e with
    | normal => exact hQ .normal _ _ _ _ _ h1 h2
    | ret => exact hQ .ret _ _ _ _ _ h1 h2
    | exit j =>
      simp only [Ex.out, Exit.inBlock]
      simp only [blockK] at h1
      split at h1
      · rename_i hj
        have := Nat.beq_eq.mp hj
        rw [if_pos this]
        exact hQ .normal _ _ _ _ _ h1 h2
      · rename_i hj
        rw [if_neg (fun e => by subst e; simp at hj)]
        exact hQ (.exit j) _ _ _ _ _ h1 h2
  | loop c ih =>
    intro st K r ρ S a sv w Q hl hk hs hQ
    simp only [exec] at hk
    split at hk
    · rename_i cut hcut
      exact hc f c cut (hl c (by simp [loopsOf])) hcut hk hs hQ
    · refine wp_loop_rounds cfg.rounds ?_
      have hl' : ∀ d ∈ loopsOf c, d ∈ bodyLoops cfg.P f := fun d hd => hl d (by simp [loopsOf, hd])
      have key : ∀ (n : Nat) {st : St} {ρ : Emb} {S : Nat → Prop} {a : Act} {w : World}, roundsK cfg.force (fun st K => exec cfg h f c st K) (Am.gc (cfg.keepH f (Code.key c))) n st (exitK (cfg.keepX f (Code.key c)) K) = some r → Sim N Hd S0 w0 ρ S st a sv w → Code.rounds cfg.P c Q n a w := by
        intro n
        induction n with
        | zero => intro st ρ S a w hk _; cases hk
        | succ n ihn =>
          intro st ρ S a w hk hs
          rw [rounds_succ]
          refine ih hl' hk hs fun e st' ρ' S' a' w' h1 h2 => ?_
          cases e with
          | normal =>
            simp only [seqK, force_eq] at h1
            obtain ⟨ρ'', h3⟩ := h2.gc (cfg.keepH f (Code.key c))
            exact ihn h1 h3
          | ret => obtain ⟨ρ'', h3⟩ := h2.gc (cfg.keepX f (Code.key c) (Ex.code .ret)); exact hQ .ret _ _ _ _ _ h1 h3
          | exit id => obtain ⟨ρ'', h3⟩ := h2.gc (cfg.keepX f (Code.key c) (Ex.code (.exit id))); exact hQ (.exit id) _ _ _ _ _ h1 h3
      obtain ⟨ρ0, hs0⟩ := hs.gc (cfg.keepH f (Code.key c))
      exact key _ hk hs0
  | _ => intro st K r ρ S a sv w Q _ hk; cases hk

end Go.Am
