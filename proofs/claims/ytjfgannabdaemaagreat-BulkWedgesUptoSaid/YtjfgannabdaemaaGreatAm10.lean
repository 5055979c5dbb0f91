/-
  AM, eleventh text: operations that only compute, or read: what each comes to.
-/
import Derived.Test.YtjfgannabdaemaaGreatAm9
import Derived.Laws.StructEq
set_option linter.all false
namespace Go.Am
set_option linter.unusedSimpArgs false

variable {R : Type} {P : Program} {N : Nat} {Hd S0 : Nat → Prop} {w0 : World} {ρ : Emb} {S : Nat → Prop} {st : St} {a : Act} {sv : List Value} {w : World} {H : Heap}

theorem plain_flat : ∀ T : Ty, T.plain = true → T.flat = true := by
  intro T
  induction T with
  | pair a b iha ihb => intro h; simp only [Ty.plain, Bool.and_eq_true] at h; simp [Ty.flat, iha h.1, ihb h.2]
  | arr n t ih => intro h; exact ih h
  | sl t _ => intro h; simp [Ty.plain] at h
  | fr t _ => intro h; simp [Ty.plain] at h
  | _ => intro _; rfl

theorem deep_agg : ∀ (T : Ty) (v : AV) {x : T.den}, deep H T v = some x → v.isAgg = aggT T := by
  intro T v x h
  cases T <;> cases v <;> first
    | rfl
    | (simp [deep] at h; done)

/-- a value of Go's, read deep -/
theorem deep_VR (hr : ∀ id, BlkRel ρ S w H id (nthB H id)) {T : Ty} (hf : T.flat = true) {v : AV} {x : T.den} {cv : Value} (hv : VR ρ S w H v cv) (hd : deep H T v = some x) : LVv S w T x cv := by
  have hg := deep_agg T v hd
  have key : ∀ {cs : List Value}, Rel ρ S w H v true cs → LV S w T x cs := fun hc => deep_sound hr (fun _ h => h) T v hc hd (by obtain ⟨h1, h2⟩ := flat_rows T v hf; rw [h1, h2]; intro id h; simp at h)
  unfold LVv
  rw [aggT_inj]
  cases ht : aggT T with
  | true =>
    obtain ⟨c, rfl, hc⟩ := VR.agg (hg.trans ht) hv
    exact ⟨c, rfl, key hc⟩
  | false =>
    have hnd : v ≠ .dead := by intro e; subst e; cases T <;> simp [deep] at hd
    exact key (VR.rel (hg.trans ht) hnd hv)

theorem eqGuard_false {n : Nat} : ∀ {t : TypeId} {s d : Nat}, eqSz P n t = some s → n ≤ d → P.eqGuardType d t = false := by
  induction n with
  | zero => intro t s d h; simp [eqSz] at h
  | succ n ih =>
    intro t s d h hd
    obtain ⟨d, rfl⟩ : ∃ e, d = e + 1 := ⟨d - 1, by omega⟩
    have chain : ∀ (fs : List Field) (off tot : Nat), eqChain P (eqSz P n) fs off = some tot → ∀ f ∈ fs, P.eqGuardType d f.type = false := by
      intro fs
      induction fs with
      | nil => intro _ _ _ f hf; simp at hf
      | cons x r ihr =>
        intro off tot hc f hf
        simp only [eqChain] at hc
        split at hc
        · rename_i q hq
          split at hc
          · rcases List.mem_cons.1 hf with rfl | hf
            · exact ih hq (by omega)
            · exact ihr _ _ hc f hf
          · cases hc
        · cases hc
    simp only [eqSz] at h
    split at h
    · rename_i hu; simp [Program.eqGuardType, hu]
    · rename_i hu; simp [Program.eqGuardType, hu]
    · rename_i hu; simp [Program.eqGuardType, hu]
    · rename_i fs hu
      split at h
      · simp only [Program.eqGuardType, hu]
        rw [Array.any_eq_false']
        intro f hf
        have := chain fs.toList 0 s h f (by simpa using hf)
        simp [this]
      · cases h
    · rename_i m e hu
      split at h
      · rename_i q hq
        simp only [Program.eqGuardType, hu]
        exact ih hq (by omega)
      · cases h
    · cases h

theorem depth_le : depth ≤ P.depth := by
  unfold depth Program.depth Made.depth
  omega

theorem sem_run_eqGuard {op : BinOp} {t : TypeId} {x y : Operand} {u v : Value} (h : (∀ c d, u = .agg c → v = .agg d → P.eqGuardType P.depth t = false)) (hn : ¬ (u = .nilIface ∧ v = .nilIface)) :
    (eqGuard op t x y u v).run P w = .ok () w := by
  unfold eqGuard
  have key : ∀ A : Sem Unit, (match u, v with
      | .nilIface, .nilIface => A
      | .agg _, .agg _ => do
        if !(← program).eqGuardType (← program).depth t then return
        if ← Op.eqGuardIn Op.maxDepth t u v then unsupported (.noEntry "binop/eql: two nil values of an interface type with methods, in a part of a struct or an array")
      | _, _ => pure ()).run P w = .ok () w := by
    intro A
    split
    · exact absurd ⟨rfl, rfl⟩ hn
    · rename_i c d
      simp [h c d rfl rfl]
    · rfl
  cases op <;> first
    | rfl
    | exact key _

theorem structOp_sound (hr : ∀ id, BlkRel ρ S w H id (nthB H id)) {op : BinOp} {t : TypeId} {x y : AV} {cx cy : Value} (hx : VR ρ S w H x cx) (hy : VR ρ S w H y cy) {K : AV → Option R} {r : R} (h : structOp P H op t x y K = some r) :
    ∃ v cv, K v = some r ∧ VR ρ S w H v cv ∧ P.eqGuardType P.depth t = false ∧ (∃ c d, cx = .agg c ∧ cy = .agg d) ∧
      (((op = .eql ∧ ∃ b, cv = .bool b ∧ (Op.equal t cx cy).run P w = .ok b w) ∨ (op = .neq ∧ ∃ b, cv = .bool (!b) ∧ (Op.equal t cx cy).run P w = .ok b w))) := by
  unfold structOp at h
  split at h
  · rename_i T hT
    split at h
    · rename_i hc
      simp only [Bool.and_eq_true] at hc
      obtain ⟨s, hs⟩ := Option.isSome_iff_exists.1 hc.2
      have hpl := hc.1.1.1
      split at h
      · rename_i p q hp hq
        have h1 := deep_VR hr (plain_flat T hpl) hx hp
        have h2 := deep_VR hr (plain_flat T hpl) hy hq
        have he := (equal_sound (S := S) (w := w) depth hT hpl hs).2 Op.maxDepth (by unfold depth Op.maxDepth; omega) h1 h2
        obtain ⟨c, hc1, _⟩ := VR.agg hc.1.1.2 hx
        obtain ⟨d, hc2, _⟩ := VR.agg hc.1.2 hy
        have hni : ∃ c d, cx = .agg c ∧ cy = .agg d := ⟨_, _, hc1, hc2⟩
        split at h
        · exact ⟨_, _, h, VR.bool_mk _, eqGuard_false hs depth_le, hni, .inl ⟨rfl, _, rfl, he⟩⟩
        · exact ⟨_, _, h, VR.bool_mk _, eqGuard_false hs depth_le, hni, .inr ⟨rfl, _, rfl, he⟩⟩
        · cases h
      · cases h
    · cases h
  · cases h

/-- a slice against nil -/
theorem nilOp_sound (hr : ∀ id, BlkRel ρ S w H id (nthB H id)) {x : AV} {cx : Value} (hx : VR ρ S w H x cx) {K : Bool → Option R} {r : R} (h : nilOp H x K = some r) :
    ∃ a n c, cx = .slice a n c ∧ K a.isNone = some r := by
  unfold nilOp at h
  split at h
  · have : [cx] = [Value.slice none 0 0] := VR.rel rfl (by simp) hx
    exact ⟨none, 0, 0, by simpa using this, h⟩
  · rename_i t l tight
    obtain ⟨a, cap, e, h1, _, h3⟩ := VR.rel rfl (by simp) hx
    refine ⟨a, l.length, cap, by simpa using e, ?_⟩
    rcases br_cases h with ⟨_, h⟩ | ⟨hne, h⟩
    · obtain ⟨g1, g2⟩ := agree_both h
      cases a.isNone <;> assumption
    · have : l ≠ [] := by intro e; subst e; simp at hne
      rcases h3 with h3 | ⟨b, o, cs, rfl, _⟩
      · exact absurd h3 this
      · exact h
  · rename_i id off len full
    obtain ⟨a, cap, e, hin⟩ := VR.rel rfl (by simp) hx
    refine ⟨a, len, cap, by simpa using e, ?_⟩
    obtain ⟨t, n, rr, hi, h1, h2, h3⟩ := hin
    split at h
    · rename_i t' l' f' hb
      have : rowInfo H id = some (t', l'.length, true) := by unfold rowInfo; rw [hb]
      rw [this] at hi
      obtain ⟨rfl, rfl, rfl⟩ : t' = t ∧ l'.length = n ∧ true = rr := by simpa using hi
      rcases h3 with ⟨b, base, c, e2, fz, _, _, ha, _⟩ | ⟨_, _, _, h4⟩
      · have := ha (.inl rfl)
        cases a with
        | none => simp at this
        | some a => exact h
      · cases h4
    · rename_i t' l' f' hb
      have : rowInfo H id = some (t', l'.length, false) := by unfold rowInfo; rw [hb]
      rw [this] at hi
      obtain ⟨rfl, rfl, rfl⟩ : t' = t ∧ l'.length = n ∧ false = rr := by simpa using hi
      rcases br_cases h with ⟨_, h⟩ | ⟨hne, h⟩
      · obtain ⟨g1, g2⟩ := agree_both h
        cases a.isNone <;> assumption
      · have hl : 0 < l'.length := by cases l' with
          | nil => simp at hne
          | cons _ _ => simp
        rcases h3 with ⟨b, base, c, e2, fz, _, _, ha, _⟩ | ⟨_, h4, _⟩
        · have := ha (.inr hl)
          cases a with
          | none => simp at this
          | some a => exact h
        · omega
    · cases h
  · cases h

theorem nilsl_inv {c : Value} (h : VR ρ S w H .nilsl c) : c = .slice none 0 0 := by
  have : [c] = [Value.slice none 0 0] := VR.rel rfl (by simp) h
  simpa using this

theorem nilCmp_sound (hr : ∀ id, BlkRel ρ S w H id (nthB H id)) {op : BinOp} {t : TypeId} {x : AV} {cx : Value} (hx : VR ρ S w H x cx) {K : AV → Option R} {r : R} (h : nilCmp P H op t x K = some r) :
    ∃ v cv, K v = some r ∧ VR ρ S w H v cv ∧ (∃ a n c, cx = .slice a n c) ∧ (binOp op t cx (.slice none 0 0)).run P w = .ok cv w ∧ (binOp op t (.slice none 0 0) cx).run P w = .ok cv w := by
  unfold nilCmp at h
  split at h
  · rename_i e hu
    have key : ∀ (a : Option Addr) (n c : Nat), (Op.equal t (.slice a n c) (.slice none 0 0)).run P w = .ok a.isNone w ∧ (Op.equal t (.slice none 0 0) (.slice a n c)).run P w = .ok a.isNone w := by
      intro a n c
      have g : ∀ d, (Op.equalIn (d + 1) t (.slice a n c) (.slice none 0 0)).run P w = .ok a.isNone w ∧ (Op.equalIn (d + 1) t (.slice none 0 0) (.slice a n c)).run P w = .ok a.isNone w := by
        intro d
        cases a <;> simp [Op.equalIn, run_underlying hu]
      exact g 9999
    split at h
    · obtain ⟨a, n, c, rfl, hk⟩ := nilOp_sound hr hx h
      refine ⟨_, _, hk, VR.bool_mk _, ⟨a, n, c, rfl⟩, ?_, ?_⟩ <;> simp [binOp, key a n c]
    · obtain ⟨a, n, c, rfl, hk⟩ := nilOp_sound hr hx h
      refine ⟨_, _, hk, VR.bool_mk _, ⟨a, n, c, rfl⟩, ?_, ?_⟩ <;> simp [binOp, key a n c]
    · cases h
  · cases h

theorem strVal_append (s t : List Int) : strVal (s ++ t) = strVal s ++ strVal t := by
  apply ByteArray.ext
  simp [strVal, ByteArray.data_append]

theorem strVal_size (s : List Int) : (strVal s).size = s.length := by
  show (strVal s).data.size = s.length
  simp [strVal]

theorem strOp_sound {op : BinOp} {t : TypeId} {x y : List Int} (hx : ∀ n ∈ x, byteB n) (hy : ∀ n ∈ y, byteB n) {K : AV → Option R} {r : R} (h : strOp op x y K = some r) :
    ∃ v cv, K v = some r ∧ VR ρ S w H v cv ∧ (binOp op t (.string (strVal x)) (.string (strVal y))).run P w = .ok cv w := by
  have he : ((strVal x).toList == (strVal y).toList) = decide (x = y) := by
    rw [← beq_toListBytes, strVal_eqB hx hy]
  unfold strOp at h
  split at h
  · rcases br_cases h with ⟨hl, h⟩ | ⟨_, h⟩
    · have hl : x.length + y.length ≤ lim := by simpa using hl
      refine ⟨_, _, h, VR.of_rel rfl ⟨rfl, ?_⟩, ?_⟩
      · intro n hn
        rcases List.mem_append.1 hn with hn | hn
        · exact hx n hn
        · exact hy n hn
      · rw [strVal_append]
        have : ¬ (((strVal x).size + (strVal y).size : Nat) : Int) > IntKind.i64.max := by
          rw [strVal_size, strVal_size]
          unfold lim at hl
          have : IntKind.i64.max = 9223372036854775807 := by decide
          omega
        simp only [binOp, Op.stringOp]
        rw [if_neg this]
        rfl
    · cases h
  · exact ⟨_, _, h, VR.bool_mk _, by simp [binOp, Op.stringOp, he]⟩
  · exact ⟨_, _, h, VR.bool_mk _, by simp [binOp, Op.stringOp, he]⟩
  · cases h

theorem binAV_sound (hr : ∀ id, BlkRel ρ S w H id (nthB H id)) {op : BinOp} {t yt : TypeId} {ox oy : Operand} {x y : AV} (hx : VR ρ S w H x (a.eval ox)) (hy : VR ρ S w H y (a.eval oy)) {K : AV → Option R} {r : R} (h : binAV P H op t x y K = some r) :
    ∃ v cv, K v = some r ∧ VR ρ S w H v cv ∧ ∀ ty, (ex a.eval (.binOp op t ox oy yt) ty).run P w = .ok (.value cv) w := by
  have fin : ∀ {v : AV} {cv : Value}, K v = some r → VR ρ S w H v cv → (∀ c d, a.eval ox = .agg c → a.eval oy = .agg d → P.eqGuardType P.depth t = false) → ¬ (a.eval ox = .nilIface ∧ a.eval oy = .nilIface) →
      (binOp op t (a.eval ox) (a.eval oy)).run P w = .ok cv w → ∃ v cv, K v = some r ∧ VR ρ S w H v cv ∧ ∀ ty, (ex a.eval (.binOp op t ox oy yt) ty).run P w = .ok (.value cv) w := by
    intro v cv hk hv h1 h2 h3
    refine ⟨v, cv, hk, hv, fun ty => ?_⟩
    simp only [ex, execOp, Sem.run_bind, sem_run_eqGuard h1 h2, Result.andThen_ok, h3, Sem.run_pure]
  unfold binAV at h
  split at h
  · rename_i k m l n
    obtain ⟨e1, g1⟩ := VR.int_inv hx
    obtain ⟨e2, g2⟩ := VR.int_inv hy
    have c1 : ∀ c d, a.eval ox = .agg c → a.eval oy = .agg d → P.eqGuardType P.depth t = false := by rw [e1]; intro c d h; cases h
    have c2 : ¬ (a.eval ox = .nilIface ∧ a.eval oy = .nilIface) := by rw [e1]; rintro ⟨h, _⟩; cases h
    unfold intBin at h
    split at h
    · obtain ⟨v, cv, hk, hr', hv⟩ := shiftOp_sound (P := P) (w := w) (ρ := ρ) (S := S) (H := H) (l := l) g1 h
      exact fin hk hv c1 c2 (by rw [e1, e2]; exact hr')
    · obtain ⟨v, cv, hk, hr', hv⟩ := shiftOp_sound (P := P) (w := w) (ρ := ρ) (S := S) (H := H) (l := l) g1 h
      exact fin hk hv c1 c2 (by rw [e1, e2]; exact hr')
    · rename_i hs1 hs2
      split at h
      · rename_i hk
        obtain rfl := kindB_eq hk
        obtain ⟨v, cv, hk, hr', hv⟩ := intOp_sound (P := P) (w := w) (ρ := ρ) (S := S) (H := H) (t := t) g1 h (fun e => hs1 e) (fun e => hs2 e)
        exact fin hk hv c1 c2 (by rw [e1, e2]; exact hr')
      · cases h
  · obtain ⟨e1, g1⟩ := VR.str_inv hx
    obtain ⟨e2, g2⟩ := VR.str_inv hy
    obtain ⟨v, cv, hk, hv, hr'⟩ := strOp_sound (P := P) (w := w) (ρ := ρ) (S := S) (H := H) (t := t) g1 g2 h
    exact fin hk hv (by rw [e1]; intro c d h; cases h) (by rw [e1]; rintro ⟨h, _⟩; cases h) (by rw [e1, e2]; exact hr')
  · rename_i p q
    have e1 := VR.bool_inv hx
    have e2 := VR.bool_inv hy
    have c1 : ∀ c d, a.eval ox = .agg c → a.eval oy = .agg d → P.eqGuardType P.depth t = false := by rw [e1]; intro c d h; cases h
    have c2 : ¬ (a.eval ox = .nilIface ∧ a.eval oy = .nilIface) := by rw [e1]; rintro ⟨h, _⟩; cases h
    unfold boolOp at h
    split at h
    · rename_i hu
      have g : (Op.equal t (.bool p) (.bool q)).run P w = .ok (p == q) w := by
        have : ∀ d, (Op.equalIn (d + 1) t (.bool p) (.bool q)).run P w = .ok (p == q) w := by intro d; simp [Op.equalIn, run_underlying hu]
        exact this 9999
      split at h
      · exact fin h (VR.bool_mk _) c1 c2 (by rw [e1, e2]; simp [binOp, g])
      · exact fin h (VR.bool_mk _) c1 c2 (by rw [e1, e2]; simp [binOp, g])
      · cases h
    · cases h
  · obtain ⟨v, cv, hk, hv, ⟨p, n, c, e⟩, h1, _⟩ := nilCmp_sound hr hx h
    have e2 := nilsl_inv hy
    exact fin hk hv (by rw [e]; intro c d h; cases h) (by rw [e]; rintro ⟨h, _⟩; cases h) (by rw [e2]; exact h1)
  · obtain ⟨v, cv, hk, hv, ⟨p, n, c, e⟩, _, h1⟩ := nilCmp_sound hr hy h
    have e2 := nilsl_inv hx
    exact fin hk hv (by rw [e2]; intro c d h; cases h) (by rw [e2]; rintro ⟨h, _⟩; cases h) (by rw [e2]; exact h1)
  · obtain ⟨v, cv, hk, hv, h1, ⟨c, d, e1, e2⟩, h3⟩ := structOp_sound hr hx hy h
    refine fin hk hv (fun _ _ _ _ => h1) (by rw [e1]; rintro ⟨h, _⟩; cases h) ?_
    rw [e1, e2] at h3 ⊢
    rcases h3 with ⟨rfl, b, rfl, hb⟩ | ⟨rfl, b, rfl, hb⟩
    · simp [binOp, hb]
    · simp [binOp, hb]

end Go.Am
