/-
  AM: the world goes on; ranges over nil maps.
-/
import Derived.Test.YtjfgannabdaemaaGreatAm22
set_option linter.all false
namespace Go.Am
set_option linter.unusedSimpArgs false

variable {R : Type} {P : Program} {N : Nat} {Hd S0 : Nat → Prop} {w0 : World} {ρ : Emb} {S S' : Nat → Prop} {st : St} {a : Act} {sv : List Value} {w : World} {H : Heap}

/-- blocks that were there -/
def Old (w : World) (b : Nat) : Prop := b < w.heap.size

/-- what a run leaves: all that was there -/
structure Kept (w w' : World) : Prop where
  heap : ∀ b, b < w.heap.size → w'.heap[b]? = w.heap[b]?
  size : w.heap.size ≤ w'.heap.size
  eff : w'.os = w.os ∧ w'.output = w.output ∧ w'.tape = w.tape

/-- the world goes on; what was there is as it was -/
theorem Sim.later (hs : Sim N Hd S0 w0 ρ S st a sv w) {w' : World} (hk : Kept w w') (hS : ∀ b, S b → S' b) (hn : ∀ b, S' b → S b ∨ (w.heap.size ≤ b ∧ b < w'.heap.size)) :
    Sim N Hd S0 w0 ρ S' st a sv w' := by
  have k : Carry (fun _ => True) ρ S w st.heap ρ S' w' st.heap := {
    emb := fun _ _ _ => rfl
    off := fun _ _ _ => rfl
    row := fun _ _ _ => rfl
    map := fun _ _ _ => rfl
    stay := hS
    same := fun b hb => hk.heap b (hs.stay b hb)
    size := fun i b base c e fz _ hr hc => ⟨c, e, fz, by rw [hk.heap b (hs.own i b base hr).1]; exact hc, rfl⟩ }
  exact {
    tm := hs.tm.mono fun v x hv => hv.carry k v.on_true
    sv := hs.sv.mono fun v x hv => hv.carry k v.on_true
    bl := fun i => by
      refine BlkRel.carry k rfl (fun hn => by have := hs.bl i; rw [hn] at this; exact this) trivial (fun b base hr => hk.heap b (hs.own i b base hr).1) (fun b base hr h => ?_) (fun v f _ => v.on_true) (hs.bl i)
      rcases hn b h with h | h
      · exact h
      · have := (hs.own i b base hr).1; omega
    inj := hs.inj
    own := fun i b x hi => ⟨by have := (hs.own i b x hi).1; have := hk.size; omega, (hs.own i b x hi).2⟩
    stay := fun b hb => by
      rcases hn b hb with h | h
      · have := hs.stay b h; have := hk.size; omega
      · exact h.2
    lim := fun b hb => by
      rcases hn b hb with h | h
      · exact hs.lim b h
      · have := hs.base; exact .inr (.inl (by omega))
    grew := fun b hb => hS b (hs.grew b hb)
    keep := fun b h1 h2 => by rw [hk.heap b (by have := hs.base; omega)]; exact hs.keep b h1 h2
    base := by have := hs.base; have := hk.size; omega
    dfr := hs.dfr
    eff := ⟨hk.eff.1.trans hs.eff.1, hk.eff.2.1.trans hs.eff.2.1, hk.eff.2.2.trans hs.eff.2.2⟩ }

theorem opRange_sound {ty : TypeId} {t : TypeId} {x : Operand} {K : AV → St → Option R} {r : R} (hs : Sim N Hd S0 w0 ρ S st a sv w) (hk : opRange P t x st K = some r) :
    OpOK P N Hd S0 w0 sv a (.range t x) ty w K r := by
  unfold opRange at hk
  split at hk
  · rename_i kt vt hu
    split at hk
    · rename_i hx
      have hv := hs.eval x
      rw [hx] at hv
      have hv : a.eval x = .map none := by
        have : [a.eval x] = [Value.map none] := VR.rel rfl (by simp) hv
        simpa using this
      let o : Obj := .mapIter none 0 #[] 0
      have hkept : Kept w (w.alloc o) := ⟨fun b hb => by simp only [World.alloc, Array.getElem?_push]; rw [if_neg (by omega)], by simp, rfl, rfl, rfl⟩
      refine ⟨.iter0, st, ρ, fun b => S b ∨ (w.heap.size ≤ b ∧ b < (w.alloc o).heap.size), .pointer (some ⟨w.heap.size, 0, none⟩), w.alloc o, hk, .inl ?_, hs.later hkept (fun _ h => .inl h) (fun _ h => h), ?_⟩
      · have hn : (newObj o).run P w = .ok w.heap.size (w.alloc o) := rfl
        simp only [ex, execOp, Instr.range, Sem.run_bind, run_underlying hu, Result.andThen_ok, hv, Sem.run_pure, o] at hn ⊢
        rw [hn]
        rfl
      · exact VR.of_rel rfl ⟨w.heap.size, 0, #[], 0, rfl, .inr ⟨Nat.le_refl _, by simp⟩, by show (w.heap.push o)[w.heap.size]? = some o; simp⟩
    · cases hk
  · cases hk

theorem opNext_sound {ty : TypeId} {it : Operand} {b : Bool} {K : AV → St → Option R} {r : R} (hs : Sim N Hd S0 w0 ρ S st a sv w) (hk : opNext it b st K = some r) :
    OpOK P N Hd S0 w0 sv a (.next it b) ty w K r := by
  unfold opNext at hk
  split at hk
  · cases hk
  · split at hk
    · rename_i hx
      have hv := hs.eval it
      rw [hx] at hv
      obtain ⟨c, x, y, z, h1, _, h2⟩ := VR.rel rfl (by simp) hv
      have h1 : a.eval it = .pointer (some ⟨c, 0, none⟩) := by simpa using h1
      refine OpOK.pure hs hk (cv := .tuple #[.bool false]) ?_ (VR.of_rel rfl ⟨[.bool false], rfl, chain_list (l := [.bool false]) ⟨VR.bool_mk false, trivial⟩⟩)
      simp [ex, execOp, Instr.next, h1, getObj, Sem.run, h2]
    · cases hk

end Go.Am
