/-
  AM, seventh text: the state of a run, beside the machine's.
-/
import Derived.Test.YtjfgannabdaemaaGreatAm5
import Derived.Laws.IdiomCopy
set_option linter.all false
namespace Go.Am

theorem kindLo_eq (k : IntKind) : kindLo k = k.min := by cases k <;> rfl
theorem kindHi_eq (k : IntKind) : kindHi k = k.max := by cases k <;> rfl

structure Sim (N : Nat) (Hd : Nat → Prop) (S0 : Nat → Prop) (w0 : World) (ρ : Emb) (S : Nat → Prop) (st : St) (a : Act) (sv : List Value) (w : World) : Prop where
  tm : All2 (VR ρ S w st.heap) st.tmps a.tmps.toList
  sv : All2 (VR ρ S w st.heap) st.saved sv
  bl : ∀ id, BlkRel ρ S w st.heap id (nthB st.heap id)
  inj : ∀ i j b x y, ρ i = some (b, x) → ρ j = some (b, y) → i = j
  own : ∀ i b x, ρ i = some (b, x) → b < w.heap.size ∧ (N ≤ b ∨ Hd b)
  stay : ∀ b, S b → b < w.heap.size
  lim : ∀ b, S b → S0 b ∨ N ≤ b ∨ Hd b
  grew : ∀ b, S0 b → S b
  keep : ∀ b, b < N → ¬ Hd b → w.heap[b]? = w0.heap[b]?
  base : N ≤ w.heap.size
  dfr : a.defers = []
  eff : w.os = w0.os ∧ w.output = w0.output ∧ w.tape = w0.tape

section
variable {α β : Type} {f g : α → β → Prop}

theorem All2.mono (h : ∀ a b, f a b → g a b) : ∀ {l : List α} {m : List β}, All2 f l m → All2 g l m := by
  intro l
  induction l with
  | nil => intro m h'; cases m <;> first | trivial | exact h'.elim
  | cons a l ih => intro m h'; cases m with
    | nil => exact h'.elim
    | cons b m => exact ⟨h _ _ h'.1, ih h'.2⟩

theorem All2.mono_mem (p : α → Prop) (h : ∀ a b, p a → f a b → g a b) : ∀ {l : List α} {m : List β}, (∀ a ∈ l, p a) → All2 f l m → All2 g l m := by
  intro l
  induction l with
  | nil => intro m _ h'; cases m <;> first | trivial | exact h'.elim
  | cons a l ih => intro m hp h'; cases m with
    | nil => exact h'.elim
    | cons b m => exact ⟨h _ _ (hp a (by simp)) h'.1, ih (fun x hx => hp x (by simp [hx])) h'.2⟩

theorem All2.length : ∀ {l : List α} {m : List β}, All2 f l m → l.length = m.length := by
  intro l
  induction l with
  | nil => intro m h'; cases m <;> first | rfl | exact h'.elim
  | cons a l ih => intro m h'; cases m with
    | nil => exact h'.elim
    | cons b m => simp [ih h'.2]

theorem All2.get : ∀ {l : List α} {m : List β} {i : Nat} {a : α}, All2 f l m → l[i]? = some a → ∃ b, m[i]? = some b ∧ f a b := by
  intro l
  induction l with
  | nil => intro m i a _ hi; simp at hi
  | cons x l ih => intro m i a h' hi; cases m with
    | nil => exact h'.elim
    | cons b m => cases i with
      | zero => simp only [List.getElem?_cons_zero, Option.some.injEq] at hi; subst hi; exact ⟨b, rfl, h'.1⟩
      | succ i =>
        obtain ⟨c, h1, h2⟩ := ih (i := i) h'.2 (by simpa using hi)
        exact ⟨c, by simpa using h1, h2⟩

theorem All2.set : ∀ {l : List α} {m : List β} {i : Nat} {a : α} {b : β}, All2 f l m → f a b → All2 f (l.set i a) (m.set i b) := by
  intro l
  induction l with
  | nil => intro m i a b h' _; cases m <;> first | trivial | exact h'.elim
  | cons x l ih => intro m i a b h' hf; cases m with
    | nil => exact h'.elim
    | cons y m => cases i with
      | zero => exact ⟨hf, h'.2⟩
      | succ i => exact ⟨h'.1, ih h'.2 hf⟩

theorem All2.append {l l' : List α} {m m' : List β} : All2 f l m → All2 f l' m' → All2 f (l ++ l') (m ++ m') := by
  induction l generalizing m with
  | nil => intro h h'; cases m <;> first | exact h' | exact h.elim
  | cons a l ih => intro h h'; cases m with
    | nil => exact h.elim
    | cons b m => exact ⟨h.1, ih h.2 h'⟩

theorem All2.map_left {γ : Type} {h : γ → α} : ∀ {l : List γ} {m : List β}, All2 f (l.map h) m ↔ All2 (fun c b => f (h c) b) l m := by
  intro l
  induction l with
  | nil => intro m; cases m <;> rfl
  | cons c l ih => intro m; cases m with
    | nil => rfl
    | cons b m => exact and_congr Iff.rfl ih
end

variable {N : Nat} {Hd S0 : Nat → Prop} {w0 : World} {ρ : Emb} {S : Nat → Prop} {st : St} {a : Act} {sv : List Value} {w : World}

theorem bytes_back (s : ByteArray) : strVal (s.data.toList.map fun b => (b.toNat : Int)) = s := by
  unfold strVal
  have : ((s.data.toList.map fun b => (b.toNat : Int)).map fun n => UInt8.ofNat n.toNat) = s.data.toList := by
    rw [List.map_map]
    conv => rhs; rw [← List.map_id s.data.toList]
    apply List.map_congr_left
    intro b _
    simp
  rw [this]

theorem bytes_byteB (s : ByteArray) : ∀ n ∈ (s.data.toList.map fun b => (b.toNat : Int)), byteB n := by
  intro n hn
  obtain ⟨b, _, rfl⟩ := List.mem_map.1 hn
  have := b.toNat_lt
  exact ⟨by omega, by omega⟩

theorem const_rel {H : Heap} (v : Value) : VR ρ S w H (constAV v) v := by
  unfold constAV
  split
  · split
    · rename_i k n h
      simp only [Bool.and_eq_true, decide_eq_true_eq] at h
      exact VR.of_rel rfl ⟨rfl, by rw [← kindLo_eq]; exact h.1, by rw [← kindHi_eq]; exact h.2⟩
    · trivial
  · exact VR.of_rel rfl rfl
  · rename_i s
    exact VR.of_rel rfl ⟨by rw [bytes_back], bytes_byteB s⟩
  · exact VR.of_rel rfl rfl
  · exact VR.of_rel rfl rfl
  · exact VR.of_rel rfl rfl
  · exact VR.of_rel rfl rfl
  · trivial

theorem Sim.eval (h : Sim N Hd S0 w0 ρ S st a sv w) (x : Operand) : VR ρ S w st.heap (st.eval x) (a.eval x) := by
  cases x with
  | tmp t =>
    show VR ρ S w st.heap (nthD st.tmps t) (a.tmps.getD t undef)
    rw [nthD_eq]
    cases ht : st.tmps[t]? with
    | none => simp [List.getD, ht]; trivial
    | some v =>
      obtain ⟨b, hb, hv⟩ := h.tm.get ht
      have : a.tmps[t]? = some b := by simpa using hb
      simp only [List.getD, ht, Option.getD_some]
      simpa [Array.getD_eq_getD_getElem?, this] using hv
  | const v => exact const_rel v
  | global g => trivial
  | func f => exact VR.of_rel rfl ⟨[], rfl, rfl⟩

theorem Act.put_tmps (a : Act) (dst : Option Tmp) (v : Value) : (a.put dst v).tmps.toList = match dst with | some d => a.tmps.toList.set d v | none => a.tmps.toList := by
  cases dst <;> simp [Act.put]

theorem Act.put_dfr (a : Act) (dst : Option Tmp) (v : Value) : (a.put dst v).defers = a.defers := by cases dst <;> rfl

theorem Sim.put (h : Sim N Hd S0 w0 ρ S st a sv w) (dst : Option Tmp) {v : AV} {x : Value} (hv : VR ρ S w st.heap v x) : Sim N Hd S0 w0 ρ S (st.putT dst v) (a.put dst x) sv w := by
  obtain ⟨h1, h2, h3, h4, h5, h6, h7, h8, h9, h10, h11, h12⟩ := h
  cases dst with
  | none => exact ⟨h1, h2, h3, h4, h5, h6, h7, h8, h9, h10, h11, h12⟩
  | some d =>
    refine ⟨?_, h2, h3, h4, h5, h6, h7, h8, h9, h10, h11, h12⟩
    show All2 _ (setR st.tmps d v) _
    rw [setR_eq, Act.put_tmps]
    exact h1.set hv

/-- a temporary's value, spelled otherwise -/
theorem Sim.setTmp (h : Sim N Hd S0 w0 ρ S st a sv w) (t : Nat) {v : AV} (hv : ∀ x, st.tmps[t]? = some (nthD st.tmps t) → VR ρ S w st.heap (nthD st.tmps t) x → VR ρ S w st.heap v x) :
    Sim N Hd S0 w0 ρ S { st with tmps := setR st.tmps t v } a sv w := by
  obtain ⟨h1, h2, h3, h4, h5, h6, h7, h8, h9, h10, h11, h12⟩ := h
  refine ⟨?_, h2, h3, h4, h5, h6, h7, h8, h9, h10, h11, h12⟩
  show All2 _ (setR st.tmps t v) _
  rw [setR_eq]
  cases ht : st.tmps[t]? with
  | none =>
    rw [List.set_eq_of_length_le (by simpa using ht)]
    exact h1
  | some u =>
    obtain ⟨x, hx, hu⟩ := h1.get ht
    have e : nthD st.tmps t = u := by rw [nthD_eq]; simp [List.getD, ht]
    have hs : a.tmps.toList = a.tmps.toList.set t x := by
      apply List.ext_getElem?
      intro j
      rw [List.getElem?_set]
      split
      · rename_i e; subst e
        have : t < a.tmps.toList.length := (List.getElem?_eq_some_iff.1 hx).1
        simp only [this, if_true]; exact hx
      · rfl
    rw [hs]
    exact h1.set (hv x (by rw [ht, e]) (by rw [e]; exact hu))

end Go.Am
