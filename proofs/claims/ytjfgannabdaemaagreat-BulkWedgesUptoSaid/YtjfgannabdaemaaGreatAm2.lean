/-
  AM, third text: what a deep value, a machine's value, and a block are in the model's memory; these relations are kept where memory that they lean on is kept.
-/
import Derived.Test.YtjfgannabdaemaaGreatAm1
set_option linter.all false
namespace Go.Am

/-! ## Deep values in memory -/

/-- 'cs' lies in block b from o on -/
noncomputable def Has (w : World) (b o : Nat) (cs : List Value) : Prop :=
  ∃ c e fz, w.heap[b]? = some (.cells c e fz) ∧ o + cs.length ≤ c.size ∧ ∀ j v, cs[j]? = some v → c[o + j]? = some v

noncomputable def Many {α : Type} (f : α → List Value → Prop) : List α → List Value → Prop
  | [], cs => cs = []
  | a :: l, cs => ∃ c d, cs = c ++ d ∧ f a c ∧ Many f l d

theorem Many.mono {α : Type} {f g : α → List Value → Prop} (h : ∀ a c, f a c → g a c) : ∀ {l : List α} {cs : List Value}, Many f l cs → Many g l cs := by
  intro l
  induction l with
  | nil => intro cs h'; exact h'
  | cons a l ih => rintro cs ⟨c, d, rfl, hc, hd⟩; exact ⟨c, d, rfl, h _ _ hc, ih hd⟩

theorem Many.append {α : Type} {f : α → List Value → Prop} : ∀ {l m : List α} {c d : List Value}, Many f l c → Many f m d → Many f (l ++ m) (c ++ d) := by
  intro l
  induction l with
  | nil => intro m c d h h'; obtain rfl : c = [] := h; exact h'
  | cons a l ih => rintro m c d ⟨x, y, rfl, hx, hy⟩ h'; exact ⟨x, y ++ d, by simp, hx, ih hy h'⟩

theorem Many.length {α : Type} {f : α → List Value → Prop} {n : Nat} (h : ∀ a c, f a c → c.length = n) : ∀ {l : List α} {cs : List Value}, Many f l cs → cs.length = l.length * n := by
  intro l
  induction l with
  | nil => intro cs h'; obtain rfl : cs = [] := h'; simp
  | cons a l ih => rintro cs ⟨c, d, rfl, hc, hd⟩; simp [h _ _ hc, ih hd, Nat.succ_mul, Nat.add_comm]

/-- the i-th one's part -/
theorem Many.at_ {α : Type} {f : α → List Value → Prop} {n : Nat} (h : ∀ a c, f a c → c.length = n) : ∀ {l : List α} {cs : List Value} {i : Nat} {a : α}, Many f l cs → l[i]? = some a →
    f a ((cs.drop (i * n)).take n) ∧ i * n + n ≤ cs.length := by
  intro l
  induction l with
  | nil => intro cs i a _ hi; simp at hi
  | cons x l ih =>
    rintro cs i a ⟨c, d, rfl, hc, hd⟩ hi
    have hn := h _ _ hc
    cases i with
    | zero =>
      simp only [List.getElem?_cons_zero, Option.some.injEq] at hi
      subst hi
      simp [hn]
      exact hc
    | succ i =>
      simp only [List.getElem?_cons_succ] at hi
      obtain ⟨h1, h2⟩ := ih hd hi
      have e : (i + 1) * n = c.length + i * n := by rw [Nat.succ_mul, hn, Nat.add_comm]
      rw [e, List.drop_append, List.drop_of_length_le (by omega), List.nil_append, Nat.add_sub_cancel_left]
      exact ⟨h1, by simp; omega⟩

theorem Many.take {α : Type} {f : α → List Value → Prop} {n : Nat} (h : ∀ a c, f a c → c.length = n) : ∀ {l : List α} {cs : List Value} (i : Nat), Many f l cs → Many f (l.take i) (cs.take (i * n)) := by
  intro l
  induction l with
  | nil => intro cs i h'; obtain rfl : cs = [] := h'; simp [Many]
  | cons x l ih =>
    rintro cs i ⟨c, d, rfl, hc, hd⟩
    have hn := h _ _ hc
    cases i with
    | zero => simp [Many]
    | succ i =>
      have e : (i + 1) * n = c.length + i * n := by rw [Nat.succ_mul, hn, Nat.add_comm]
      rw [e, List.take_succ_cons, List.take_append, List.take_of_length_le (l := c) (by omega), Nat.add_sub_cancel_left]
      exact ⟨c, _, rfl, hc, ih i hd⟩

theorem Many.drop {α : Type} {f : α → List Value → Prop} {n : Nat} (h : ∀ a c, f a c → c.length = n) : ∀ {l : List α} {cs : List Value} (i : Nat), Many f l cs → Many f (l.drop i) (cs.drop (i * n)) := by
  intro l
  induction l with
  | nil => intro cs i h'; obtain rfl : cs = [] := h'; simp [Many]
  | cons x l ih =>
    rintro cs i ⟨c, d, rfl, hc, hd⟩
    have hn := h _ _ hc
    cases i with
    | zero => simp; exact ⟨c, d, rfl, hc, hd⟩
    | succ i =>
      have e : (i + 1) * n = c.length + i * n := by rw [Nat.succ_mul, hn, Nat.add_comm]
      rw [e, List.drop_succ_cons, List.drop_append, List.drop_of_length_le (l := c) (by omega), List.nil_append, Nat.add_sub_cancel_left]
      exact ih i hd

theorem Many.set {α : Type} {f : α → List Value → Prop} {n : Nat} (h : ∀ a c, f a c → c.length = n) : ∀ {l : List α} {cs : List Value} {i : Nat} {a : α} {c : List Value}, Many f l cs → i < l.length → f a c →
    Many f (l.set i a) (cs.take (i * n) ++ c ++ cs.drop (i * n + n)) := by
  intro l
  induction l with
  | nil => intro cs i a c _ hi; simp at hi
  | cons x l ih =>
    rintro cs i a e ⟨c, d, rfl, hc, hd⟩ hi he
    have hn := h _ _ hc
    cases i with
    | zero =>
      simp only [Nat.zero_mul, List.take_zero, List.nil_append, Nat.zero_add, List.set_cons_zero]
      refine ⟨e, d, ?_, he, hd⟩
      rw [← hn, List.drop_append_of_le_length (Nat.le_refl _), List.drop_length, List.nil_append]
    | succ i =>
      have e1 : (i + 1) * n = c.length + i * n := by rw [Nat.succ_mul, hn, Nat.add_comm]
      rw [e1, List.set_cons_succ, List.take_append, List.take_of_length_le (by omega), Nat.add_sub_cancel_left, Nat.add_assoc, List.drop_append, List.drop_of_length_le (by omega), List.nil_append, Nat.add_sub_cancel_left]
      exact ⟨c, _, by simp, hc, ih hd (by simpa using hi) he⟩

theorem Many.replicate {α : Type} {f : α → List Value → Prop} {a : α} {c : List Value} (h : f a c) : ∀ n : Nat, Many f (List.replicate n a) (List.replicate n c).flatten := by
  intro n
  induction n with
  | zero => simp [Many]
  | succ n ih => rw [List.replicate_succ, List.replicate_succ, List.flatten_cons]; exact ⟨c, _, rfl, h, ih⟩

noncomputable def strVal (s : List Int) : ByteArray := ⟨(s.map fun n => UInt8.ofNat n.toNat).toArray⟩

noncomputable def byteB (n : Int) : Prop := 0 ≤ n ∧ n < 256

/-- a slice's elements: where it has some, they lie in a block that stays -/
noncomputable def Elems (S : Nat → Prop) (w : World) {α : Type} (f : α → List Value → Prop) (l : List α) (a : Option Addr) : Prop :=
  l = [] ∨ ∃ b o cs, a = some ⟨b, o, none⟩ ∧ S b ∧ Many f l cs ∧ Has w b o cs

/-- a deep value, as cells -/
noncomputable def LV (S : Nat → Prop) (w : World) : (t : Ty) → t.den → List Value → Prop
  | .bool, x, cs => cs = [.bool x]
  | .int k, n, cs => cs = [.int k n] ∧ k.min ≤ n ∧ n ≤ k.max
  | .str, s, cs => cs = [.string (strVal s)] ∧ ∀ n ∈ s, byteB n
  | .unit, _, cs => cs = []
  | .pair a b, x, cs => ∃ c d, cs = c ++ d ∧ LV S w a x.1 c ∧ LV S w b x.2 d
  | .arr n t, l, cs => l.length = n ∧ Many (LV S w t) l cs
  | .sl t, l, cs => ∃ a cap, cs = [.slice a l.length cap] ∧ l.length ≤ cap ∧ Elems S w (LV S w t) l a
  | .fr t, l, cs => ∃ a cap, cs = [.slice a l.length cap] ∧ l.length ≤ cap ∧ Elems S w (LV S w t) l a

theorem LV.length {S : Nat → Prop} {w : World} : ∀ (t : Ty) {x : t.den} {cs : List Value}, LV S w t x cs → cs.length = t.size := by
  intro t
  induction t with
  | bool => intro x cs h; obtain rfl : cs = _ := h; rfl
  | int k => intro x cs h; obtain ⟨rfl, _⟩ := h; rfl
  | str => intro x cs h; obtain ⟨rfl, _⟩ := h; rfl
  | unit => intro x cs h; obtain rfl : cs = _ := h; rfl
  | pair a b iha ihb => rintro x cs ⟨c, d, rfl, h1, h2⟩; simp [Ty.size, iha h1, ihb h2]
  | arr n t ih => rintro x cs ⟨h1, h2⟩; rw [Many.length (fun a c h => ih h) h2, h1]; rfl
  | sl t _ => rintro x cs ⟨a, cap, rfl, _⟩; rfl
  | fr t _ => rintro x cs ⟨a, cap, rfl, _⟩; rfl

theorem Has.keep {w w' : World} {b o : Nat} {cs : List Value} (h : Has w b o cs) (e : w'.heap[b]? = w.heap[b]?) : Has w' b o cs := by
  obtain ⟨c, el, fz, h1, h2, h3⟩ := h
  exact ⟨c, el, fz, e.trans h1, h2, h3⟩

theorem Elems.mono {S S' : Nat → Prop} {w w' : World} {α : Type} {f g : α → List Value → Prop} {l : List α} {a : Option Addr} (hS : ∀ b, S b → S' b) (hw : ∀ b, S b → w'.heap[b]? = w.heap[b]?)
    (hf : ∀ a c, f a c → g a c) (h : Elems S w f l a) : Elems S' w' g l a := by
  rcases h with h | ⟨b, o, cs, ha, hb, hm, hh⟩
  · exact .inl h
  · exact .inr ⟨b, o, cs, ha, hS b hb, hm.mono hf, hh.keep (hw b hb)⟩

theorem LV.mono {S S' : Nat → Prop} {w w' : World} (hS : ∀ b, S b → S' b) (hw : ∀ b, S b → w'.heap[b]? = w.heap[b]?) :
    ∀ (t : Ty) {x : t.den} {cs : List Value}, LV S w t x cs → LV S' w' t x cs := by
  intro t
  induction t with
  | bool => intro x cs h; exact h
  | int k => intro x cs h; exact h
  | str => intro x cs h; exact h
  | unit => intro x cs h; exact h
  | pair a b iha ihb => rintro x cs ⟨c, d, rfl, h1, h2⟩; exact ⟨c, d, rfl, iha h1, ihb h2⟩
  | arr n t ih => rintro x cs ⟨h1, h2⟩; exact ⟨h1, h2.mono fun _ _ h => ih h⟩
  | sl t ih => rintro x cs ⟨a, cap, rfl, h1, h2⟩; exact ⟨a, cap, rfl, h1, h2.mono hS hw fun _ _ h => ih h⟩
  | fr t ih => rintro x cs ⟨a, cap, rfl, h1, h2⟩; exact ⟨a, cap, rfl, h1, h2.mono hS hw fun _ _ h => ih h⟩

/-! ## Places -/

noncomputable def offT : Ty → List Step → Option Nat
  | _, [] => some 0
  | .pair a _, .fld 0 :: p => offT a p
  | .pair a b, .fld (k + 1) :: p => (offT b (.fld k :: p)).map (a.size + ·)
  | .arr n t, .idx i :: p => if i < n then (offT t p).map (i * t.size + ·) else none
  | _, _ => none

noncomputable def offA : AV → List Step → Option Nat
  | _, [] => some 0
  | v, .fld k :: p => match v.fld k with
    | some u => (offA u p).map (v.fldOff k + ·)
    | none => none
  | .dar n t _, .idx i :: p => if i < n then (offT t p).map (i * t.size + ·) else none
  | _, .idx _ :: _ => none

noncomputable def offB (H : Heap) (id : Nat) (p : List Step) : Option Nat :=
  match nthB H id with
  | some (.var v _) => offA v p
  | some (.row t l _ _) => match p with
    | .idx i :: q => if i < l.length then (offT t q).map (i * t.size + ·) else none
    | _ => none
  | _ => none

noncomputable def rowInfo (H : Heap) (id : Nat) : Option (Ty × Nat × Bool) :=
  match nthB H id with
  | some (.row t l _ r) => some (t, l.length, r)
  | _ => none

noncomputable def mapInfo (H : Heap) (id : Nat) : Option (Ty × Ty) :=
  match nthB H id with
  | some (.mp k v _) => some (k, v)
  | _ => none

abbrev Emb := Nat → Option (Nat × Nat)

/-- a slice of a row -/
noncomputable def InRow (ρ : Emb) (w : World) (H : Heap) (id off len : Nat) (full : Bool) (a : Option Addr) (cap : Nat) : Prop :=
  ∃ t n r, rowInfo H id = some (t, n, r) ∧ off + len ≤ n ∧ (full = true → off + len = n) ∧
    ((∃ b base c e fz, ρ id = some (b, base) ∧ (0 < cap → a = some ⟨b, base + off * t.size, none⟩) ∧ (r = true ∨ 0 < n → a.isSome) ∧ w.heap[b]? = some (.cells c e fz) ∧ base + off * t.size + cap * t.size ≤ c.size ∧ n ≤ off + cap) ∨
     (ρ id = none ∧ n = 0 ∧ cap = 0 ∧ r = false))

/-- a value of one cell -/
noncomputable def leafV : Value → Bool
  | .agg _ | .tuple _ => false
  | _ => true

/-- a machine's value: as cells (m = true), or a chain's values one by one (m = false) -/
noncomputable def Rel (ρ : Emb) (S : Nat → Prop) (w : World) (H : Heap) : AV → Bool → List Value → Prop
  | .pair a b, true, cs => ∃ c d, cs = c ++ d ∧ Rel ρ S w H a true c ∧ Rel ρ S w H b true d
  | .pair a b, false, cs => ∃ v d, cs = v :: d ∧ (a = .dead ∨ (match a.isAgg with | true => ∃ c, v = .agg c.toArray ∧ Rel ρ S w H a true c | false => Rel ρ S w H a true [v])) ∧ Rel ρ S w H b false d
  | .unit, _, cs => cs = []
  | _, false, _ => False
  | .dead, true, cs => ∃ v, cs = [v] ∧ leafV v = true
  | .int k n, true, cs => LV S w (.int k) n cs
  | .bool b, true, cs => LV S w .bool b cs
  | .str s, true, cs => LV S w .str s cs
  | .nilsl, true, cs => cs = [.slice none 0 0]
  | .dsl t l tight, true, cs => ∃ a cap, cs = [.slice a l.length cap] ∧ l.length ≤ cap ∧ (tight = true → cap = l.length) ∧ Elems S w (LV S w t) l a
  | .lsl id off len full, true, cs => ∃ a cap, cs = [.slice a len cap] ∧ InRow ρ w H id off len full a cap
  | .dar n t l, true, cs => LV S w (.arr n t) l cs
  | .nilptr, true, cs => cs = [.pointer none]
  | .ptr id p, true, cs => ∃ b base o, ρ id = some (b, base) ∧ offB H id p = some o ∧ cs = [.pointer (some ⟨b, base + o, none⟩)]
  | .rptr v, true, cs => ∃ b o vs, cs = [.pointer (some ⟨b, o, none⟩)] ∧ S b ∧ Rel ρ S w H v true vs ∧ Has w b o vs
  | .nilfunc, true, cs => cs = [.nilFunc]
  | .func f c, true, cs => ∃ vs, cs = [.func (.func f) #[] vs.toArray] ∧ Rel ρ S w H c false vs
  | .tup v, true, cs => ∃ vs, cs = [.tuple vs.toArray] ∧ Rel ρ S w H v false vs
  | .nilmap, true, cs => cs = [.map none]
  | .map id, true, cs => ∃ b, ρ id = some (b, 0) ∧ (mapInfo H id).isSome ∧ cs = [.map (some b)]
  | .iter0, true, cs => ∃ b x y z, cs = [.pointer (some ⟨b, 0, none⟩)] ∧ S b ∧ w.heap[b]? = some (.mapIter none x y z)

/-- one value of Go's -/
noncomputable def VR (ρ : Emb) (S : Nat → Prop) (w : World) (H : Heap) (a : AV) (v : Value) : Prop :=
  match a with
  | .dead => True
  | a => match a.isAgg with
    | true => ∃ c, v = .agg c.toArray ∧ Rel ρ S w H a true c
    | false => Rel ρ S w H a true [v]

/-! ## What a value speaks of -/

noncomputable def AV.on (Ok : Nat → Prop) : AV → Prop
  | .pair a b => a.on Ok ∧ b.on Ok
  | .lsl id _ _ _ => Ok id
  | .ptr id _ => Ok id
  | .rptr v => v.on Ok
  | .func _ c => c.on Ok
  | .tup v => v.on Ok
  | .map id => Ok id
  | _ => True

theorem AV.on_kill (k : Nat) : ∀ v : AV, (v.kill k).on (· ≠ k) := by
  intro v
  induction v with
  | pair a b iha ihb => exact ⟨iha, ihb⟩
  | lsl id o n f =>
    unfold AV.kill
    split
    · trivial
    · rename_i h; exact fun e => by subst e; simp at h
  | ptr id p =>
    unfold AV.kill
    split
    · trivial
    · rename_i h; exact fun e => by subst e; simp at h
  | rptr v ih => exact ih
  | func f c ih => exact ih
  | tup v ih => exact ih
  | map id =>
    unfold AV.kill
    split
    · trivial
    · rename_i h; exact fun e => by subst e; simp at h
  | _ => trivial

end Go.Am
