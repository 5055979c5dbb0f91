/-
  AM, eighth text: how a state goes on: a new block, a write, a row made read-only.
-/
import Derived.Test.YtjfgannabdaemaaGreatAm6
set_option linter.all false
namespace Go.Am

theorem nthB_set (H : Heap) (i j : Nat) (b : Option Blk) : nthB (setR H i b) j = if j = i ∧ i < H.length then b else nthB H j := by
  rw [setR_eq, nthB_eq, nthB_eq]
  by_cases h : j = i ∧ i < H.length
  · rw [if_pos h]; obtain ⟨rfl, h⟩ := h; simp [List.getD, h]
  · rw [if_neg h]
    simp only [List.getD, List.getElem?_set]
    split
    · rename_i e
      subst e
      have : ¬ i < H.length := fun h' => h ⟨rfl, h'⟩
      simp [this]
    · rfl

theorem nthB_lt {H : Heap} {i : Nat} {b : Blk} (h : nthB H i = some b) : i < H.length := by
  rw [nthB_eq] at h
  rcases Nat.lt_or_ge i H.length with h' | h'
  · exact h'
  · simp [List.getD, h'] at h

theorem nthB_set_same {H : Heap} {i : Nat} {b c : Blk} (h : nthB H i = some b) : nthB (setR H i (some c)) i = some c := by
  rw [nthB_set, if_pos ⟨rfl, nthB_lt h⟩]

theorem nthB_set_ne {H : Heap} {i j : Nat} {b : Option Blk} (h : j ≠ i) : nthB (setR H i b) j = nthB H j := by
  rw [nthB_set, if_neg (fun e => h e.1)]

theorem nthB_push (H : Heap) (b : Option Blk) (j : Nat) : nthB (H ++ [b]) j = if j = H.length then b else nthB H j := by
  rw [nthB_eq, nthB_eq]
  simp only [List.getD, List.getElem?_append]
  by_cases h : j < H.length
  · rw [if_pos h, if_neg (by omega)]
  · rw [if_neg h]
    by_cases h2 : j = H.length
    · subst h2; simp
    · rw [if_neg h2]
      have : j - H.length ≠ 0 := by omega
      rw [List.getElem?_eq_none (by simp; omega), List.getElem?_eq_none (by omega)]

theorem nthB_room (H : Heap) (n j : Nat) : nthB (H ++ List.replicate n none) j = nthB H j := by
  rw [nthB_eq, nthB_eq]
  simp only [List.getD, List.getElem?_append]
  by_cases h : j < H.length
  · rw [if_pos h]
  · rw [if_neg h, List.getElem?_eq_none (by omega : H.length ≤ j), List.getElem?_replicate]
    split <;> rfl

section
variable {Ok : Nat → Prop} {ρ ρ' : Emb} {S S' : Nat → Prop} {w w' : World} {H H' : Heap}

theorem Own.keep {b base : Nat} {cs : List Value} (h : Own w b base cs) (e : w'.heap[b]? = w.heap[b]?) : Own w' b base cs := by
  obtain ⟨c, el, lo, hi, h1, h2, h3, h4⟩ := h
  exact ⟨c, el, lo, hi, e.trans h1, h2, h3, h4⟩

theorem LVv.mono (hS : ∀ b, S b → S' b) (hw : ∀ b, S b → w'.heap[b]? = w.heap[b]?) {t : Ty} {x : t.den} {v : Value} (h : LVv S w t x v) : LVv S' w' t x v := by
  unfold LVv at h ⊢
  cases hg : (inj t x).isAgg <;> rw [hg] at h
  · exact LV.mono hS hw t h
  · obtain ⟨c, rfl, h⟩ := h; exact ⟨c, rfl, LV.mono hS hw t h⟩

/-- a block that nothing touched -/
theorem BlkRel.carry (k : Carry Ok ρ S w H ρ' S' w' H') {id : Nat} {blk : Option Blk} (hb : nthB H id = blk) (hn : blk = none → ρ' id = none) (hok : Ok id)
    (hsame : ∀ b base, ρ id = some (b, base) → w'.heap[b]? = w.heap[b]?) (hS' : ∀ b base, ρ id = some (b, base) → S' b → S b) (hon : ∀ v f, blk = some (.var v f) → v.on Ok)
    (h : BlkRel ρ S w H id blk) : BlkRel ρ' S' w' H' id blk := by
  cases blk with
  | none => exact hn rfl
  | some q =>
    have hne : nthB H id ≠ none := by rw [hb]; simp
    have he := k.emb id hok hne
    cases q with
    | var v frz =>
      obtain ⟨b, base, cs, h1, h2, h3, h4, h5, h6⟩ := h
      exact ⟨b, base, cs, he.trans h1, h2.carry k v (hon v frz rfl), h3, h4.keep (hsame b base h1), fun hf hs => h5 hf (hS' b base h1 hs), fun hf => k.stay b (h6 hf)⟩
    | row t l frz real =>
      rcases h with ⟨b, base, cs, h1, h2, h3, h5, h6⟩ | ⟨h1, h2⟩
      · exact .inl ⟨b, base, cs, he.trans h1, h2.mono fun _ _ h => LV.mono k.stay k.same t h, h3.keep (hsame b base h1), fun hf hs => h5 hf (hS' b base h1 hs), fun hf => k.stay b (h6 hf)⟩
      · exact .inr ⟨he.trans h1, h2⟩
    | mp kt vt l =>
      obtain ⟨b, es, clock, h1, h2, h3, h4⟩ := h
      exact ⟨b, es, clock, he.trans h1, fun hs => h2 (hS' b 0 h1 hs), (hsame b 0 h1).trans h3, h4.mono fun p e h => ⟨h.1.mono k.stay k.same, h.2.mono k.stay k.same⟩⟩
    | iter kt vt l => exact h
end

variable {N : Nat} {Hd S0 : Nat → Prop} {w0 : World} {ρ : Emb} {S : Nat → Prop} {st : St} {a : Act} {sv : List Value} {w : World}

/-- a new block -/
theorem Sim.alloc (h : Sim N Hd S0 w0 ρ S st a sv w) (slot : Nat) (hs : nthB st.heap slot = none) (H' : Heap) (blk : Blk) (hb : nthB H' slot = some blk) (hH : ∀ i, i ≠ slot → nthB H' i = nthB st.heap i) (o : Obj)
    (hblk : BlkRel (fun i => if i = slot then some (w.heap.size, 0) else ρ i) S (w.alloc o) H' slot (some blk)) :
    Sim N Hd S0 w0 (fun i => if i = slot then some (w.heap.size, 0) else ρ i) S { st with heap := H' } a sv (w.alloc o) ∧
    Carry (fun _ => True) ρ S w st.heap (fun i => if i = slot then some (w.heap.size, 0) else ρ i) S (w.alloc o) H' := by
  have hne : ∀ i, nthB st.heap i ≠ none → i ≠ slot := fun i hi e => hi (e ▸ hs)
  have hold : ∀ b, b < w.heap.size → (w.alloc o).heap[b]? = w.heap[b]? := fun b hb => by
    simp only [World.alloc, Array.getElem?_push]; rw [if_neg (by omega)]
  have k : Carry (fun _ => True) ρ S w st.heap (fun i => if i = slot then some (w.heap.size, 0) else ρ i) S (w.alloc o) H' := {
    emb := fun i _ hi => by simp [hne i hi]
    off := fun i _ hi => by unfold offB; rw [hH i (hne i hi)]
    row := fun i _ hi => by unfold rowInfo; rw [hH i (hne i hi)]
    map := fun i _ hi => by unfold mapInfo; rw [hH i (hne i hi)]
    stay := fun _ h => h
    same := fun b hb => hold b (h.stay b hb)
    size := fun i b base c e fz _ hr hc => ⟨c, e, fz, by rw [hold b (h.own i b base hr).1]; exact hc, rfl⟩ }
  refine ⟨?_, k⟩
  exact {
    tm := h.tm.mono fun v x hv => hv.carry k v.on_true
    sv := h.sv.mono fun v x hv => hv.carry k v.on_true
    bl := fun id => by
      by_cases e : id = slot
      · subst e; show BlkRel _ _ _ H' id (nthB H' id); rw [hb]; exact hblk
      · show BlkRel _ _ _ H' id (nthB H' id)
        rw [hH id e]
        exact BlkRel.carry k rfl (fun hn => by have := h.bl id; rw [hn] at this; simp [e]; exact this) trivial (fun b base hr => hold b (h.own id b base hr).1) (fun _ _ _ hs => hs) (fun v f _ => v.on_true) (h.bl id)
    inj := fun i j b x y hi hj => by
      by_cases ei : i = slot <;> by_cases ej : j = slot <;> simp only [ei, ej, if_true, if_false] at hi hj ⊢
      · obtain ⟨rfl, _⟩ : w.heap.size = b ∧ 0 = x := by simpa using hi
        have := (h.own j _ y hj).1; omega
      · obtain ⟨rfl, _⟩ : w.heap.size = b ∧ 0 = y := by simpa using hj
        have := (h.own i _ x hi).1; omega
      · exact h.inj i j b x y hi hj
    own := fun i b x hi => by
      have hb := h.base
      by_cases ei : i = slot
      · simp only [ei, if_true] at hi
        obtain ⟨rfl, _⟩ : w.heap.size = b ∧ 0 = x := by simpa using hi
        exact ⟨by simp, .inl hb⟩
      · simp only [ei, if_false] at hi
        exact ⟨by have := (h.own i b x hi).1; simp; omega, (h.own i b x hi).2⟩
    stay := fun b hb => by have := h.stay b hb; simp; omega
    lim := h.lim
    grew := h.grew
    keep := fun b h1 h2 => by rw [hold b (by have := h.base; omega)]; exact h.keep b h1 h2
    base := by have := h.base; simp; omega
    dfr := h.dfr
    eff := h.eff }

theorem setCells_eff (b : Nat) : ∀ (o : Nat) (vs : List Value) (w : World), (w.setCells b o vs).os = w.os ∧ (w.setCells b o vs).output = w.output ∧ (w.setCells b o vs).tape = w.tape := by
  intro o vs
  induction vs generalizing o with
  | nil => intro w; exact ⟨rfl, rfl, rfl⟩
  | cons v vs ih => intro w; rw [World.setCells]; exact ih _ _

/-- a block of its own is written -/
theorem Sim.write (h : Sim N Hd S0 w0 ρ S st a sv w) (id b base : Nat) (hρ : ρ id = some (b, base)) (hSb : ¬ S b) (w' : World) (hw : ∀ x, x ≠ b → w'.heap[x]? = w.heap[x]?) (hz : w'.heap.size = w.heap.size)
    (hc : ∀ c e fz, w.heap[b]? = some (.cells c e fz) → ∃ c' e' fz', w'.heap[b]? = some (.cells c' e' fz') ∧ c'.size = c.size)
    (H' : Heap) (hH : ∀ i, i ≠ id → nthB H' i = nthB st.heap i) (hn : nthB st.heap id ≠ none) (ho : offB H' id = offB st.heap id) (hr : rowInfo H' id = rowInfo st.heap id) (hm : mapInfo H' id = mapInfo st.heap id)
    (hblk : Carry (fun _ => True) ρ S w st.heap ρ S w' H' → BlkRel ρ S w' H' id (nthB H' id)) (he : w'.os = w.os ∧ w'.output = w.output ∧ w'.tape = w.tape := by first | exact ⟨rfl, rfl, rfl⟩ | exact setCells_eff _ _ _ _ | simp [World.freeze]) :
    Sim N Hd S0 w0 ρ S { st with heap := H' } a sv w' ∧ Carry (fun _ => True) ρ S w st.heap ρ S w' H' := by
  have hSame : ∀ x, S x → w'.heap[x]? = w.heap[x]? := fun x hx => hw x (fun e => hSb (e ▸ hx))
  have k : Carry (fun _ => True) ρ S w st.heap ρ S w' H' := {
    emb := fun _ _ _ => rfl
    off := fun i _ _ => by by_cases e : i = id; exact e ▸ ho; unfold offB; rw [hH i e]
    row := fun i _ _ => by by_cases e : i = id; exact e ▸ hr; unfold rowInfo; rw [hH i e]
    map := fun i _ _ => by by_cases e : i = id; exact e ▸ hm; unfold mapInfo; rw [hH i e]
    stay := fun _ h => h
    same := hSame
    size := fun i x y c e fz _ hρi hcx => by
      by_cases ex : x = b
      · subst ex; exact hc c e fz hcx
      · exact ⟨c, e, fz, (hw x ex).trans hcx, rfl⟩ }
  refine ⟨?_, k⟩
  exact {
    tm := h.tm.mono fun v x hv => hv.carry k v.on_true
    sv := h.sv.mono fun v x hv => hv.carry k v.on_true
    bl := fun i => by
      show BlkRel _ _ _ H' i (nthB H' i)
      by_cases e : i = id
      · subst e; exact hblk k
      · rw [hH i e]
        exact BlkRel.carry k rfl (fun hn => by have := h.bl i; rw [hn] at this; exact this) trivial (fun x y hxy => hw x (fun eb => e (h.inj i id b y base (eb ▸ hxy) hρ))) (fun _ _ _ hs => hs) (fun v f _ => v.on_true) (h.bl i)
    inj := h.inj
    own := fun i x y hi => by rw [hz]; exact h.own i x y hi
    stay := fun x hx => by rw [hz]; exact h.stay x hx
    lim := h.lim
    grew := h.grew
    keep := fun x h1 h2 => by
      rw [hw x (fun e => by rcases (h.own id b base hρ).2 with h3 | h3; omega; exact h2 (e ▸ h3))]
      exact h.keep x h1 h2
    base := by rw [hz]; exact h.base
    dfr := h.dfr
    eff := ⟨he.1.trans h.eff.1, he.2.1.trans h.eff.2.1, he.2.2.trans h.eff.2.2⟩ }

/-- a row, or a variable, is made read-only -/
theorem Sim.freeze1 (h : Sim N Hd S0 w0 ρ S st a sv w) (id : Nat) : ∃ S', Sim N Hd S0 w0 ρ S' { st with heap := freeze1 st.heap id } a sv w ∧ Carry (fun _ => True) ρ S w st.heap ρ S' w (freeze1 st.heap id) ∧
    (∀ t, (∃ l f r, nthB st.heap id = some (.row t l f r)) → ∀ b base, ρ id = some (b, base) → S' b) ∧ (∀ v f, nthB st.heap id = some (.var v f) → ∀ b base, ρ id = some (b, base) → S' b) ∧
    (∀ x, S' x → S x ∨ ∃ base, ρ id = some (x, base)) := by
  have key : ∀ (q q' : Blk), nthB st.heap id = some q → Go.Am.freeze1 st.heap id = setR st.heap id (some q') → (∀ H', nthB H' id = some q' → offB H' id = offB st.heap id ∧ rowInfo H' id = rowInfo st.heap id ∧ mapInfo H' id = mapInfo st.heap id) →
      (∀ S' H', (∀ x, S x → S' x) → (∀ b base, ρ id = some (b, base) → S' b) → Carry (fun _ => True) ρ S w st.heap ρ S' w H' → BlkRel ρ S w st.heap id (some q) → BlkRel ρ S' w H' id (some q')) →
      ∃ S', Sim N Hd S0 w0 ρ S' { st with heap := Go.Am.freeze1 st.heap id } a sv w ∧ Carry (fun _ => True) ρ S w st.heap ρ S' w (Go.Am.freeze1 st.heap id) ∧ (∀ b base, ρ id = some (b, base) → S' b) ∧ (∀ x, S' x → S x ∨ ∃ base, ρ id = some (x, base)) := by
    intro q q' hq hf hsh hbl
    rw [hf]
    have hnew : nthB (setR st.heap id (some q')) id = some q' := nthB_set_same hq
    have hoth : ∀ i, i ≠ id → nthB (setR st.heap id (some q')) i = nthB st.heap i := fun i hi => nthB_set_ne hi
    obtain ⟨s1, s2, s3⟩ := hsh _ hnew
    have k : Carry (fun _ => True) ρ S w st.heap ρ (fun x => S x ∨ ∃ base, ρ id = some (x, base)) w (setR st.heap id (some q')) := {
      emb := fun _ _ _ => rfl
      off := fun i _ _ => by by_cases e : i = id; exact e ▸ s1; unfold offB; rw [hoth i e]
      row := fun i _ _ => by by_cases e : i = id; exact e ▸ s2; unfold rowInfo; rw [hoth i e]
      map := fun i _ _ => by by_cases e : i = id; exact e ▸ s3; unfold mapInfo; rw [hoth i e]
      stay := fun _ h => .inl h
      same := fun _ _ => rfl
      size := fun i x y c e fz _ _ hcx => ⟨c, e, fz, hcx, rfl⟩ }
    refine ⟨fun x => S x ∨ ∃ base, ρ id = some (x, base), ?_, k, fun b base hb => .inr ⟨base, hb⟩, fun x hx => hx⟩
    exact {
      tm := h.tm.mono fun v x hv => hv.carry k v.on_true
      sv := h.sv.mono fun v x hv => hv.carry k v.on_true
      bl := fun i => by
        show BlkRel _ _ _ _ i (nthB (setR st.heap id (some q')) i)
        by_cases e : i = id
        · subst e; rw [hnew]; exact hbl _ _ (fun _ h => .inl h) (fun b base hb => .inr ⟨base, hb⟩) k (hq ▸ h.bl i)
        · rw [hoth i e]
          refine BlkRel.carry k rfl (fun hn => by have := h.bl i; rw [hn] at this; exact this) trivial (fun _ _ _ => rfl) (fun b base hb hs => ?_) (fun v f _ => v.on_true) (h.bl i)
          rcases hs with hs | ⟨y, hy⟩
          · exact hs
          · exact absurd (h.inj i id b base y hb hy) e
      inj := h.inj
      own := h.own
      stay := fun x hx => by
        rcases hx with hx | ⟨y, hy⟩
        · exact h.stay x hx
        · exact (h.own id x y hy).1
      lim := fun x hx => by
        rcases hx with hx | ⟨y, hy⟩
        · exact h.lim x hx
        · exact .inr (h.own id x y hy).2
      grew := fun x hx => .inl (h.grew x hx)
      keep := h.keep
      base := h.base
      dfr := h.dfr
      eff := h.eff }
  cases hq : nthB st.heap id with
  | none =>
    have hf : Go.Am.freeze1 st.heap id = st.heap := by unfold Go.Am.freeze1; rw [hq]
    refine ⟨S, by rw [hf]; exact h, ?_, fun t ⟨l, f, r, e⟩ => by simp at e, fun v f e => by simp at e, fun x hx => .inl hx⟩
    rw [hf]
    exact ⟨fun _ _ _ => rfl, fun _ _ _ => rfl, fun _ _ _ => rfl, fun _ _ _ => rfl, fun _ h => h, fun _ _ => rfl, fun i x y c e fz _ _ hcx => ⟨c, e, fz, hcx, rfl⟩⟩
  | some q =>
    cases q with
    | row t l f r =>
      obtain ⟨S', h1, h2, h3, h4⟩ := key _ (.row t l true r) hq (by unfold Go.Am.freeze1; rw [hq])
        (fun H' e => by unfold offB rowInfo mapInfo; rw [e, hq]; exact ⟨rfl, rfl, rfl⟩)
        (fun S' H' hS hb k hbl => by
          rcases hbl with ⟨b, base, cs, g1, g2, g3, _, _⟩ | ⟨g1, g2⟩
          · exact .inl ⟨b, base, cs, g1, g2.mono fun _ _ h => LV.mono k.stay k.same t h, g3, (by simp), fun _ => hb b base g1⟩
          · exact .inr ⟨g1, g2⟩)
      exact ⟨S', h1, h2, fun _ _ => h3, fun _ _ e => by simp at e, h4⟩
    | var v f =>
      obtain ⟨S', h1, h2, h3, h4⟩ := key _ (.var v true) hq (by unfold Go.Am.freeze1; rw [hq])
        (fun H' e => by unfold offB rowInfo mapInfo; rw [e, hq]; exact ⟨rfl, rfl, rfl⟩)
        (fun S' H' hS hb k hbl => by
          obtain ⟨b, base, cs, g1, g2, g3, g4, _, _⟩ := hbl
          exact ⟨b, base, cs, g1, g2.carry k v v.on_true, g3, g4, (by simp), fun _ => hb b base g1⟩)
      exact ⟨S', h1, h2, fun _ ⟨_, _, _, e⟩ => by simp at e, fun _ _ _ => h3, h4⟩
    | mp kt vt l =>
      have hf : Go.Am.freeze1 st.heap id = st.heap := by unfold Go.Am.freeze1; rw [hq]
      refine ⟨S, by rw [hf]; exact h, ?_, fun t ⟨l, f, r, e⟩ => by simp at e, fun v f e => by simp at e, fun x hx => .inl hx⟩
      rw [hf]
      exact ⟨fun _ _ _ => rfl, fun _ _ _ => rfl, fun _ _ _ => rfl, fun _ _ _ => rfl, fun _ h => h, fun _ _ => rfl, fun i x y c e fz _ _ hcx => ⟨c, e, fz, hcx, rfl⟩⟩
    | iter kt vt l => exact (hq ▸ h.bl id).elim

end Go.Am
