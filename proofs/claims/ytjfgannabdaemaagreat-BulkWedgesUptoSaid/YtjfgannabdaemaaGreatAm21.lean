/-
  AM, twenty-second text: append.
-/
import Derived.Test.YtjfgannabdaemaaGreatAm20
set_option linter.all false
namespace Go.Am
set_option linter.unusedSimpArgs false

variable {R : Type} {P : Program} {N : Nat} {Hd S0 : Nat → Prop} {w0 : World} {ρ : Emb} {S S' : Nat → Prop} {st : St} {a : Act} {sv : List Value} {w : World} {H : Heap}

theorem LV.flat {w' : World} : ∀ (t : Ty) {x : t.den} {cs : List Value}, t.flat = true → LV S w t x cs → LV S' w' t x cs := by
  intro t
  induction t with
  | pair p q ihp ihq =>
    rintro x cs hf ⟨c, d, rfl, h1, h2⟩
    simp only [Ty.flat, Bool.and_eq_true] at hf
    exact ⟨c, d, rfl, ihp hf.1 h1, ihq hf.2 h2⟩
  | arr n t ih => rintro x cs hf ⟨h1, h2⟩; exact ⟨h1, h2.mono fun _ _ h => ih hf h⟩
  | sl t _ => intro x cs hf; simp [Ty.flat] at hf
  | fr t _ => intro x cs hf; simp [Ty.flat] at hf
  | _ => intro x cs _ h; exact h

theorem Has.cellAdd {b o : Nat} {cs : List Value} (h : Has w b o cs) : ∀ j u, cs[j]? = some u → w.cell? ((⟨b, o, none⟩ : Addr).add j) = some u := by
  obtain ⟨c, e, fz, h1, h2, h3⟩ := h
  intro j v hj
  rw [Addr.add_none, cell?_of h1]
  exact h3 j v hj

theorem firstCells_zero (size : Nat) (q : Option Addr) (cap : Nat) : (Builtin.firstCells size 0 (.slice q 0 cap)).run P w = .ok #[] w := by
  cases q with
  | none => exact run_firstCells_none w size 0 0 cap
  | some q => exact run_firstCells_some w size 0 q 0 cap [] (by simp) (fun j v h => by simp at h)

/-- the elements behind a slice that is read deep -/
theorem src_slice {tx e' : TypeId} {T : Ty} {xs : List T.den} {x : Value} (hu : P.underlying tx = some (.slice e')) (h : LVv S w (.sl T) xs x) :
    ∃ news, Src P T.size tx x xs.length news w ∧ Many (LV S w T) xs news ∧ ∀ m, m ≤ xs.length → (Builtin.firstCells T.size m x).run P w = .ok (news.take (m * T.size)).toArray w := by
  obtain ⟨q, cap, h1, h2, h3⟩ := (show LV S w (.sl T) xs [x] from h)
  have hv : x = .slice q (List.length xs) cap := by simpa using h1
  subst hv
  rcases h3 with h3 | ⟨b, o, cs, rfl, hS, hm, hh⟩
  · have h3 : xs = [] := h3
    subst h3
    refine ⟨[], ?_, rfl, fun m hm => by
      obtain rfl : m = 0 := by simpa using hm
      exact (firstCells_zero _ _ _).trans (by simp)⟩
    cases q with
    | none => exact Src.ofNil w hu cap
    | some q => exact Src.ofSlice w hu q 0 cap [] (by simp) (fun j u h => by simp at h) (fun u h => by simp at h)
  · have hl := Many.length LV.len hm
    exact ⟨cs, Src.ofSlice w hu _ _ cap cs hl hh.cellAdd (fun u hu => by
      have : ∀ (l : List T.den) (c : List Value), Many (LV S w T) l c → ∀ u ∈ c, u.oneCell' = true := by
        intro l
        induction l with
        | nil => intro c h u hu; obtain rfl : c = [] := h; simp at hu
        | cons y l ih =>
          rintro c ⟨c1, c2, rfl, g1, g2⟩ u hu
          rcases List.mem_append.1 hu with hu | hu
          · exact LV.leaf T g1 u hu
          · exact ih _ g2 u hu
      exact this _ _ hm u hu), hm, fun m hml => run_firstCells_some w T.size m _ _ cap _ (by have := Nat.mul_le_mul_right T.size hml; simp; omega) fun j v hj => hh.cellAdd j v (by rw [List.getElem?_take] at hj; split at hj <;> first | exact hj | cases hj)⟩

theorem src_string {tx : TypeId} {l : List Int} (hu : P.underlying tx = some .string) (hb : ∀ n ∈ l, byteB n) :
    ∃ news, Src P 1 tx (.string (strVal l)) l.length news w ∧ Many (LV S w (.int .u8)) l news := by
  have := Src.ofString (P := P) w hu (strVal l)
  rw [strVal_size] at this
  have e : byteCells (strVal l) = l.map (Value.int .u8) := by
    unfold byteCells strVal
    simp only [List.map_map]
    apply List.map_congr_left
    intro n hn
    obtain ⟨g1, g2⟩ := hb n hn
    simp
    omega
  rw [e] at this
  exact ⟨_, this, ints_many hb⟩

theorem zero_size {e : TypeId} {T : Ty} (hz : zeroOK P e (inj0 T) = true) : ∃ i z, P.info? e = some i ∧ i.zero = some z ∧ z.cells.size = T.size := by
  obtain ⟨i, z, hi, hzv⟩ := zeroOK_info hz
  obtain ⟨_, _, z', h1, h2⟩ := zeroOK_spec (ρ := fun _ => none) (S := fun _ => True) (w := default) (H := []) (inj0_zeroish T) hz
  have : z' = z := by
    have : (zeroValue e).run P (default : World) = .ok z default := by simp [zeroValue, typeInfo, hi, hzv]
    rw [this] at h1
    injection h1 with h1 _
    exact h1.symm
  subst this
  have := LV.length T (Rel.inj0 T h2)
  exact ⟨i, z', hi, hzv, by simpa using this⟩

/-- what an append comes to -/
def AppOK (P : Program) (N : Nat) (Hd S0 : Nat → Prop) (w0 : World) (sv : List Value) (a : Act) (t tx ty : TypeId) (s x : Value) (w : World) (K : AV → St → Option R) (r : R) : Prop :=
  ∃ v st' ρ' S' cv w', K v st' = some r ∧ (Builtin.append_ #[t, tx] ty #[s, x]).run P w = .ok cv w' ∧ Sim N Hd S0 w0 ρ' S' st' a sv w' ∧ VR ρ' S' w' st'.heap v cv

/-- there is none: a new row -/
theorem append_new {t tx ty : TypeId} {T : Ty} {x : Value} {xs : List T.den} {news olds : List Value} {q : Option Addr} {len cap : Nat} (hT : elemTy P t = some T) (hsrc : Src P T.size tx x xs.length news w)
    (hold : (Builtin.firstCells T.size len (.slice q len cap)).run P w.drew = .ok olds.toArray w.drew) (holds : olds.length = len * T.size) (hg : cap < len + xs.length) (hlim : len + xs.length ≤ lim) :
    ∃ ncap more, (Builtin.append_ #[t, tx] ty #[.slice q len cap, x]).run P w = .ok (.slice (some ⟨w.heap.size, 0, none⟩) (len + xs.length) ncap) (w.drew.alloc (.cells ((olds ++ news) ++ more).toArray (P.elem t))) ∧
      len + xs.length ≤ ncap ∧ ncap * T.size ≤ (olds ++ news).length + more.length := by
  obtain ⟨e, hu, _, hc, hby, hp, hz⟩ := elemTy_spec hT
  obtain ⟨i, z, hi, hzv, hzs⟩ := zero_size hz
  have hsz : i.size = T.size := by rw [← hc]; simp [Program.cellsOf, hi]
  have hbi : i.bytes ≤ 4096 := by simpa [Program.bytesOf, hi] using hby
  have hl : len + xs.length ≤ 4294967296 := hlim
  have hbytes : (len + xs.length) * i.bytes ≤ 140737488355328 := by
    have := Nat.mul_le_mul hl hbi
    omega
  have he : P.elem t = e := by simp [Program.elem, hu]
  rw [← hsz] at hsrc hold
  have hr := run_append_grow_src (P := P) w t tx ty e i z hu hi hzv q len cap olds hold x xs.length news hsrc hg (by omega) (growslice_fits hg hbytes)
  have hge := grownCap_ge w (len + xs.length) cap e
  refine ⟨grownCap w (len + xs.length) cap e, (Builtin.zeroCells z.cells (grownCap w (len + xs.length) cap e - (len + xs.length))).toList, ?_, hge, ?_⟩
  · rw [hr, he]
    congr 3
    apply Array.ext'
    simp
  · have h1 := size_zeroCells z.cells (grownCap w (len + xs.length) cap e - (len + xs.length))
    have h2 := hsrc.newsLen
    have h3 : (Builtin.zeroCells z.cells (grownCap w (len + xs.length) cap e - (len + xs.length))).toList.length = (grownCap w (len + xs.length) cap e - (len + xs.length)) * T.size := by rw [Array.length_toList, h1, hzs]
    rw [List.length_append, holds, h2, h3, hsz, ← Nat.add_mul, ← Nat.add_mul]
    exact Nat.mul_le_mul_right _ (by omega)

/-- .. as the state has it: laid anew -/
theorem grow_new {t tx ty : TypeId} {T : Ty} {x : Value} {xs olds : List T.den} {news os : List Value} {q : Option Addr} {id len cap : Nat} {H' : Heap} {K : AV → St → Option R} {r : R} (hs : Sim N Hd S0 w0 ρ S st a sv w) (hT : elemTy P t = some T) (hsrc : Src P T.size tx x xs.length news w) (hnm : Many (LV S w T) xs news)
    (hold : (Builtin.firstCells T.size len (.slice q len cap)).run P w.drew = .ok os.toArray w.drew) (hom : Many (LV S w T) olds os) (hol : olds.length = len) (hg : cap < len + xs.length) (hlim : len + xs.length ≤ lim)
    (hid : nthB H' id = some (.row T (olds ++ xs) false true)) (hH : ∀ i, i ≠ id → nthB H' i = killBlk id (nthB st.heap i))
    (hk : K (.lsl id 0 (len + xs.length) true) { tmps := st.tmps.map (AV.kill id), saved := st.saved.map (AV.kill id), heap := H' } = some r) :
    AppOK P N Hd S0 w0 sv a t tx ty (.slice q len cap) x w K r := by
  have hos := Many.length LV.len hom
  obtain ⟨ncap, more, g1, g2, g3⟩ := append_new (ty := ty) (news := news) hT hsrc hold (by rw [hos, hol]) hg hlim
  have hw : ∀ b, b < w.heap.size → (w.drew.alloc (.cells ((os ++ news) ++ more).toArray (P.elem t))).heap[b]? = w.heap[b]? := fun b hb => by
    show (w.heap.push _)[b]? = _
    rw [Array.getElem?_push, if_neg (by omega)]
  have hnew : (w.drew.alloc (.cells ((os ++ news) ++ more).toArray (P.elem t))).heap[w.heap.size]? = some (.cells ((os ++ news) ++ more).toArray (P.elem t)) := by
    show (w.heap.push _)[w.heap.size]? = _
    rw [Array.getElem?_push, if_pos rfl]
  have hsz : (w.drew.alloc (.cells ((os ++ news) ++ more).toArray (P.elem t))).heap.size = w.heap.size + 1 := by
    show (w.heap.push _).size = _
    simp
  have hmono : ∀ {l : List T.den} {c : List Value}, Many (LV S w T) l c → Many (LV S (w.drew.alloc (.cells ((os ++ news) ++ more).toArray (P.elem t))) T) l c := fun h =>
    h.mono fun _ _ h => LV.mono (fun _ h => h) (fun b hb => hw b (hs.stay b hb)) T h
  have hsim := hs.renew id w.heap.size 0 (w.drew.alloc (.cells ((os ++ news) ++ more).toArray (P.elem t))) H' (fun h => by cases h' : ρ id with | none => exact absurd h' h | some q => exact ⟨q.1, q.2, rfl⟩) (.inr (Nat.le_refl _)) (fun h => by have := hs.stay _ h; omega) (by omega) (by omega)
    (fun b _ hb => hw b hb) (.inl hs.base) hid hH ((hmono hom).append (hmono hnm)) ⟨_, _, 0, 0, hnew, by simp, fun j v hj => by
      have : j < (os ++ news).length := (List.getElem?_eq_some_iff.1 hj).1
      simp only [Nat.zero_add, List.getElem?_toArray]
      rw [List.getElem?_append_left this]
      exact hj, .inl rfl⟩
  refine ⟨_, _, _, S, _, _, hk, g1, hsim, VR.of_rel rfl ⟨_, ncap, rfl, T, (olds ++ xs).length, true, by unfold rowInfo; rw [hid], by simp [hol], fun _ => by simp [hol], .inl ⟨w.heap.size, 0, _, _, _, by simp, fun _ => by simp, fun _ => rfl, hnew, ?_, by simp [hol]; omega⟩⟩⟩
  simp only [Nat.zero_mul, Nat.zero_add, List.size_toArray, List.length_append] at g3 ⊢
  omega

/-- there is room: the model's answer, and what the row holds behind it -/
theorem append_room {t tx ty : TypeId} {T : Ty} {x : Value} {n : Nat} {news os : List Value} {b base off len cap : Nat} {c : Array Value} {ee : TypeId} {lo hi : Nat} (hT : elemTy P t = some T) (hsrc : Src P T.size tx x n news w)
    (hb : w.heap[b]? = some (.cells c ee (lo, hi))) (hfz : lo = hi ∨ c.size ≤ lo) (hsz : base + off * T.size + cap * T.size ≤ c.size) (hroom : len + n ≤ cap)
    (hos : os.length = len * T.size) (hc : ∀ j v, os[j]? = some v → c[base + off * T.size + j]? = some v) :
    (Builtin.append_ #[t, tx] ty #[.slice (some ⟨b, base + off * T.size, none⟩) len cap, x]).run P w = .ok (.slice (some ⟨b, base + off * T.size, none⟩) (len + n) cap) (w.setCells b (base + off * T.size + len * T.size) news) ∧
      ∃ c', (w.setCells b (base + off * T.size + len * T.size) news).heap[b]? = some (.cells c' ee (lo, hi)) ∧ c'.size = c.size ∧ c'.toList = Am.over c.toList (base + off * T.size + len * T.size) news ∧
        (∀ j v, (os ++ news)[j]? = some v → c'[base + off * T.size + j]? = some v) := by
  obtain ⟨e, hu, _, hce, hby, hp, hz⟩ := elemTy_spec hT
  obtain ⟨i, z, hi', hzv, hzs⟩ := zero_size hz
  have hisz : i.size = T.size := by rw [← hce]; simp [Program.cellsOf, hi']
  have hnl : news.length = n * T.size := hsrc.newsLen
  have hle : len * T.size + n * T.size ≤ cap * T.size := by rw [← Nat.add_mul]; exact Nat.mul_le_mul_right _ hroom
  rw [← hisz] at hsrc
  have hrun := run_append_room_src (P := P) w t tx ty e i hu hi' b (base + off * T.size) len cap x n news hsrc hroom (fun j hj => by
    rw [cell?_of hb, hisz]
    rw [Array.getElem?_eq_getElem (by omega)]
    rfl) (fun j hj => frozen?_of hb hfz (by rw [hisz]; omega))
  rw [hisz] at hrun
  obtain ⟨c', k1, k2⟩ := setCells_same news (base + off * T.size + len * T.size) w c hb (by omega)
  have hsz' : c'.size = c.size := by
    have := congrArg List.length k2
    rw [over_length (by simp; omega)] at this
    simpa using this
  refine ⟨hrun, c', k1, hsz', k2, fun j v hj => ?_⟩
  have hcj : c'[base + off * T.size + j]? = (Am.over c.toList (base + off * T.size + len * T.size) news)[base + off * T.size + j]? := by rw [← k2]; simp
  rw [hcj, over_get (by simp; omega)]
  rw [List.getElem?_append] at hj
  split at hj
  · rename_i h
    rw [if_neg (by omega)]
    simpa using hc j v hj
  · rename_i h
    have := (List.getElem?_eq_some_iff.1 hj).1
    rw [if_pos (by omega), ← hj]
    congr 1
    omega

/-- .. where what spoke of the row is dead -/
theorem grow_room {t tx ty : TypeId} {T : Ty} {x : Value} {xs olds : List T.den} {news os : List Value} {id len cap b base off : Nat} {H' : Heap} {K : AV → St → Option R} {r : R} {rr : Bool} {c : Array Value} {ee : TypeId} {lo hi : Nat} (hs : Sim N Hd S0 w0 ρ S st a sv w) (hT : elemTy P t = some T) (hsrc : Src P T.size tx x xs.length news w) (hnm : Many (LV S w T) xs news)
    (hρ : ρ id = some (b, base)) (hS : ¬ S b) (hb : w.heap[b]? = some (.cells c ee (lo, hi))) (hfz : lo = hi ∨ c.size ≤ lo) (hsz : base + off * T.size + cap * T.size ≤ c.size)
    (hom : Many (LV S w T) olds os) (hol : olds.length = len) (hroom : len + xs.length ≤ cap) (hc : ∀ j v, os[j]? = some v → c[base + off * T.size + j]? = some v)
    (hid : nthB H' id = some (.row T (olds ++ xs) false rr)) (hH : ∀ i, i ≠ id → nthB H' i = killBlk id (nthB st.heap i))
    (hk : K (.lsl id 0 (len + xs.length) true) { tmps := st.tmps.map (AV.kill id), saved := st.saved.map (AV.kill id), heap := H' } = some r) :
    AppOK P N Hd S0 w0 sv a t tx ty (.slice (some ⟨b, base + off * T.size, none⟩) len cap) x w K r := by
  have hos := Many.length LV.len hom
  have hnl : news.length = xs.length * T.size := hsrc.newsLen
  obtain ⟨g1, c', g2, g3, _, g4⟩ := append_room (ty := ty) (news := news) hT hsrc hb hfz hsz hroom (by rw [hos, hol]) hc
  have hle : len * T.size + xs.length * T.size ≤ cap * T.size := by rw [← Nat.add_mul]; exact Nat.mul_le_mul_right _ hroom
  have hw : ∀ y, S y → (w.setCells b (base + off * T.size + len * T.size) news).heap[y]? = w.heap[y]? := fun y hy => setCells_heap (fun e => by subst e; exact hS hy) _ _ _
  have hmono : ∀ {l : List T.den} {c : List Value}, Many (LV S w T) l c → Many (LV S (w.setCells b (base + off * T.size + len * T.size) news) T) l c := fun h =>
    h.mono fun _ _ h => LV.mono (fun _ h => h) hw T h
  have hoo := hs.own id b base hρ
  have hsim := hs.renew id b (base + off * T.size) (w.setCells b (base + off * T.size + len * T.size) news) H' (fun h => by cases h' : ρ id with | none => exact absurd h' h | some q => exact ⟨q.1, q.2, rfl⟩) (.inl ⟨base, hρ⟩) hS (by rw [setCells_size]; exact hoo.1) (by rw [setCells_size]; omega)
    (fun y hy _ => setCells_heap hy _ _ _) hoo.2 hid hH ((hmono hom).append (hmono hnm)) ⟨_, _, lo, hi, g2, by rw [List.length_append, hos, hnl, hol]; omega, g4, by omega⟩
  refine ⟨_, _, _, S, _, _, hk, g1, hsim, VR.of_rel rfl ⟨_, cap, rfl, T, (olds ++ xs).length, rr, by unfold rowInfo; rw [hid], by simp [hol], fun _ => by simp [hol], .inl ⟨b, base + off * T.size, _, _, _, by simp, fun _ => by simp, fun _ => rfl, g2, by omega, by simp [hol]; omega⟩⟩⟩

theorem append_nothing {t tx ty : TypeId} {T : Ty} {x : Value} {n : Nat} {news : List Value} {q : Option Addr} {len cap : Nat} (hT : elemTy P t = some T) (hsrc : Src P T.size tx x n news w) (hn : n = 0) (hle : len ≤ cap) :
    (Builtin.append_ #[t, tx] ty #[.slice q len cap, x]).run P w = .ok (.slice q len cap) w := by
  subst hn
  obtain ⟨e, hu, _, hce, hby, hp, hz⟩ := elemTy_spec hT
  obtain ⟨i, z, hi', hzv, hzs⟩ := zero_size hz
  have hisz : i.size = T.size := by rw [← hce]; simp [Program.cellsOf, hi']
  have hnl : news = [] := by have := hsrc.newsLen; simpa using this
  subst hnl
  have hcells := hsrc.cells
  rw [← hisz] at hcells
  rcases hsrc.kind with ⟨e', hk⟩ | hk <;> cases q <;> simp [Builtin.append_, run_underlying hu, run_underlying hk, sizeOf, typeInfo, hi', hsrc.len, hle, hcells, storeCells]

/-- what spoke of a row is dead; nothing else -/
theorem Sim.kill (h : Sim N Hd S0 w0 ρ S st a sv w) (id : Nat) (H' : Heap) (hH : ∀ i, i ≠ id → nthB H' i = killBlk id (nthB st.heap i)) (hid : BlkRel ρ S w H' id (nthB H' id)) :
    Sim N Hd S0 w0 ρ S { tmps := st.tmps.map (AV.kill id), saved := st.saved.map (AV.kill id), heap := H' } a sv w := by
  have k : Carry (· ≠ id) ρ S w st.heap ρ S w H' := {
    emb := fun i hi _ => rfl
    off := fun i hi hn => by
      funext p
      unfold offB
      rw [hH i hi]
      cases hq : nthB st.heap i with
      | none => rfl
      | some q => cases q <;> simp only [killBlk] <;> first | rfl | exact offA_kill id p _
    row := fun i hi hn => by
      unfold rowInfo
      rw [hH i hi]
      cases hq : nthB st.heap i with
      | none => rfl
      | some q => cases q <;> rfl
    map := fun i hi hn => by
      unfold mapInfo
      rw [hH i hi]
      cases hq : nthB st.heap i with
      | none => rfl
      | some q => cases q <;> rfl
    stay := fun _ h => h
    same := fun x hx => rfl
    size := fun i x y c e fz hi hx hc => ⟨c, e, fz, hc, rfl⟩ }
  exact {
    tm := by
      show All2 _ (st.tmps.map (AV.kill id)) _
      rw [All2.map_left]
      exact h.tm.mono fun v x hv => (hv.kill id).carry k (v.on_kill id)
    sv := by
      show All2 _ (st.saved.map (AV.kill id)) _
      rw [All2.map_left]
      exact h.sv.mono fun v x hv => (hv.kill id).carry k (v.on_kill id)
    bl := fun i => by
      show BlkRel _ _ _ H' i (nthB H' i)
      by_cases e : i = id
      · subst e; exact hid
      · rw [hH i e]
        have hbl := h.bl i
        cases hq : nthB st.heap i with
        | none => rw [hq] at hbl; exact hbl
        | some q =>
          rw [hq] at hbl
          cases q with
          | var v f =>
            obtain ⟨x, y, cs', g1, g2, g3, g4, g5, g6⟩ := hbl
            exact ⟨x, y, cs', g1, Rel.carry k _ (v.on_kill id) (g2.kill id), okIn_kill id v g3, g4, g5, g6⟩
          | row T' l' f' r' => exact hbl
          | mp kt vt l' => exact hbl
          | iter => exact hbl.elim
    inj := h.inj
    own := h.own
    stay := h.stay
    lim := h.lim
    grew := h.grew
    keep := h.keep
    base := h.base
    dfr := h.dfr
    eff := h.eff }

theorem setR_self {H : Heap} {i : Nat} {b : Blk} (h : nthB H i = some b) : setR H i (some b) = H := by
  rw [setR_eq]
  rw [nthB_eq] at h
  apply List.ext_getElem?
  intro j
  rw [List.getElem?_set]
  split
  · rename_i e
    subst e
    simp only [List.getD] at h
    cases hq : H[i]? with
    | none => rw [hq] at h; simp at h
    | some q => rw [hq] at h; simp at h; subst h; simp [(List.getElem?_eq_some_iff.1 hq).1]
  · rfl

theorem grow_sound {t tx ty : TypeId} {T : Ty} {s : AV} {sx x : Value} {xs : List T.den} {news : List Value} {K : AV → St → Option R} {r : R} (hs : Sim N Hd S0 w0 ρ S st a sv w) (hT : elemTy P t = some T) (hv : VR ρ S w st.heap s sx) (hsrc : Src P T.size tx x xs.length news w) (hnm : Many (LV S w T) xs news)
    (hk : grow T s xs st K = some r) : AppOK P N Hd S0 w0 sv a t tx ty sx x w K r := by
  have hemp : ∀ (l : List T.den), l.isEmpty = true → l = [] := fun l h => by simpa using h
  unfold grow at hk
  split at hk
  · -- nil
    have hx := hv.nilsl_inv
    subst hx
    rcases br_cases hk with ⟨hc, hk⟩ | ⟨hc, hk⟩
    · have := hemp _ hc
      subst this
      exact ⟨_, _, ρ, S, _, w, hk, append_nothing hT hsrc rfl (Nat.le_refl _), hs, hv⟩
    · rcases br_cases hk with ⟨hl, hk⟩ | ⟨_, hk⟩
      · simp only [decide_eq_true_eq] at hl
        have hpos : 0 < xs.length := by cases xs with | nil => simp at hc | cons _ _ => simp
        obtain ⟨ncap, more, g1, g2, g3⟩ := append_new (ty := ty) (news := news) (q := none) (len := 0) (cap := 0) (olds := []) hT hsrc (firstCells_zero _ _ _) (by simp) (by omega) (by omega)
        have hs' := hs.world (w' := w.drew) rfl
        have hnone : nthB st.heap st.heap.length = none := by rw [nthB_eq]; simp
        obtain ⟨ρ', q1, q2, _⟩ := newRow_sound hs' hnone (push st.heap (.row T xs false true)) (by unfold push; rw [nthB_push, if_pos rfl]) (fun i hi => by unfold push; rw [nthB_push, if_neg hi]) (e := P.elem t) (hnm.mono fun _ _ h => LV.mono (S := S) (w := w) (S' := S) (w' := w.drew) (fun _ h => h) (fun _ _ => rfl) T h) xs.length ncap true (Nat.le_refl _) (fun _ => rfl)
          (by omega) more (by simpa using g3)
        refine ⟨_, _, ρ', S, _, _, hk, g1, by simpa using q1, by simpa using q2⟩
      · cases hk
  · rename_i id off len full
    obtain ⟨q, cap, hx, hin⟩ := hv.lsl_inv
    subst hx
    split at hk
    · rename_i T0 l0 real hb
      split at hk
      · rename_i l hcast
        obtain ⟨rfl, hl0⟩ := castL_eq hcast
        simp only at hl0
        subst hl0
        have hbl := hs.bl id
        rw [hb] at hbl
        have hlt := nthB_lt hb
        obtain ⟨T', nn, r', hri, hn1, hn2, hin⟩ := hin
        have hri' := hri
        unfold rowInfo at hri'
        rw [hb] at hri'
        simp only [Option.some.injEq, Prod.mk.injEq] at hri'
        obtain ⟨rfl, rfl, rfl⟩ := hri'
        have hkl : (st.heap.map (killBlk id)).length = st.heap.length := by simp
        have hset : ∀ blk, nthB (setR (st.heap.map (killBlk id)) id (some blk)) id = some blk := fun blk => by rw [nthB_set, if_pos ⟨rfl, by rw [hkl]; exact hlt⟩]
        have hoth : ∀ blk i, i ≠ id → nthB (setR (st.heap.map (killBlk id)) id (some blk)) i = killBlk id (nthB st.heap i) := fun blk i hi => by rw [nthB_set_ne hi, nthB_kill]
        -- laid anew, or written behind its end
        have anew : ∀ (rr : Bool), len + xs.length ≤ lim → (xs ≠ [] → rr = true) → (xs = [] → rr = real ∧ off + len = l0.length) →
            K (.lsl id 0 (len + xs.length) true) { tmps := st.tmps.map (AV.kill id), saved := st.saved.map (AV.kill id), heap := setR (st.heap.map (killBlk id)) id (some (.row T0 ((l0.drop off).take len ++ xs) false rr)) } = some r →
            AppOK P N Hd S0 w0 sv a t tx ty (.slice q len cap) x w K r := by
          intro rr hlim hr1 hr2 hk'
          have hol : ((l0.drop off).take len).length = len := by simp; omega
          rcases hin with ⟨b, base, c, ee, fz, i1, i2, i3, i4, i5, i6⟩ | ⟨i1, i2, i3, i4⟩
          · rcases hbl with ⟨b', base', cs, j1, j2, ⟨c', ee', lo, hi, j3, j4, j5, j6⟩, j7, _⟩ | ⟨j1, _⟩
            · rw [j1] at i1
              obtain ⟨rfl, rfl⟩ : b' = b ∧ base' = base := by simpa using i1
              rw [j3] at i4
              obtain ⟨rfl, rfl, rfl⟩ : c' = c ∧ ee' = ee ∧ (lo, hi) = fz := by injection i4 with h2; injection h2 with a1 a2 a3; exact ⟨a1, a2, a3⟩
              have hcl := Many.length LV.len j2
              have hle : off * T0.size + len * T0.size ≤ cs.length := by rw [hcl, ← Nat.add_mul]; exact Nat.mul_le_mul_right _ hn1
              have hom : Many (LV S w T0) ((l0.drop off).take len) ((cs.drop (off * T0.size)).take (len * T0.size)) := (j2.drop LV.len off).take LV.len len
              have hoc : ∀ j v, ((cs.drop (off * T0.size)).take (len * T0.size))[j]? = some v → c'[base' + off * T0.size + j]? = some v := by
                intro j v hj
                rw [List.getElem?_take] at hj
                split at hj
                · rw [List.getElem?_drop] at hj
                  have := j5 _ _ hj
                  rw [← this]
                  congr 1
                  omega
                · cases hj
              by_cases hroom : len + xs.length ≤ cap
              · by_cases hcap : 0 < cap
                · have hq := i2 hcap
                  subst hq
                  exact grow_room hs hT hsrc hnm j1 (j7 rfl) j3 j6 i5 hom hol hroom hoc (hset _) (hoth _) hk'
                · have hx0 : xs = [] := by
                    cases xs with
                    | nil => rfl
                    | cons _ _ => simp at hroom; omega
                  obtain ⟨h1, h2⟩ := hr2 hx0
                  subst hx0 h1
                  have hsim := hs.renew id b' (base' + off * T0.size) w (setR (st.heap.map (killBlk id)) id (some (.row T0 ((l0.drop off).take len ++ []) false rr))) (fun _ => ⟨b', base', j1⟩) (.inl ⟨base', j1⟩) (j7 rfl) (hs.own id b' base' j1).1 (Nat.le_refl _)
                    (fun _ _ _ => rfl) (hs.own id b' base' j1).2 (hset _) (hoth _) (by simpa using hom) ⟨c', ee', lo, hi, j3, by simp; omega, hoc, j6⟩
                  refine ⟨_, _, _, S, _, w, hk', append_nothing hT hsrc rfl (by simp at hroom; exact hroom), hsim, VR.of_rel rfl ⟨q, cap, by simp, T0, ((l0.drop off).take len ++ []).length, rr, by unfold rowInfo; rw [hset], by simp; omega, fun _ => by simp; omega, .inl ⟨b', base' + off * T0.size, c', ee', (lo, hi), by simp, fun h => absurd h hcap, fun h => ?_, j3, by omega, by simp; omega⟩⟩⟩
                  exact i3 (by
                    rcases h with h | h
                    · exact .inl h
                    · right; simp at h; omega)
              · refine grow_new (id := id) (q := q) hs hT hsrc hnm (os := (cs.drop (off * T0.size)).take (len * T0.size)) (olds := (l0.drop off).take len) ?_ hom hol (by omega) hlim ?_ (hoth _) hk'
                · by_cases h0 : len = 0
                  · subst h0
                    rw [firstCells_zero]
                    simp
                  · have hq := i2 (by omega)
                    subst hq
                    refine run_firstCells_some w.drew T0.size len _ len cap _ (by simp; omega) fun j v hj => ?_
                    rw [Addr.add_none]
                    exact (cell?_of (w := w) j3 _).trans (hoc j v hj)
                · rw [hset, hr1 (fun e => hroom (by
                    have : len ≤ cap := by omega
                    subst e; simpa using this))]
            · rw [i1] at j1; cases j1
          · have hl00 : l0 = [] := List.eq_nil_of_length_eq_zero i2
            have hoff : off = 0 ∧ len = 0 := by omega
            obtain ⟨rfl, rfl⟩ := hoff
            subst hl00 i3
            by_cases hx0 : xs = []
            · obtain ⟨h1, _⟩ := hr2 hx0
              subst hx0 h1 i4
              have hsim := hs.kill id (setR (st.heap.map (killBlk id)) id (some (.row T0 (([].drop 0).take 0 ++ []) false false))) (hoth _) (by rw [hset]; exact .inr ⟨i1, rfl, rfl⟩)
              exact ⟨_, _, ρ, S, _, w, hk', append_nothing hT hsrc rfl (Nat.le_refl _), hsim, VR.of_rel rfl ⟨q, 0, rfl, T0, 0, false, by unfold rowInfo; rw [hset]; rfl, Nat.le_refl _, fun _ => rfl, .inr ⟨i1, rfl, rfl, rfl⟩⟩⟩
            · have hpos : 0 < xs.length := by cases xs with | nil => exact absurd rfl hx0 | cons _ _ => simp
              refine grow_new (id := id) (q := q) hs hT hsrc hnm (os := []) (olds := ([].drop 0).take 0) (firstCells_zero _ _ _) rfl rfl (by omega) hlim ?_ (hoth _) hk'
              rw [hset, hr1 hx0]
        split at hk
        · -- full
          have hfull := hn2 rfl
          rcases br_cases hk with ⟨hl, hk⟩ | ⟨_, hk⟩
          · simp only [decide_eq_true_eq] at hl
            have e1 : (l0.drop off).take len = l0.drop off := List.take_of_length_le (by simp; omega)
            refine anew _ hl (fun h => ?_) (fun h => ?_) (by rw [e1]; exact hk)
            · cases xs with
              | nil => exact absurd rfl h
              | cons _ _ => simp
            · subst h; exact ⟨by simp, hfull⟩
          · cases hk
        · rcases br_cases hk with ⟨hl, hk⟩ | ⟨hl, hk⟩
          · simp only [decide_eq_true_eq] at hl
            by_cases hx0 : xs = []
            · subst hx0
              have e1 : l0.take (off + len) ++ [] ++ l0.drop (off + len + ([] : List T0.den).length) = l0 := by simp
              rw [e1] at hk
              have e2 : setBlk st.heap id (.row T0 l0 false real) = st.heap := setR_self hb
              rw [e2] at hk
              exact ⟨_, _, ρ, S, _, w, hk, append_nothing hT hsrc rfl (by rcases hin with ⟨_, _, _, _, _, _, _, _, _, _, _⟩ | ⟨_, _, _, _⟩ <;> omega), hs, VR.of_rel rfl ⟨q, cap, rfl, T0, l0.length, real, hri, hn1, by simp, hin⟩⟩
            · have hpos : 0 < xs.length := by cases xs with | nil => exact absurd rfl hx0 | cons _ _ => simp
              rcases hin with ⟨b, base, c, ee, fz, i1, i2, i3, i4, i5, i6⟩ | ⟨i1, i2, i3, i4⟩
              · rcases hbl with ⟨b', base', cs, j1, j2, ⟨c', ee', lo, hi, j3, j4, j5, j6⟩, j7, _⟩ | ⟨j1, _⟩
                · rw [j1] at i1
                  obtain ⟨rfl, rfl⟩ : b' = b ∧ base' = base := by simpa using i1
                  rw [j3] at i4
                  obtain ⟨rfl, rfl, rfl⟩ : c' = c ∧ ee' = ee ∧ (lo, hi) = fz := by injection i4 with h2; injection h2 with a1 a2 a3; exact ⟨a1, a2, a3⟩
                  have hcl := Many.length LV.len j2
                  have hq := i2 (by omega)
                  subst hq
                  have hnl : news.length = xs.length * T0.size := hsrc.newsLen
                  obtain ⟨g1, c2, g2, g3, g4, _⟩ := append_room (ty := ty) (news := news) (os := (cs.drop (off * T0.size)).take (len * T0.size)) hT hsrc j3 j6 i5 (show len + xs.length ≤ cap by omega)
                    (by have : off * T0.size + len * T0.size ≤ cs.length := by rw [hcl, ← Nat.add_mul]; exact Nat.mul_le_mul_right _ hn1
                        simp; omega) (fun j v hj => by
                      rw [List.getElem?_take] at hj
                      split at hj
                      · rw [List.getElem?_drop] at hj
                        have := j5 _ _ hj
                        rw [← this]
                        congr 1
                        omega
                      · cases hj)
                  have hle : (off + len) * T0.size + xs.length * T0.size ≤ cs.length := by rw [hcl, ← Nat.add_mul]; exact Nat.mul_le_mul_right _ hl
                  have e3 : base' + off * T0.size + len * T0.size = base' + (off + len) * T0.size := by rw [Nat.add_mul]; omega
                  rw [e3] at g1 g2 g4
                  have hm : Many (LV S w T0) (l0.take (off + len) ++ xs ++ l0.drop (off + len + xs.length)) (Am.over cs ((off + len) * T0.size) news) := by
                    have h1 := (j2.take LV.len (off + len)).append hnm
                    have h2 := j2.drop LV.len (off + len + xs.length)
                    have e4 : (off + len + xs.length) * T0.size = (off + len) * T0.size + news.length := by rw [hnl, Nat.add_mul (off + len)]
                    rw [e4] at h2
                    exact h1.append h2
                  have hlen : (l0.take (off + len) ++ xs ++ l0.drop (off + len + xs.length)).length = l0.length := by simp; omega
                  have hset2 : nthB (setBlk st.heap id (.row T0 (l0.take (off + len) ++ xs ++ l0.drop (off + len + xs.length)) false real)) id = some (.row T0 (l0.take (off + len) ++ xs ++ l0.drop (off + len + xs.length)) false real) := by
                    unfold setBlk; rw [nthB_set, if_pos ⟨rfl, hlt⟩]
                  have hsim := (hs.write id b' base' j1 (j7 rfl) _ (fun z hz => setCells_heap hz _ _ _) (setCells_size _ _ _) (fun c3 e3 f3 h3 => by
                      rw [j3] at h3
                      obtain ⟨rfl, rfl, rfl⟩ : c' = c3 ∧ ee' = e3 ∧ (lo, hi) = f3 := by injection h3 with h2; injection h2 with a1 a2 a3; exact ⟨a1, a2, a3⟩
                      exact ⟨c2, _, _, g2, g3⟩) (setBlk st.heap id (.row T0 (l0.take (off + len) ++ xs ++ l0.drop (off + len + xs.length)) false real)) (fun i hi => nthB_set_ne hi) (by rw [hb]; simp)
                      (by funext p; unfold offB; rw [hset2, hb]; simp only [hlen]) (by unfold rowInfo; rw [hset2, hb]; simp only [hlen]) (by unfold mapInfo; rw [hset2, hb]) (fun k => by
                      rw [hset2]
                      refine .inl ⟨b', base', _, j1, hm.mono fun _ _ h => LV.mono (fun _ h => h) k.same T0 h, ⟨c2, ee', lo, hi, g2, by rw [over_length (by omega)]; omega, fun j v hj => ?_, by omega⟩, j7, by simp⟩
                      have hjl : j < cs.length := by
                        have := (List.getElem?_eq_some_iff.1 hj).1
                        rwa [over_length (by omega)] at this
                      rw [over_get (by omega)] at hj
                      have hcj : c2[base' + j]? = (Am.over c'.toList (base' + (off + len) * T0.size) news)[base' + j]? := by rw [← g4]; simp
                      rw [hcj, over_get (by simp; omega)]
                      split at hj
                      · rename_i hb2
                        rw [if_pos (by omega), ← hj]
                        congr 1
                        omega
                      · rename_i hb2
                        rw [if_neg (by omega)]
                        simpa using j5 j v hj)).1
                  exact ⟨_, _, ρ, S, _, _, hk, g1, hsim, VR.of_rel rfl ⟨_, cap, rfl, T0, l0.length, real, by show rowInfo (setBlk _ _ _) id = _; unfold rowInfo; rw [hset2]; simp only [hlen], by omega, by simp, .inl ⟨b', base', c2, ee', (lo, hi), j1, fun _ => rfl, fun _ => rfl, g2, by omega, i6⟩⟩⟩
                · rw [i1] at j1; cases j1
              · omega
          · rcases br_cases hk with ⟨hl2, hk⟩ | ⟨_, hk⟩
            · simp only [decide_eq_true_eq] at hl2
              have hne : xs ≠ [] := fun e => by subst e; simp at hl; omega
              exact anew true hl2 (fun _ => rfl) (fun h => absurd h hne) hk
            · cases hk
      · cases hk
    · cases hk
  · cases hk

end Go.Am
