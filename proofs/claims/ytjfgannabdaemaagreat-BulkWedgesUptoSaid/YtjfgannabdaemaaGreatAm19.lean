/-
  AM, twentieth text: lengths, least and greatest, conversions, make.
-/
import Derived.Test.YtjfgannabdaemaaGreatAm18
import Derived.Deep.AppendSrc
import Derived.Laws.IdiomStrings
set_option linter.all false
namespace Go.Am
set_option linter.unusedSimpArgs false

variable {R : Type} {P : Program} {N : Nat} {Hd S0 : Nat → Prop} {w0 : World} {ρ : Emb} {S S' : Nat → Prop} {st : St} {a : Act} {sv : List Value} {w : World} {H : Heap}

theorem Carry.world {w' : World} (h : w'.heap = w.heap) : Carry (fun _ => True) ρ S w H ρ S w' H := {
  emb := fun _ _ _ => rfl
  off := fun _ _ _ => rfl
  row := fun _ _ _ => rfl
  map := fun _ _ _ => rfl
  stay := fun _ h => h
  same := fun _ _ => by rw [h]
  size := fun i b base c e fz _ _ hc => ⟨c, e, fz, by rw [h]; exact hc, rfl⟩ }

/-- of a world, only its heap is spoken of -/
theorem Sim.world {w' : World} (hs : Sim N Hd S0 w0 ρ S st a sv w) (h : w'.heap = w.heap) (he : w'.os = w.os ∧ w'.output = w.output ∧ w'.tape = w.tape := by exact ⟨rfl, rfl, rfl⟩) : Sim N Hd S0 w0 ρ S st a sv w' := {
  tm := hs.tm.mono fun v x hv => hv.carry (Carry.world h) v.on_true
  sv := hs.sv.mono fun v x hv => hv.carry (Carry.world h) v.on_true
  bl := fun i => BlkRel.carry (Carry.world h) rfl (fun hn => by have := hs.bl i; rw [hn] at this; exact this) trivial (fun _ _ _ => by rw [h]) (fun _ _ _ hs => hs) (fun v f _ => v.on_true) (hs.bl i)
  inj := hs.inj
  own := fun i b x hi => by rw [h]; exact hs.own i b x hi
  stay := fun b hb => by rw [h]; exact hs.stay b hb
  lim := hs.lim
  grew := hs.grew
  keep := fun b h1 h2 => by rw [h]; exact hs.keep b h1 h2
  base := by rw [h]; exact hs.base
  dfr := hs.dfr
  eff := ⟨he.1.trans hs.eff.1, he.2.1.trans hs.eff.2.1, he.2.2.trans hs.eff.2.2⟩ }


theorem int_range {n : Nat} (h : n ≤ lim) : IntKind.i64.min ≤ (n : Int) ∧ (n : Int) ≤ IntKind.i64.max := by
  simp only [lim] at h
  rw [← kindLo_eq, ← kindHi_eq]
  constructor
  · simp only [kindLo]; omega
  · simp only [kindHi]; omega

theorem lenAV_sound {t ty : TypeId} {ts : Array TypeId} {x : Operand} {n : Nat} (hs : Sim N Hd S0 w0 ρ S st a sv w) (h : lenAV P t st (st.eval x) = some n) (ht : ts[0]? = some t) :
    (Builtin.len_ ts ty #[a.eval x]).run P w = .ok (goInt n) w := by
  have hx := hs.eval x
  unfold lenAV at h
  unfold Builtin.len_
  rw [ht]
  split at h <;> first | (cases h; done) | skip
  · rename_i hu he
    cases h
    rw [he] at hx
    simp [run_underlying hu, hx.nilsl_inv]
  · rename_i hu he
    cases h
    rw [he] at hx
    obtain ⟨q, cap, hv, _⟩ := hx.dsl_inv
    simp [run_underlying hu, hv]
  · rename_i hu he
    cases h
    rw [he] at hx
    obtain ⟨q, cap, hv, _⟩ := hx.lsl_inv
    simp [run_underlying hu, hv]
  · rename_i hu he
    cases h
    rw [he] at hx
    obtain ⟨hv, _⟩ := hx.str_inv
    simp [run_underlying hu, hv, strVal_size]
  · rename_i hu
    cases h
    simp [run_underlying hu]
  · rename_i hu he
    cases h
    rw [he] at hx
    have hv : a.eval x = .map none := by
      have : [a.eval x] = [Value.map none] := VR.rel rfl (by simp) hx
      simpa using this
    simp [run_underlying hu, hv]
  · rename_i id hu he
    rw [he] at hx
    split at h
    · rename_i kt vt l hb
      cases h
      obtain ⟨b, hρ, _, hv⟩ := VR.rel rfl (by simp) hx
      have hv : a.eval x = .map (some b) := by simpa using hv
      have hbl := hs.bl id
      rw [hb] at hbl
      obtain ⟨b', es, clock, h1, h2, h3, h4⟩ := hbl
      rw [hρ] at h1
      obtain rfl : b = b' := by simpa using h1
      have hl := h4.length
      have hg : (getObj b).run P w = .ok (.map es clock) w := by simp [getObj, Sem.run, h3]
      simp [run_underlying hu, hv, hg, hl]
    · cases h

theorem minmax_sound {g : Int → Int → Int} {f : Value → Value → Sem Value} (hg : ∀ k x l y, k = l → (f (.int k x) (.int l y)).run P w = .ok (.int k (g x y)) w) (hr : ∀ x y, g x y = x ∨ g x y = y) {k : IntKind} :
    ∀ {l : List Operand} {n : Int} {v : AV}, Sim N Hd S0 w0 ρ S st a sv w → minmax g k n (l.map st.eval) = some v → k.min ≤ n ∧ n ≤ k.max → ∃ m, v = .int k m ∧ (k.min ≤ m ∧ m ≤ k.max) ∧ ((l.map a.eval).foldlM f (.int k n)).run P w = .ok (.int k m) w := by
  intro l
  induction l with
  | nil => intro n v _ h hn; simp only [List.map_nil, minmax, Option.some.injEq] at h; subst h; exact ⟨n, rfl, hn, by simp⟩
  | cons x l ih =>
    intro n v hs h hn
    have hx := hs.eval x
    cases he : st.eval x <;> simp only [List.map_cons, he, minmax] at h <;> first | (cases h; done) | skip
    rename_i k' m
    rw [he] at hx
    obtain ⟨hv, hm⟩ := hx.int_inv
    split at h
    · rename_i hk
      have hk := kindB_eq hk
      subst hk
      obtain ⟨m', h1, h2, h3⟩ := ih hs h (by rcases hr n m with e | e <;> rw [e] <;> assumption)
      refine ⟨m', h1, h2, ?_⟩
      simp only [List.map_cons, List.foldlM_cons, Sem.run_bind, hv, hg _ _ _ _ rfl, Result.andThen_ok, h3]
    · cases h

/-! ## Conversions -/

theorem LVv.bytes {l : List Int} {x : Value} (h : LVv S w (.sl (.int .u8)) l x) : ∃ q cap, x = .slice q l.length cap ∧ l.length ≤ cap ∧ Elems S w (LV S w (.int .u8)) l q := by
  obtain ⟨q, cap, h1, h2, h3⟩ := (show LV S w (.sl (.int .u8)) l [x] from h)
  exact ⟨q, cap, by simpa using h1, h2, h3⟩

theorem many_ints : ∀ {l : List Int} {cs : List Value}, Many (LV S w (.int .u8)) l cs → cs = l.map (Value.int .u8) ∧ ∀ n ∈ l, byteB n := by
  intro l
  induction l with
  | nil => intro cs h; obtain rfl : cs = [] := h; exact ⟨rfl, by simp⟩
  | cons n l ih =>
    rintro cs ⟨c, d, rfl, ⟨rfl, h1, h2⟩, h3⟩
    obtain ⟨rfl, h4⟩ := ih h3
    refine ⟨rfl, fun m hm => ?_⟩
    rcases List.mem_cons.1 hm with rfl | hm
    · rw [← kindLo_eq] at h1; rw [← kindHi_eq] at h2
      exact ⟨h1, by have h2 : (m : Int) ≤ 255 := h2; show (m : Int) < 256; omega⟩
    · exact h4 m hm

theorem ints_many : ∀ {l : List Int}, (∀ n ∈ l, byteB n) → Many (LV S w (.int .u8)) l (l.map (Value.int .u8)) := by
  intro l
  induction l with
  | nil => intro _; rfl
  | cons n l ih =>
    intro h
    have hn := h n (by simp)
    refine ⟨[.int .u8 n], _, rfl, ⟨rfl, ?_, ?_⟩, ih fun m hm => h m (by simp [hm])⟩
    · rw [← kindLo_eq]; exact hn.1
    · rw [← kindHi_eq]; have : (n : Int) < 256 := hn.2; show (n : Int) ≤ 255; omega

theorem Has.loads {b o : Nat} {cs : List Value} (h : Has w b o cs) : (loadCells ⟨b, o, none⟩ cs.length).run P w = .ok cs.toArray w := by
  obtain ⟨c, e, fz, h1, h2, h3⟩ := h
  refine run_loadCells_list (P := P) w _ cs fun j v hj => ?_
  rw [Addr.add_none, cell?_of h1]
  exact h3 j v hj

theorem foldl_bytes : ∀ (l : List Int) (s : ByteArray), l.foldl (fun r n => r.push (UInt8.ofNat n.toNat)) s = ⟨s.data ++ (strVal l).data⟩ := by
  intro l
  induction l with
  | nil => intro s; apply ByteArray.ext; simp [strVal]
  | cons n l ih =>
    intro s
    rw [List.foldl_cons, ih]
    apply ByteArray.ext
    apply Array.ext'
    simp [strVal]

/-- bytes, read -/
theorem run_bytes_elems {l : List Int} {q : Option Addr} {cap : Nat} (h : Elems S w (LV S w (.int .u8)) l q) : (Conv.bytesToString (.slice q l.length cap)).run P w = .ok (.string (strVal l)) w ∧ ∀ n ∈ l, byteB n := by
  rcases h with rfl | ⟨b, o, cs, rfl, hS, hm, hh⟩
  · refine ⟨?_, by simp⟩
    cases q with
    | none => simp [Conv.bytesToString, strVal]; rfl
    | some q =>
      rw [run_bytesToString w q _ cap [] (by simp [loadCells, loadCellsFrom])]
      rfl
  · obtain ⟨rfl, hb⟩ := many_ints hm
    refine ⟨?_, hb⟩
    have hl := hh.loads (P := P)
    simp only [List.length_map] at hl
    rw [run_bytesToString w _ _ cap l hl, foldl_bytes]
    congr 2
    apply ByteArray.ext
    apply Array.ext'
    simp

theorem VR.str_mk {l : List Int} (h : ∀ n ∈ l, byteB n) : VR ρ S w H (.str l) (.string (strVal l)) := VR.of_rel rfl (show LV S w .str l _ from ⟨rfl, h⟩)

theorem convAV_sound {s d ty : TypeId} {x : Operand} {K : AV → St → Option R} {r : R} {op : Bool} (hs : Sim N Hd S0 w0 ρ S st a sv w) (hk : convAV P s d (st.eval x) st K = some r) :
    OpOK P N Hd S0 w0 sv a (.convert s d x) ty w K r := by
  have hx := hs.eval x
  have fin : ∀ {v : AV} {cv : Value}, (convert s d (a.eval x)).run P w = .ok cv w → VR ρ S w st.heap v cv → K v st = some r → OpOK P N Hd S0 w0 sv a (.convert s d x) ty w K r :=
    fun h1 h2 h3 => OpOK.pure hs h3 (by simp only [ex, execOp]; rw [Sem.run_bind]; simp only [h1, Result.andThen_ok]; rfl) h2
  unfold convAV at hk
  split at hk
  · rename_i sd k k' n hu1 hu2 he
    rw [he] at hx
    exact fin (by simp [convert, run_underlying hu1, run_underlying hu2, hx.int_inv.1, Conv.intToInt]) (VR.int_mk (wrap_range _ _)) hk
  · rename_i sd k n hu1 hu2 he
    rw [he] at hx
    rcases br_cases hk with ⟨hc, hk⟩ | ⟨_, hk⟩
    · simp only [decide_eq_true_eq] at hc
      refine fin (cv := .string (strVal [n])) ?_ (VR.str_mk fun m hm => by simp at hm; subst hm; exact ⟨hc.1, by omega⟩) hk
      have : Utf8.encode n = strVal [n] := by
        have hv : Utf8.valid n = true := by simp [Utf8.valid]; omega
        simp only [Utf8.encode, hv, if_true]
        rw [if_pos (by omega)]
        rfl
      simp [convert, run_underlying hu1, run_underlying hu2, hx.int_inv.1, Conv.intToString, this]
    · cases hk
  · rename_i sd s' hu1 hu2 he
    rw [he] at hx
    obtain ⟨hv, hb⟩ := hx.str_inv
    exact fin (cv := .string (strVal s')) (by simp [convert, run_underlying hu1, run_underlying hu2, hv]) (VR.str_mk hb) hk
  · rename_i e1 e2 id o n f hu1 hu2 he
    rw [he] at hx
    obtain ⟨q, cap, hv, hin⟩ := hx.lsl_inv
    split at hk
    · rename_i T l rr hu hsd hb
      simp only [Bool.and_eq_true, Nat.beq_eq, Nat.blt_eq] at hsd
      obtain ⟨rfl, hn⟩ := hsd
      obtain rfl : e1 = e2 := by rw [hu1] at hu2; simpa using hu2
      have hbl := hs.bl id
      rw [hb] at hbl
      obtain ⟨T', nn, r', hri, hn1, hn2, hin⟩ := hin
      have hri' := hri
      unfold rowInfo at hri'
      rw [hb] at hri'
      simp only [Option.some.injEq, Prod.mk.injEq] at hri'
      obtain ⟨rfl, rfl, rfl⟩ := hri'
      rcases hbl with ⟨b, base, cs, j1, j2, ⟨c, ee, lo, hi, j3, j4, j5, j6⟩, j7, _⟩ | ⟨_, j2, _⟩
      · rcases hin with ⟨b', base', c', ee', fz, i1, i2, i3, i4, i5, i6⟩ | ⟨i1, i2, i3, i4⟩
        · rw [j1] at i1
          obtain ⟨rfl, rfl⟩ : b = b' ∧ base = base' := by simpa using i1
          have hq := i2 (by omega)
          subst hq
          have hsh : w.shape? b = some (ee, c.size) := by simp [World.shape?, j3]
          have hblk : (w.freeze ⟨b, c.size, none⟩ 1).heap[b]? = some (.cells c ee (if lo == hi then (c.size, c.size + 1) else (min lo c.size, max hi (c.size + 1)))) := by
            simp [World.freeze, Array.getElem?_modify, j3]
          have hoth : ∀ x, x ≠ b → (w.freeze ⟨b, c.size, none⟩ 1).heap[x]? = w.heap[x]? := fun x hx => by
            simp only [World.freeze]
            rw [if_neg (by decide)]
            simp only [Array.getElem?_modify]
            rw [if_neg (fun e => hx e.symm)]
          refine ⟨_, _, ρ, S, .slice (some ⟨b, base + o * T.size, none⟩) n cap, w.freeze ⟨b, c.size, none⟩ 1, hk, .inl ?_, (hs.write id b base j1 (j7 rfl) _ hoth (by simp [World.freeze]) ?_ st.heap (fun _ _ => rfl) (by rw [hb]; simp) rfl rfl rfl ?_).1, ?_⟩
          · simp only [ex, execOp, convert, Sem.run_bind, run_underlying hu1, run_underlying hu2, hv, Result.andThen_ok, run_underlying hu]
            simp [markStringish, hsh]
          · intro c2 e2 f2 h2
            rw [j3] at h2
            obtain ⟨rfl, rfl, _⟩ : c = c2 ∧ ee = e2 ∧ (lo, hi) = f2 := by
              injection h2 with h2; injection h2 with a1 a2 a3; exact ⟨a1, a2, a3⟩
            exact ⟨_, _, _, hblk, rfl⟩
          · intro k
            rw [hb]
            refine .inl ⟨b, base, cs, j1, j2.mono fun _ _ h => LV.mono (fun _ h => h) k.same T h, ⟨c, ee, (if lo == hi then (c.size, c.size + 1) else (min lo c.size, max hi (c.size + 1))).1, (if lo == hi then (c.size, c.size + 1) else (min lo c.size, max hi (c.size + 1))).2, hblk, j4, j5, ?_⟩, j7, by simp⟩
            split
            · exact .inr (Nat.le_refl _)
            · rename_i hne
              have : lo ≠ hi := by simpa using hne
              right
              simp only
              omega
          · rw [hv] at hx
            refine VR.of_rel rfl ⟨_, cap, rfl, T, l.length, rr, hri, hn1, hn2, .inl ⟨b, base, c, ee, _, j1, fun _ => rfl, fun _ => rfl, hblk, ?_, i6⟩⟩
            rw [j3] at i4
            obtain ⟨rfl, rfl, _⟩ : c = c' ∧ ee = ee' ∧ (lo, hi) = fz := by
              injection i4 with h2; injection h2 with a1 a2 a3; exact ⟨a1, a2, a3⟩
            exact i5
        · omega
      · rw [j2] at hn1; simp at hn1; omega
    · cases hk
  · rename_i e hu1 hu2 _ _
    split at hk
    · rename_i hu
      split at hk
      · rename_i l hd
        have hb : LVv (fun _ => True) w (.sl (.int .u8)) l (a.eval x) := deep_VR' hs.bl (fun _ _ => trivial) hx hd (.inl fun _ _ _ _ _ => trivial)
        obtain ⟨q, cap, hv, hc, hel⟩ := hb.bytes
        obtain ⟨h1, h2⟩ := run_bytes_elems (P := P) (cap := cap) hel
        exact fin (cv := .string (strVal l)) (by rw [hv]; simp [convert, run_underlying hu1, run_underlying hu2, run_underlying hu, h1]) (VR.str_mk h2) hk
      · cases hk
    · cases hk
  · rename_i e s' hu1 hu2 he
    rw [he] at hx
    obtain ⟨hv, hby⟩ := hx.str_inv
    split at hk
    · rename_i hu
      have hrun := run_bytes_of_string (P := P) w s d e (strVal s') hu1 hu2 hu
      have hcap := grownCap_ge w (strVal s').size 0 e
      generalize grownCap w (strVal s').size 0 e = cap at hrun hcap
      rw [strVal_size] at hrun hcap
      have hrow : bytesRow (strVal s') cap = (s'.map (Value.int .u8) ++ List.replicate (cap - s'.length) (Value.int .u8 0)).toArray := by
        unfold bytesRow
        rw [strVal_size]
        apply Array.ext'
        simp only [strVal, Array.toList_append, Array.toList_map, List.toList_toArray, List.map_map, Array.toList_replicate]
        congr 1
        apply List.map_congr_left
        intro n hn
        obtain ⟨g1, g2⟩ := hby n hn
        simp
        omega
      rw [hrow] at hrun
      have hlen : (s'.map (Value.int .u8) ++ List.replicate (cap - s'.length) (Value.int .u8 0)).toArray.size = cap := by simp; omega
      rw [hlen] at hrun
      have hs' := hs.world (w' := w.drew) rfl
      have hnone : nthB st.heap st.heap.length = none := by rw [nthB_eq]; simp
      obtain ⟨ρ', g1, g2, _⟩ := newRow_sound hs' hnone (push st.heap (.row (.int .u8) s' false true)) (by unfold push; rw [nthB_push, if_pos rfl]) (fun i hi => by unfold push; rw [nthB_push, if_neg hi]) (e := e) (ints_many hby) s'.length cap true (Nat.le_refl _) (fun _ => rfl)
        hcap (List.replicate (cap - s'.length) (Value.int .u8 0)) (by simp [Ty.size]; omega) (cap, cap + 1) (.inr (by simp; omega))
      refine ⟨_, _, ρ', S, _, _, hk, .inl ?_, g1, g2⟩
      simp only [ex, execOp]
      rw [Sem.run_bind, hv]
      simp only [hrun, Result.andThen_ok]
      rfl
    · cases hk
  · cases hk

end Go.Am
