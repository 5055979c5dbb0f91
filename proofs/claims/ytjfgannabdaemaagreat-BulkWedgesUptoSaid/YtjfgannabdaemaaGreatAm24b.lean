/-
  AM: each operation that may stand in a region whose order is drawn: it does the same wherever what it looks at is the same.
-/
import Derived.Test.YtjfgannabdaemaaGreatAm24a
set_option linter.all false
namespace Go.Am
set_option linter.unusedSimpArgs false

variable {R : Type} {P : Program} {st st2 : St} {H H' : Heap} {env : FuncId → Option Fn} {slot : Nat} {W : List Nat}

theorem does_pick {c x y : Operand} (h1 : st2.eval c = st.eval c) (h2 : st2.eval x = st.eval x) (h3 : st2.eval y = st.eval y) :
    Does W st st2 (fun _ s K => opPick P (calmHand env) c x y slot s K) := by
  unfold opPick
  cases hc : st.eval c with
  | bool t =>
    refine Does.val (some (match t with | true => st.eval x | false => st.eval y)) (fun R K => ?_) (fun R K => ?_)
    · simp only [hc]; cases t <;> rfl
    · simp only [h1, h2, h3, hc]; cases t <;> rfl
  | _ => exact Does.none (fun R K => by simp only [hc]) (fun R K => by simp only [h1, hc])

theorem does_alloc {t : TypeId} : Does [slot] st st2 (fun _ s K => opAlloc P (calmHand env) t slot s K) := by
  unfold opAlloc
  cases hz : zeroAV P depth t with
  | none => exact Does.none (fun _ _ => rfl) (fun _ _ => rfl)
  | some v => cases ho : zeroOK P t v with
    | false => exact Does.none (fun _ _ => by simp only [ho]) (fun _ _ => by simp only [ho])
    | true => exact Does.one (.ptr slot []) (fun H => setBlk H slot (.var v false)) (Patch.set _ _) (fun _ _ => by simp only [ho]; rfl) (fun _ _ => by simp only [ho]; rfl)

theorem does_box {t : TypeId} {x : Operand} (h : st2.eval x = st.eval x) : Does [slot] st st2 (fun _ s K => opBox P (calmHand env) t x slot s K) := by
  unfold opBox
  cases ho : fits P t (st.eval x) && (st.eval x).storable with
  | false => exact Does.none (fun _ _ => by simp only [ho]) (fun _ _ => by simp only [h, ho])
  | true => exact Does.one (.ptr slot []) (fun H => setBlk H slot (.var (st.eval x) false)) (Patch.set _ _) (fun _ _ => by simp only [ho]; rfl) (fun _ _ => by simp only [h, ho]; rfl)

theorem does_build {t : TypeId} {ps : Array (Nat × Operand)} (he : ∀ p ∈ ps.toList, st2.eval p.2 = st.eval p.2) (hr : Eqv (rowsIn st ps.toList) st.heap st2.heap) :
    Does W st st2 (fun _ s K => opBuild P (calmHand env) t ps slot s K) := by
  unfold opBuild
  have e : ∀ step ok v, partsIn st2 v step ok ps.toList = partsIn st v step ok ps.toList := fun step ok v => partsIn_congr _ _ he hr
  cases hz : zeroAV P depth t with
  | none => exact Does.none (fun _ _ => rfl) (fun _ _ => rfl)
  | some v => cases ho : zeroOK P t v with
    | false => exact Does.none (fun _ _ => by simp only [ho]) (fun _ _ => by simp only [ho])
    | true =>
      simp only [ho, e]
      split
      · cases hp : partsIn st v Step.fld (partOK P t) ps.toList with
        | none => exact Does.none (fun _ _ => by simp only [hp]) (fun _ _ => by simp only [e, hp])
        | some u => exact Does.val (some u) (fun _ _ => by simp only [hp]; rfl) (fun _ _ => by simp only [e, hp]; rfl)
      · cases hp : partsIn st v Step.idx (partOK P t) ps.toList with
        | none => exact Does.none (fun _ _ => by simp only [hp]) (fun _ _ => by simp only [e, hp])
        | some u => exact Does.val (some u) (fun _ _ => by simp only [hp]; rfl) (fun _ _ => by simp only [e, hp]; rfl)
      · exact Does.none (fun _ _ => rfl) (fun _ _ => rfl)

theorem does_buildSlice {t : TypeId} {n : Nat} {ps : Array (Nat × Operand)} (he : ∀ p ∈ ps.toList, st2.eval p.2 = st.eval p.2) (hr : Eqv (rowsIn st ps.toList) st.heap st2.heap) :
    Does (slot :: rowsIn st ps.toList) st st2 (fun _ s K => opBuildSlice P (calmHand env) t n ps slot s K) := by
  unfold opBuildSlice
  cases hT : elemTy P t with
  | none => exact Does.none (fun _ _ => rfl) (fun _ _ => rfl)
  | some T =>
    have e := partsRow_congr (T := T) ps.toList (List.replicate n T.zero) he hr
    have e2 := rowsIn_congr ps.toList he
    cases hn : Nat.ble (n * T.size) 16777216 with
    | false => exact Does.none (fun _ _ => by simp only [hn]) (fun _ _ => by simp only [hn])
    | true =>
      cases hp : partsRow st T (List.replicate n T.zero) ps.toList with
      | none => exact Does.none (fun _ _ => by simp only [hn, hp]) (fun _ _ => by simp only [hn, e, hp])
      | some l =>
        cases hf : T.flat with
        | true =>
          exact Does.one (.lsl slot 0 n true) (fun H => setBlk H slot (.row T l false true)) ((Patch.set _ _).more (by simp)) (fun _ _ => by simp only [hn, hp, hf]; rfl) (fun _ _ => by simp only [hn, e, hp, hf]; rfl)
        | false =>
          exact Does.one (.lsl slot 0 n true) (fun H => setBlk (freeze H (rowsIn st ps.toList)) slot (.row T l false true)) (((Patch.freeze _).more (by simp +contextual)).comp ((Patch.set _ _).more (by simp)))
            (fun _ _ => by simp only [hn, hp, hf]; rfl) (fun _ _ => by simp only [hn, e, hp, hf, e2]; rfl)

theorem nth_ids {id : Nat} {p : List Step} {v : AV} (hv : v = .ptr id p) (hr : Eqv v.ids st.heap st2.heap) : nthB st2.heap id = nthB st.heap id := by
  subst hv; exact hr id (by simp [AV.ids])

noncomputable def fitK (P : Program) (t : TypeId) (K : AV → Option R) (y : Option AV) : Option R :=
  match y with
  | some v => match fits P t v with
    | true => K v
    | false => none
  | none => none

theorem does_fit (t : TypeId) (y : Option AV) (F : (R : Type) → St → (AV → St → Option R) → Option R) (h1 : ∀ R K, F R st K = fitK P t (fun v => K v st) y) (h2 : ∀ R K, F R st2 K = fitK P t (fun v => K v st2) y) : Does W st st2 F := by
  cases y with
  | none => exact Does.none h1 h2
  | some v => cases ho : fits P t v with
    | false => exact Does.none (fun R K => by rw [h1]; simp only [fitK, ho]) (fun R K => by rw [h2]; simp only [fitK, ho])
    | true => exact Does.val (some v) (fun R K => by rw [h1]; simp only [fitK, ho]; rfl) (fun R K => by rw [h2]; simp only [fitK, ho]; rfl)

theorem does_load {t : TypeId} {x : Operand} (h : st2.eval x = st.eval x) (hr : Eqv (st.eval x).ids st.heap st2.heap) : Does W st st2 (fun _ s K => opLoad P (calmHand env) t x slot s K) := by
  unfold opLoad
  cases hx : st.eval x with
  | rptr v =>
    cases ho : fits P t v with
    | false => exact Does.none (fun _ _ => by simp only [hx, ho]) (fun _ _ => by simp only [h, hx, ho])
    | true => exact Does.val (some v) (fun _ _ => by simp only [hx, ho]; rfl) (fun _ _ => by simp only [h, hx, ho]; rfl)
  | ptr id p =>
    have hi := nth_ids hx hr
    have hl := load_congr hi p
    have hg : ∀ (q : List Step) (v : AV), v.get st2.heap q = v.get st.heap q := fun q v => get_congr q v
    have key := fun (y : Option AV) F h1 h2 => does_fit (W := W) (P := P) (st := st) (st2 := st2) t y F h1 h2
    cases p with
    | nil => exact key (load st.heap id []) _ (fun R K => by simp only [hx]; rfl) (fun R K => by simp only [h, hx, hl]; rfl)
    | cons s q =>
      cases s with
      | fld k => exact key (load st.heap id (.fld k :: q)) _ (fun R K => by simp only [hx]; rfl) (fun R K => by simp only [h, hx, hl]; rfl)
      | idx i =>
        cases hb : nthB st.heap id with
        | none => exact Does.none (fun _ _ => by simp only [hx, hb]) (fun _ _ => by simp only [h, hx, hi, hb])
        | some b =>
          cases b with
          | row T l f r =>
            cases hq : idxN l i with
            | none => exact Does.none (fun _ _ => by simp only [hx, hb, hq]; rfl) (fun _ _ => by simp only [h, hx, hi, hb, hq]; rfl)
            | some y => exact key ((inj T y).get st.heap q) _ (fun R K => by simp only [hx, hb, hq]; rfl) (fun R K => by simp only [h, hx, hi, hb, hq, hg]; rfl)
          | var u f => exact key (u.get st.heap (.idx i :: q)) _ (fun R K => by simp only [hx, hb]; rfl) (fun R K => by simp only [h, hx, hi, hb, hg]; rfl)
          | _ => exact Does.none (fun _ _ => by simp only [hx, hb]) (fun _ _ => by simp only [h, hx, hi, hb])
  | _ => exact Does.none (fun _ _ => by simp only [hx]) (fun _ _ => by simp only [h, hx])

end Go.Am
