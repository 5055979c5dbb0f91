/-
  AM: each operation that may stand in a region whose order is drawn, second part.
-/
import Derived.Test.YtjfgannabdaemaaGreatAm24b
set_option linter.all false
namespace Go.Am
set_option linter.unusedSimpArgs false

variable {R : Type} {P : Program} {st st2 : St} {H H' : Heap} {env : FuncId → Option Fn} {slot : Nat} {W : List Nat}

theorem does_store {t : TypeId} {x y : Operand} (h : st2.eval x = st.eval x) (h' : st2.eval y = st.eval y) (hr : Eqv ((st.eval x).ids ++ (st.eval y).rows) st.heap st2.heap) :
    Does ((st.eval x).ids ++ (st.eval y).rows) st st2 (fun _ s K => opStore P (calmHand env) t x y slot s K) := by
  unfold opStore
  cases ho : fits P t (st.eval y) with
  | false => exact Does.none (fun _ _ => by simp only [ho]) (fun _ _ => by simp only [h', ho])
  | true =>
    cases hx : st.eval x with
    | ptr id p =>
      have hi : nthB st2.heap id = nthB st.heap id := hr id (by simp [hx, AV.ids])
      have hv : Eqv (st.eval y).rows st.heap st2.heap := hr.sub fun i hi => by simp [hi]
      have fin : ∀ (v : Option (Heap → Heap)), (∀ φ, v = some φ → Patch ((AV.ptr id p).ids ++ (st.eval y).rows) φ) → (store st.heap id p (st.eval y) = v.map (· st.heap)) → (store st2.heap id p (st.eval y) = v.map (· st2.heap)) →
          Does ((AV.ptr id p).ids ++ (st.eval y).rows) st st2 (fun R s K => match fits P t (s.eval y) with
            | true => match s.eval x with
              | .ptr id p => obind (store s.heap id p (s.eval y)) fun H => K .dead { s with heap := H }
              | _ => (none : Option R)
            | false => none) := by
        intro v hp h1 h2
        cases v with
        | none => exact Does.none (fun _ _ => by simp only [ho, hx, h1]; rfl) (fun _ _ => by simp only [h, h', ho, hx, h2]; rfl)
        | some φ => exact Does.one .dead φ (hp φ rfl) (fun _ _ => by simp only [ho, hx, h1]; rfl) (fun _ _ => by simp only [h, h', ho, hx, h2]; rfl)
      have nn : ∀ {H : Heap} {p : List Step} {v : AV}, (∀ u, nthB H id ≠ some (.var u false)) → (∀ t l r, nthB H id ≠ some (.row t l false r)) → store H id p v = none := by
        intro H p v h1 h2
        unfold store
        split
        · rename_i u hb; exact absurd hb (h1 u)
        · rename_i hb; exact absurd hb (h2 _ _ _)
        · rfl
      cases hb : nthB st.heap id with
      | none => exact fin none (fun _ h => by cases h) (nn (by simp [hb]) (by simp [hb])) (nn (by simp [hi, hb]) (by simp [hi, hb]))
      | some b =>
        cases b with
        | mp kt vt l => exact fin none (fun _ h => by cases h) (nn (by simp [hb]) (by simp [hb])) (nn (by simp [hi, hb]) (by simp [hi, hb]))
        | iter kt vt l => exact fin none (fun _ h => by cases h) (nn (by simp [hb]) (by simp [hb])) (nn (by simp [hi, hb]) (by simp [hi, hb]))
        | var u f =>
          cases f with
          | true => exact fin none (fun _ h => by cases h) (nn (by simp [hb]) (by simp [hb])) (nn (by simp [hi, hb]) (by simp [hi, hb]))
          | false =>
            have e := put_congr hv p u
            cases hz : u.put st.heap p (st.eval y) with
            | none => exact fin none (fun _ h => by cases h) (by unfold store; simp only [hb, hz]; rfl) (by unfold store; simp only [hi, hb, e, hz]; rfl)
            | some z => exact fin (some fun H => setBlk H id (.var z false)) (fun φ hφ => by cases hφ; exact (Patch.set _ _).more (by simp [AV.ids])) (by unfold store; simp only [hb, hz]; rfl) (by unfold store; simp only [hi, hb, e, hz]; rfl)
        | row T l f r =>
          cases f with
          | true => exact fin none (fun _ h => by cases h) (nn (by simp [hb]) (by simp [hb])) (nn (by simp [hi, hb]) (by simp [hi, hb]))
          | false =>
            have bad : (∀ i q, p ≠ .idx i :: q) → ∀ H, nthB H id = some (.row T l false r) → store H id p (st.eval y) = none := by
              intro hne H hb
              unfold store
              simp only [hb]
            cases p with
            | nil => exact fin none (fun _ h => by cases h) (bad (fun _ _ e => by cases e) _ hb) (bad (fun _ _ e => by cases e) _ (hi.trans hb))
            | cons s q => cases s with
              | fld k => exact fin none (fun _ h => by cases h) (bad (fun _ _ e => by cases e) _ hb) (bad (fun _ _ e => by cases e) _ (hi.trans hb))
              | idx i =>
                cases ha : (st.eval y).rows.any (Nat.beq id) with
                | true => exact fin none (fun _ h => by cases h) (by unfold store; simp only [hb, ha]; rfl) (by unfold store; simp only [hi, hb, ha]; rfl)
                | false =>
                  cases hq : idxN l i with
                  | none => exact fin none (fun _ h => by cases h) (by unfold store; simp only [hb, ha, hq]; rfl) (by unfold store; simp only [hi, hb, ha, hq]; rfl)
                  | some z =>
                    have e := putD_congr hv T q z
                    cases hz : putD st.heap T z q (st.eval y) with
                    | none => exact fin none (fun _ h => by cases h) (by unfold store; simp only [hb, ha, hq, obind, hz]; rfl) (by unfold store; simp only [hi, hb, ha, hq, obind, e, hz]; rfl)
                    | some u =>
                      exact fin (some fun H => setBlk (freeze H (st.eval y).rows) id (.row T (setR l i u) false r))
                        (fun φ hφ => by cases hφ; exact ((Patch.freeze _).more (by simp +contextual)).comp ((Patch.set _ _).more (by simp [AV.ids])))
                        (by unfold store; simp only [hb, ha, hq, obind, hz]; rfl) (by unfold store; simp only [hi, hb, ha, hq, obind, e, hz]; rfl)
    | _ => exact Does.none (fun _ _ => by simp only [ho, hx]) (fun _ _ => by simp only [h, h', ho, hx])

theorem does_nilCheck {x : Operand} (h : st2.eval x = st.eval x) : Does W st st2 (fun _ s K => opNilCheck P (calmHand env) x slot s K) := by
  unfold opNilCheck
  cases hx : st.eval x with
  | ptr id p => exact Does.val (some (.ptr id p)) (fun _ _ => by simp only [hx]; rfl) (fun _ _ => by simp only [h, hx]; rfl)
  | rptr v => exact Does.val (some (.rptr v)) (fun _ _ => by simp only [hx]; rfl) (fun _ _ => by simp only [h, hx]; rfl)
  | func f c => exact Does.val (some (.func f c)) (fun _ _ => by simp only [hx]; rfl) (fun _ _ => by simp only [h, hx]; rfl)
  | _ => exact Does.none (fun _ _ => by simp only [hx]) (fun _ _ => by simp only [h, hx])

theorem does_unOp {op : UnOp} {x : Operand} (h : st2.eval x = st.eval x) : Does W st st2 (fun R s K => unAV (R := R) op (s.eval x) fun v => K v s) := by
  rw [show (fun (R : Type) (s : St) (K : AV → St → Option R) => unAV (R := R) op (s.eval x) fun v => K v s) = fun R s K => unAV (R := R) op (s.eval x) fun v => K v s from rfl]
  have hl : ∀ (R : Type) (v : AV) (K : AV → Option R), unAV op v K = obind (unAV op v some) K := by
    intro R v K
    cases op <;> cases v <;> simp only [unAV] <;> first | rfl | (split <;> rfl)
  exact Does.val (unAV op (st.eval x) some) (fun R K => hl _ _ _) (fun R K => by simp only [h]; exact hl _ _ _)

theorem does_s2a {t : TypeId} {x : Operand} (h : st2.eval x = st.eval x) (hr : Eqv (st.eval x).rows st.heap st2.heap) : Does (st.eval x).rows st st2 (fun _ s K => opSliceToArrayPointer P (calmHand env) t x slot s K) := by
  unfold opSliceToArrayPointer
  cases hu : P.underlying t with
  | none => exact Does.none (fun _ _ => rfl) (fun _ _ => rfl)
  | some d =>
    cases d with
    | array n e =>
      cases hT : elemAt P e with
      | none => exact Does.none (fun _ _ => by simp only [hT]) (fun _ _ => by simp only [hT])
      | some T =>
        have ed := deep_congr (.sl T) (st.eval x) hr
        cases hd : deep st.heap (.sl T) (st.eval x) with
        | none => exact Does.none (fun _ _ => by simp only [hT, hd]) (fun _ _ => by simp only [hT, h, ed, hd])
        | some l =>
          cases hc : decide (0 < n ∧ n ≤ l.length) with
          | false => exact Does.none (fun _ _ => by simp only [hT, hd, hc]; rfl) (fun _ _ => by simp only [hT, h, ed, hd, hc]; rfl)
          | true => exact Does.one (.rptr (.dar n T (l.take n))) (fun H => freeze H (st.eval x).rows) (Patch.freeze _) (fun _ _ => by simp only [hT, hd, hc]; rfl) (fun _ _ => by simp only [hT, h, ed, hd, hc]; rfl)
    | _ => exact Does.none (fun _ _ => rfl) (fun _ _ => rfl)

theorem evals_congr : ∀ {l : List Operand}, (∀ x ∈ l, st2.eval x = st.eval x) → l.map st2.eval = l.map st.eval := by
  intro l h
  exact List.map_congr_left h

theorem does_makeSlice {t : TypeId} {n c : Operand} (h : st2.eval n = st.eval n) (h' : st2.eval c = st.eval c) : Does [slot] st st2 (fun _ s K => opMakeSlice P (calmHand env) t n c slot s K) := by
  unfold opMakeSlice
  cases hT : elemTy P t with
  | none => exact Does.none (fun _ _ => rfl) (fun _ _ => rfl)
  | some T =>
    cases ha : st.eval n with
    | int k a =>
      cases hb : st.eval c with
      | int k2 b =>
        cases hc : decide (0 ≤ a ∧ a ≤ b ∧ b ≤ (lim : Int)) with
        | false => exact Does.none (fun _ _ => by simp only [ha, hb, hc]; rfl) (fun _ _ => by simp only [h, h', ha, hb, hc]; rfl)
        | true =>
          have one : ∀ (full : Bool) (m : Nat) (F : (R : Type) → St → (AV → St → Option R) → Option R), (∀ R s K, F R s K = K (.lsl slot 0 a.toNat full) (setSlot s slot (.row T (List.replicate m T.zero) false true))) → Does [slot] st st2 F :=
            fun full m F hF => Does.one (.lsl slot 0 a.toNat full) (fun H => setBlk H slot (.row T (List.replicate m T.zero) false true)) (Patch.set _ _) (fun R K => hF R st K) (fun R K => hF R st2 K)
          have e : ∀ (s : St), (s = st ∨ s = st2) → s.eval n = .int k a ∧ s.eval c = .int k2 b := by
            rintro s (rfl | rfl)
            · exact ⟨ha, hb⟩
            · exact ⟨h.trans ha, h'.trans hb⟩
          have go : ∀ (full : Bool) (m : Nat), (∀ (R : Type) (s : St) (K : AV → St → Option R), (match n, c with
               | .tmp i, .tmp j => match i.beq j with
                 | true => K (.lsl slot 0 a.toNat true) (setSlot s slot (.row T (List.replicate a.toNat T.zero) false true))
                 | false => K (.lsl slot 0 a.toNat false) (setSlot s slot (.row T (List.replicate b.toNat T.zero) false true))
               | .const (.int _ i), .const (.int _ j) => br (decide (i = j)) (K (.lsl slot 0 a.toNat true) (setSlot s slot (.row T (List.replicate a.toNat T.zero) false true)))
                   (K (.lsl slot 0 a.toNat false) (setSlot s slot (.row T (List.replicate b.toNat T.zero) false true)))
               | _, _ => K (.lsl slot 0 a.toNat false) (setSlot s slot (.row T (List.replicate b.toNat T.zero) false true))) = K (.lsl slot 0 a.toNat full) (setSlot s slot (.row T (List.replicate m T.zero) false true))) →
              Does [slot] st st2 (fun R s K => match some T, s.eval n, s.eval c with
                | some T, .int _ a, .int _ b => br (decide (0 ≤ a ∧ a ≤ b ∧ b ≤ (lim : Int)))
                    (match n, c with
                     | .tmp i, .tmp j => match i.beq j with
                       | true => K (.lsl slot 0 a.toNat true) (setSlot s slot (.row T (List.replicate a.toNat T.zero) false true))
                       | false => K (.lsl slot 0 a.toNat false) (setSlot s slot (.row T (List.replicate b.toNat T.zero) false true))
                     | .const (.int _ i), .const (.int _ j) => br (decide (i = j)) (K (.lsl slot 0 a.toNat true) (setSlot s slot (.row T (List.replicate a.toNat T.zero) false true)))
                         (K (.lsl slot 0 a.toNat false) (setSlot s slot (.row T (List.replicate b.toNat T.zero) false true)))
                     | _, _ => K (.lsl slot 0 a.toNat false) (setSlot s slot (.row T (List.replicate b.toNat T.zero) false true))) none
                | _, _, _ => (none : Option R)) := by
            intro full m hk
            refine Does.one (.lsl slot 0 a.toNat full) (fun H => setBlk H slot (.row T (List.replicate m T.zero) false true)) (Patch.set _ _) (fun R K => ?_) (fun R K => ?_)
            · simp only [ha, hb, hc]; exact hk R st K
            · simp only [h, h', ha, hb, hc]; exact hk R st2 K
          cases n with
          | tmp i => cases c with
            | tmp j => cases hij : i.beq j with
              | true => exact go true a.toNat (fun R s K => by simp only [hij])
              | false => exact go false b.toNat (fun R s K => by simp only [hij])
            | _ => exact go false b.toNat (fun R s K => rfl)
          | const v => cases v with
            | int k3 i => cases c with
              | const u => cases u with
                | int k4 j => cases hij : decide (i = j) with
                  | true => exact go true a.toNat (fun R s K => by simp only [hij]; rfl)
                  | false => exact go false b.toNat (fun R s K => by simp only [hij]; rfl)
                | _ => exact go false b.toNat (fun R s K => rfl)
              | _ => exact go false b.toNat (fun R s K => rfl)
            | _ => exact go false b.toNat (fun R s K => by cases c <;> rfl)
          | _ => exact go false b.toNat (fun R s K => rfl)
      | _ => exact Does.none (fun _ _ => by simp only [ha, hb]) (fun _ _ => by simp only [h, h', ha, hb])
    | _ => exact Does.none (fun _ _ => by simp only [ha]) (fun _ _ => by simp only [h, h', ha])

theorem does_fieldAddr {t : TypeId} {x : Operand} {f : Nat} (h : st2.eval x = st.eval x) (hr : Eqv (st.eval x).ids st.heap st2.heap) : Does W st st2 (fun _ s K => opFieldAddr P (calmHand env) t x f slot s K) := by
  unfold opFieldAddr
  cases hx : st.eval x with
  | rptr v =>
    cases ho : fieldOffB P t f v with
    | false => exact Does.none (fun _ _ => by simp only [hx, ho]) (fun _ _ => by simp only [h, hx, ho])
    | true => cases hu : v.fld f with
      | none => exact Does.none (fun _ _ => by simp only [hx, ho, hu]) (fun _ _ => by simp only [h, hx, ho, hu])
      | some u => exact Does.val (some (.rptr u)) (fun _ _ => by simp only [hx, ho, hu]; rfl) (fun _ _ => by simp only [h, hx, ho, hu]; rfl)
  | ptr id p =>
    have hl := load_congr (nth_ids hx hr) p
    cases hv : load st.heap id p with
    | none => exact Does.none (fun _ _ => by simp only [hx, hv]) (fun _ _ => by simp only [h, hx, hl, hv])
    | some v =>
      cases ho : fieldOffB P t f v with
      | false => exact Does.none (fun _ _ => by simp only [hx, hv, ho]) (fun _ _ => by simp only [h, hx, hl, hv, ho])
      | true => cases hu : v.fld f with
        | none => exact Does.none (fun _ _ => by simp only [hx, hv, ho, hu]) (fun _ _ => by simp only [h, hx, hl, hv, ho, hu])
        | some u => exact Does.val (some (.ptr id (p ++ [.fld f]))) (fun _ _ => by simp only [hx, hv, ho, hu]; rfl) (fun _ _ => by simp only [h, hx, hl, hv, ho, hu]; rfl)
  | _ => exact Does.none (fun _ _ => by simp only [hx]) (fun _ _ => by simp only [h, hx])

theorem does_field {t : TypeId} {x : Operand} {f : Nat} (h : st2.eval x = st.eval x) : Does W st st2 (fun _ s K => opField P (calmHand env) t x f slot s K) := by
  unfold opField
  cases ho : fieldOffB P t f (st.eval x) with
  | false => exact Does.none (fun _ _ => by simp only [ho]) (fun _ _ => by simp only [h, ho])
  | true => cases hu : (st.eval x).fld f with
    | none => exact Does.none (fun _ _ => by simp only [ho, hu]) (fun _ _ => by simp only [h, ho, hu])
    | some u => cases hf : fits P (fieldTy P t f) u with
      | false => exact Does.none (fun _ _ => by simp only [ho, hu, hf]) (fun _ _ => by simp only [h, ho, hu, hf])
      | true => exact Does.val (some u) (fun _ _ => by simp only [ho, hu, hf]; rfl) (fun _ _ => by simp only [h, ho, hu, hf]; rfl)

theorem does_indexAddr {t : TypeId} {x i : Operand} (h : st2.eval x = st.eval x) (h' : st2.eval i = st.eval i) (hr : Eqv (st.eval x).ids st.heap st2.heap) : Does W st st2 (fun _ s K => opIndexAddr P (calmHand env) t x i slot s K) := by
  unfold opIndexAddr
  cases hi : st.eval i with
  | int k n =>
    cases hx : st.eval x with
    | dsl T l tt =>
      cases ho : sliceB P t T with
      | false => exact Does.none (fun _ _ => by simp only [hi, hx, ho]) (fun _ _ => by simp only [h, h', hi, hx, ho])
      | true => exact Does.val ((idx l n).map fun y => .rptr (inj T y)) (fun _ _ => by simp only [hi, hx, ho]; cases idx l n <;> rfl) (fun _ _ => by simp only [h, h', hi, hx, ho]; cases idx l n <;> rfl)
    | lsl id off len full =>
      have hb' : nthB st2.heap id = nthB st.heap id := hr id (by simp [hx, AV.ids, AV.rows])
      cases hb : nthB st.heap id with
      | none => exact Does.none (fun _ _ => by simp only [hi, hx, hb]) (fun _ _ => by simp only [h, h', hi, hx, hb', hb])
      | some b => cases b with
        | row T l f r =>
          cases ho : sliceB P t T with
          | false => exact Does.none (fun _ _ => by simp only [hi, hx, hb, ho]) (fun _ _ => by simp only [h, h', hi, hx, hb', hb, ho])
          | true => exact Does.val (if 0 ≤ n ∧ n < (len : Int) then some (.ptr id [.idx (off + n.toNat)]) else none) (fun _ _ => by simp only [hi, hx, hb, ho]; by_cases hc : 0 ≤ n ∧ n < (len : Int) <;> simp [hc, br, obind]) (fun _ _ => by simp only [h, h', hi, hx, hb', hb, ho]; by_cases hc : 0 ≤ n ∧ n < (len : Int) <;> simp [hc, br, obind])
        | _ => exact Does.none (fun _ _ => by simp only [hi, hx, hb]) (fun _ _ => by simp only [h, h', hi, hx, hb', hb])
    | rptr v => cases v with
      | dar m T l =>
        cases ho : arrayB P t m T with
        | false => exact Does.none (fun _ _ => by simp only [hi, hx, ho]) (fun _ _ => by simp only [h, h', hi, hx, ho])
        | true => exact Does.val ((idx l n).map fun y => .rptr (inj T y)) (fun _ _ => by simp only [hi, hx, ho]; cases idx l n <;> rfl) (fun _ _ => by simp only [h, h', hi, hx, ho]; cases idx l n <;> rfl)
      | _ => exact Does.none (fun _ _ => by simp only [hi, hx]) (fun _ _ => by simp only [h, h', hi, hx])
    | ptr id p =>
      have hl := load_congr (nth_ids hx hr) p
      cases hv : load st.heap id p with
      | none => exact Does.none (fun _ _ => by simp only [hi, hx, hv]) (fun _ _ => by simp only [h, h', hi, hx, hl, hv])
      | some v => cases v with
        | dar m T l =>
          cases ho : arrayB P t m T with
          | false => exact Does.none (fun _ _ => by simp only [hi, hx, hv, ho]) (fun _ _ => by simp only [h, h', hi, hx, hl, hv, ho])
          | true => exact Does.val (if 0 ≤ n ∧ n < (m : Int) then some (.ptr id (p ++ [.idx n.toNat])) else none) (fun _ _ => by simp only [hi, hx, hv, ho]; by_cases hc : 0 ≤ n ∧ n < (m : Int) <;> simp [hc, br, obind]) (fun _ _ => by simp only [h, h', hi, hx, hl, hv, ho]; by_cases hc : 0 ≤ n ∧ n < (m : Int) <;> simp [hc, br, obind])
        | _ => exact Does.none (fun _ _ => by simp only [hi, hx, hv]) (fun _ _ => by simp only [h, h', hi, hx, hl, hv])
    | _ => exact Does.none (fun _ _ => by simp only [hi, hx]) (fun _ _ => by simp only [h, h', hi, hx])
  | _ => exact Does.none (fun _ _ => by simp only [hi]) (fun _ _ => by simp only [h', hi])

theorem does_index {t : TypeId} {x i : Operand} (h : st2.eval x = st.eval x) (h' : st2.eval i = st.eval i) : Does W st st2 (fun _ s K => opIndex P (calmHand env) t x i slot s K) := by
  unfold opIndex
  cases hi : st.eval i with
  | int k n =>
    cases hx : st.eval x with
    | dar m T l =>
      cases ho : arrayT P t m T with
      | false => exact Does.none (fun _ _ => by simp only [hi, hx, ho]) (fun _ _ => by simp only [h, h', hi, hx, ho])
      | true => exact Does.val ((idx l n).map fun y => inj T y) (fun _ _ => by simp only [hi, hx, ho]; cases idx l n <;> rfl) (fun _ _ => by simp only [h, h', hi, hx, ho]; cases idx l n <;> rfl)
    | str s =>
      cases ho : isString P t with
      | false => exact Does.none (fun _ _ => by simp only [hi, hx, ho]) (fun _ _ => by simp only [h, h', hi, hx, ho])
      | true => exact Does.val ((idx s n).map fun y => .int .u8 y) (fun _ _ => by simp only [hi, hx, ho]; cases idx s n <;> rfl) (fun _ _ => by simp only [h, h', hi, hx, ho]; cases idx s n <;> rfl)
    | _ => exact Does.none (fun _ _ => by simp only [hi, hx]) (fun _ _ => by simp only [h, h', hi, hx])
  | _ => exact Does.none (fun _ _ => by simp only [hi]) (fun _ _ => by simp only [h', hi])

theorem does_extract {x : Operand} {i : Nat} (h : st2.eval x = st.eval x) : Does W st st2 (fun _ s K => opExtract P (calmHand env) x i slot s K) := by
  unfold opExtract
  cases hx : st.eval x with
  | tup v => cases hu : v.fld i with
    | none => exact Does.none (fun _ _ => by simp only [hx, hu]) (fun _ _ => by simp only [h, hx, hu])
    | some u => exact Does.val (some u) (fun _ _ => by simp only [hx, hu]; rfl) (fun _ _ => by simp only [h, hx, hu]; rfl)
  | _ => exact Does.none (fun _ _ => by simp only [hx]) (fun _ _ => by simp only [h, hx])

end Go.Am
