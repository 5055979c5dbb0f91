/-
  AM: configurations by tables, pieces of code by name, ways joined.
-/
import Derived.Test.YtjfgannabdaemaaGreatAm28
import Derived.KernelRfl
set_option linter.all false
namespace Go.Am
set_option linter.unusedSimpArgs false

noncomputable def assocN {α : Type} (l : List (Nat × α)) (f : Nat) : Option α :=
  List.rec (motive := fun _ => Option α) none (fun p _ ih => match Nat.beq p.1 f with | true => some p.2 | false => ih) l

structure KeepRow where
  f : Nat
  key : Nat
  head : List Nat
  exits : List (Nat × List Nat)

noncomputable def keepHead (l : List KeepRow) (f key : Nat) : List Nat :=
  List.rec (motive := fun _ => List Nat) [] (fun p _ ih => match Nat.beq p.f f && Nat.beq p.key key with | true => p.head | false => ih) l

noncomputable def findExit (l : List (Nat × List Nat)) (e : Nat) : List Nat :=
  List.rec (motive := fun _ => List Nat) [] (fun p _ ih => match Nat.beq p.1 e with | true => p.2 | false => ih) l

noncomputable def keepExit (l : List KeepRow) (f key e : Nat) : List Nat :=
  List.rec (motive := fun _ => List Nat) [] (fun p _ ih => match Nat.beq p.f f && Nat.beq p.key key with | true => findExit p.exits e | false => ih) l

noncomputable def mkCfg (P : Program) (env : List (Nat × Fn)) (keep : List KeepRow) (force : Bool) (N : Nat) : Cfg :=
  { P := P, env := assocN env, cuts := fun _ _ => none, keepH := keepHead keep, keepX := keepExit keep, rounds := N + 100, force := force }

noncomputable def _root_.Go.Code.s1 : Code → Code | .seq a _ => a | _ => .skip
noncomputable def _root_.Go.Code.s2 : Code → Code | .seq _ b => b | _ => .skip
noncomputable def _root_.Go.Code.ct : Code → Code | .cond _ a _ => a | _ => .skip
noncomputable def _root_.Go.Code.ce : Code → Code | .cond _ _ b => b | _ => .skip
noncomputable def _root_.Go.Code.bd : Code → Code | .block _ c => c | .loop c => c | .scope c => c | _ => .skip
noncomputable def opsOf : Code → Array Oper | .region _ ops _ => ops | _ => #[]
noncomputable def bodyF (fn : Func) : Code := match fn.body with | some c => c | none => .skip

noncomputable def bAnd (k : IntKind) (x y : Int) : Int := k.wrap ((BitVec.ofInt k.bits x &&& BitVec.ofInt k.bits y).toNat : Nat)
noncomputable def bOr (k : IntKind) (x y : Int) : Int := k.wrap ((BitVec.ofInt k.bits x ||| BitVec.ofInt k.bits y).toNat : Nat)
noncomputable def bXor (k : IntKind) (x y : Int) : Int := k.wrap ((BitVec.ofInt k.bits x ^^^ BitVec.ofInt k.bits y).toNat : Nat)
noncomputable def bAndNot (k : IntKind) (x y : Int) : Int := k.wrap ((BitVec.ofInt k.bits x &&& ~~~BitVec.ofInt k.bits y).toNat : Nat)

/-- a loop, from a round's head on -/
noncomputable def loopR {R : Type} (cfg : Cfg) (n : Nat) (f : FuncId) (c : Code) (k : Nat) (st : St) (K : Ex → St → Option R) : Option R :=
  roundsK cfg.force (fun st K => exec cfg (inl cfg n) f c st K) (gc (cfg.keepH f (Code.key c))) k st (exitK (cfg.keepX f (Code.key c)) K)

section
variable {R : Type}

theorem obind_br {α : Type} (c : Bool) (a b : Option α) (k : α → Option R) : obind (br c a b) k = br c (obind a k) (obind b k) := by cases c <;> rfl
theorem obind_obind {α β : Type} (a : Option α) (f : α → Option β) (k : β → Option R) : obind (obind a f) k = obind a fun x => obind (f x) k := by cases a <;> rfl
theorem obind_none {α : Type} (k : α → Option R) : obind none k = none := rfl
theorem obind_some_eq {α : Type} (a : α) (k : α → Option R) : obind (some a) k = k a := rfl
theorem agree_self (x : Option R) : agree x x = x := by unfold agree; exact if_pos rfl
end

theorem cuts_none {cfg : Cfg} (h : ∀ f k, cfg.cuts f k = none) : ∀ N Hd S0 w0, CutsOK cfg N Hd S0 w0 := by
  intro N Hd S0 w0 f c cut _ hc
  rw [h] at hc
  cases hc

/-- contracts of a table -/
def SoundL (P : Program) : List (Nat × Fn) → Prop
  | [] => True
  | p :: l => Sound P p.1 p.2 ∧ SoundL P l

theorem soundL_env {P : Program} : ∀ {l : List (Nat × Fn)}, SoundL P l → ∀ f F, assocN l f = some F → Sound P f F := by
  intro l
  induction l with
  | nil => intro _ f F h; cases h
  | cons p l ih =>
    intro h f F hf
    have e : assocN (p :: l) f = (match Nat.beq p.1 f with | true => some p.2 | false => assocN l f) := rfl
    rw [e] at hf
    split at hf
    · rename_i hb
      cases hf
      rw [← Nat.eq_of_beq_eq_true hb]
      exact h.1
    · exact ih h.2 f F hf

/-- a run over a table of contracts -/
theorem sound_of {P : Program} {env : List (Nat × Fn)} {keep : List KeepRow} {force : Bool} {N : Nat} {fn : Func} {f n : Nat} {ps res : Ty} {nres : Nat} (hP : Plain P) (he : SoundL P env)
    (hf : P.funcs[f]? = some fn) (hb : fn.body.isNone = false) (hn : fn.results.size = nres) (hr : res.noFr = true) : Sound P f (.fn ps res nres (runFn (mkCfg P env keep force N) n f ps res nres)) :=
  run_sound (cfg := mkCfg P env keep force N) hP (cuts_none fun _ _ => rfl) (fun f F h => soundL_env he f F h) hf hb hn hr

/-- a contract that says no more -/
theorem Sound.less {P : Program} {f : Nat} {ps res : Ty} {nres : Nat} {g h : ps.den → Option res.den} (hs : Sound P f (.fn ps res nres g)) (e : ∀ p r, h p = some r → g p = some r) : Sound P f (.fn ps res nres h) :=
  ⟨hs.1, fun p r hr => hs.2 p r (e p r hr)⟩

theorem plain_of {P : Program} (h : P.funcs.toList.all (fun fn => !(fn.name == "runtime.NumGoroutine")) = true) : Plain P := by
  intro f fn hf
  have hm : fn ∈ P.funcs.toList := by
    have := Array.mem_of_getElem? hf
    simpa using this
  have := List.all_eq_true.1 h fn hm
  simpa using this

end Go.Am
