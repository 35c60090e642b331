/- Loops in whose rounds ranges over functions leave marks among the deferred calls. -/
import Derived.WalkKit
import Derived.RangeFuncNested
import Derived.Test.YtmoengfpbgpnfaaBaseI
import Derived.Test.YtmoengfpbgpnfaaBaseB
namespace Go
open Go.RowKit

def setAll : List Value → List Nat → List Value → List Value
  | l, i :: is, u :: us => setAll (l.set i u) is us
  | l, [], _ => l
  | l, _ :: _, [] => l

/-- What a function owes whose body holds ranges over functions: it returns, its marks being taken. -/
def bodyPostN (n : Nat) (P : Program) (fn : Func) (R : Ending → World → Prop) : Exit → Act → World → Prop
  | .normal, a, w | .ret, a, w => LeavesInM Fence.wide n P fn a.tmps R a.defers .returning w
  | _, _, _ => False
theorem calls_of_marks {P : Program} {f : FuncId} {fn : Func} {c : Code} {args : Array Value} {w : World} {R : Ending → World → Prop} (hf : P.funcs[f]? = some fn) (hb : fn.body = some c)
    (h : c.wp P (bodyPostN 8 P fn R) { tmps := args ++ Array.replicate (fn.ntmps - args.size) undef, defers := [] } w) : Calls P f args w R := by
  refine (callsIn_wide (n := 8)).1 (callsIn_of_wp_marks hf hb trivial (wpIn_mono (wpIn_wide.2 h) ?_) rfl)
  intro e a w h
  cases e with
  | normal => exact h
  | ret => exact h
  | panic c => exact h.elim
  | outgrown => exact h.elim
  | exit c => exact h.elim
  | goto c => exact h.elim

theorem setAll_self (l : List Value) : ∀ slots : List Nat, setAll l slots (slots.map fun i => l[i]?.getD undef) = l
  | [] => rfl
  | i :: is => by
    have h : l.set i (l[i]?.getD undef) = l := by
      by_cases hi : i < l.length
      · rw [List.getElem?_eq_getElem hi, Option.getD_some, List.set_getElem_self]
      · rw [List.set_eq_of_length_le (by omega)]
    show setAll (l.set i (l[i]?.getD undef)) is (is.map fun i => l[i]?.getD undef) = l
    rw [h]
    exact setAll_self l is

/-- A loop whose slots and deferred calls both turn. -/
theorem wp_loopM {P : Program} {c : Code} {Q : Exit → Act → World → Prop} {w : World} {l : List Value} {ds0 : List Deferred} (slots : List Nat) (rel : List Value → List Deferred → World → Prop) (μ : Act → World → Nat)
    (h0 : rel (slots.map fun i => l[i]?.getD undef) ds0 w)
    (round : ∀ us ds w, rel us ds w → c.wp P (Exit.then (fun a' w' => (∃ us' ds', a' = { tmps := (setAll l slots us').toArray, defers := ds' } ∧ rel us' ds' w') ∧ μ a' w' < μ { tmps := (setAll l slots us).toArray, defers := ds } w) Q) { tmps := (setAll l slots us).toArray, defers := ds } w) :
    (Code.loop c).wp P Q { tmps := l.toArray, defers := ds0 } w :=
  wp_loop (fun a w => ∃ us ds, a = { tmps := (setAll l slots us).toArray, defers := ds } ∧ rel us ds w) μ ⟨_, _, by rw [setAll_self], h0⟩ (fun a w ⟨us, ds, e, h⟩ => by subst e; exact round us ds w h)

theorem Marks.lt {B : Nat} : ∀ {ds : List Deferred} {w : World}, Marks B ds w → ∀ d ∈ ds, ∃ D, d = { target := .collected D, args := #[] } ∧ D < w.heap.size
  | [], _, _, d, hd => by cases hd
  | e :: ds, w, ⟨D, he, _, hD, _, hr⟩, d, hd => by
    rcases List.mem_cons.1 hd with rfl | hd
    · exact ⟨D, he, (Array.getElem?_eq_some_iff.1 hD).1⟩
    · exact hr.lt d hd
theorem Marks.chg {B : Nat} {S : Nat → Prop} {ds : List Deferred} {w w' : World} (h : Marks B ds w) (hc : Chg S w w') (hS : ∀ k, S k → ∀ x, w.heap[k]? ≠ some (.deferred x)) : Marks B ds w' :=
  h.kept fun D _ hD _ => (hc.block D (Array.getElem?_eq_some_iff.1 hD).1 (fun s => hS D s _ hD)).trans hD
theorem Marks.push {B D : Nat} {S : Nat → Prop} {ds : List Deferred} {w w' : World} (h : Marks B ds w) (hc : Chg S w w') (hS : ∀ k, S k → ∀ x, w.heap[k]? ≠ some (.deferred x)) (hB : B ≤ w.heap.size) (hD : w.heap.size ≤ D) (hW : w'.heap[D]? = some (.deferred (some []))) :
    Marks B ({ target := .collected D, args := #[] } :: ds) w' := by
  refine ⟨D, rfl, Nat.le_trans hB hD, hW, fun e he => ?_, h.chg hc hS⟩
  obtain ⟨D', rfl, h1⟩ := h.lt e he
  intro e
  injection e with e1 e2
  injection e1 with e1
  omega
theorem Blk.noDef {w : World} {b : Nat} {cs : Array Value} {T : TypeId} (h : Blk w b cs T) (x : Option (List Deferred)) : w.heap[b]? ≠ some (.deferred x) := by
  unfold Blk at h
  rw [h]
  intro e
  cases e

theorem ownFrom_chg {β : Type} {S : Nat → Prop} {w0 : World} {B : Nat} (hB : w0.heap.size ≤ B) : OwnFrom B (fun (_ : β) W => Chg S w0 W) := fun _ X Y row hs hg hr =>
  hs.then_new (Chg.of_grown hg) (fun i hi e => by have := (hr i e).1; omega)
theorem ownFrom_blk {β : Type} (B b : Nat) (T : TypeId) (f : β → Array Value) : OwnFrom B (fun s W => Blk W b (f s) T) := fun s X Y row hs hg hr => by
  refine hs.chg (Chg.of_grown hg) (fun e => ?_)
  obtain ⟨_, o, ho, hc⟩ := hr b e
  unfold Blk at hs
  rw [hs] at ho
  cases ho
  cases hc
theorem keepsFrom_of_chg {S : Nat → Prop} {W W' : World} {B : Nat} (hc : Chg S W W') (hS : ∀ k, S k → k < W.heap.size → ∃ cs T f, W.heap[k]? = some (.cells cs T f)) : KeepsFrom B W W' :=
  ⟨hc.size, fun k o _ hk ho => by
    have hlt := (Array.getElem?_eq_some_iff.1 hk).1
    rw [hc.block k hlt (fun s => by obtain ⟨cs, T, f, h⟩ := hS k s hlt; rw [h] at hk; cases hk; cases ho), hk]⟩
end Go
