/- Loops whose rounds leave marks, with the slots that turn given as a span; blocks known whole, as a list. -/
import Derived.Test.YtmoengfpbgpnfaaBaseV
import Derived.Deep.LoopGhost
namespace Go
open Go.RowKit
set_option linter.unusedVariables false

def nthV : List Value → Nat → Value
  | [], _ => undef
  | x :: _, 0 => x
  | _ :: r, n + 1 => nthV r n
/-- s slots stay, the next c ones turn. -/
def fillL (f : Nat → Value) : Nat → Nat → Nat → List Value → List Value
  | _, _, _, [] => []
  | 0, 0, _, x :: r => x :: r
  | 0, c + 1, i, x :: r => f i :: fillL f 0 c (i + 1) r
  | s + 1, c, i, x :: r => x :: fillL f s c (i + 1) r
theorem fillL_self (l0 : List Value) : ∀ (l : List Value) (s c i : Nat), (∀ j, nthV l0 (i + j) = nthV l j) → fillL (nthV l0) s c i l = l
  | [], s, c, i, _ => by cases s <;> cases c <;> rfl
  | x :: r, 0, 0, i, _ => rfl
  | x :: r, 0, c + 1, i, h => by
    show nthV l0 i :: fillL (nthV l0) 0 c (i + 1) r = x :: r
    rw [show nthV l0 i = x from h 0, fillL_self l0 r 0 c (i + 1) (fun j => by rw [← show nthV (x :: r) (j + 1) = nthV r j from rfl, ← h]; congr 1; omega)]
  | x :: r, s + 1, c, i, h => by
    show x :: fillL (nthV l0) s c (i + 1) r = x :: r
    rw [fillL_self l0 r s c (i + 1) (fun j => by rw [← show nthV (x :: r) (j + 1) = nthV r j from rfl, ← h]; congr 1; omega)]
theorem nthV_get (l : List Value) (i : Nat) : nthV l i = l[i]?.getD undef := by
  induction l generalizing i with
  | nil => simp [nthV]
  | cons x r ih => cases i <;> simp [nthV, ih]
theorem setAll_self2 (l : List Value) (keys : List Nat) : setAll l keys (keys.map (nthV l)) = l := by
  rw [show (nthV l) = (fun i => l[i]?.getD undef) from funext (nthV_get l)]
  exact setAll_self l keys

def RoundEnd (l : List Value) (keys : List Nat) (s c : Nat) (rel : Nat → List Value → List Deferred → World → Prop) (k : Nat) (a' : Act) (w' : World) : Prop :=
  ∃ us' k', a'.tmps = (setAll (fillL (nthV a'.tmps.toList) s c 0 l) keys us').toArray ∧ rel k' us' a'.defers w' ∧ k' < k
theorem RoundEnd.intro {l : List Value} {keys : List Nat} {s c k : Nat} {rel : Nat → List Value → List Deferred → World → Prop} {w' : World} {tm : List Value} {ds : List Deferred} (us' : List Value) (k' : Nat)
    (h : tm = setAll (fillL (nthV tm) s c 0 l) keys us') (hm : k' < k) (hr : rel k' us' ds w') : RoundEnd l keys s c rel k { tmps := tm.toArray, defers := ds } w' :=
  ⟨us', k', by dsimp only; exact congrArg List.toArray h, hr, hm⟩

/-- A loop whose slots and deferred calls both turn; the relation bears a number that each round lowers. -/
theorem wp_loopN {P : Program} {body : Code} {Q : Exit → Act → World → Prop} {w : World} {l : List Value} {ds0 : List Deferred} (keys : List Nat) (s c k0 : Nat) (rel : Nat → List Value → List Deferred → World → Prop)
    (h0 : rel k0 (keys.map (nthV l)) ds0 w)
    (round : ∀ f k us ds w, rel k us ds w → body.wp P (Exit.then (RoundEnd l keys s c rel k) Q) { tmps := (setAll (fillL f s c 0 l) keys us).toArray, defers := ds } w) :
    (Code.loop body).wp P Q { tmps := l.toArray, defers := ds0 } w := by
  refine wp_loop_ghost (fun k a w => ∃ us, a.tmps = (setAll (fillL (nthV a.tmps.toList) s c 0 l) keys us).toArray ∧ rel k us a.defers w) k0 ⟨keys.map (nthV l), ?_, h0⟩ ?_
  · rw [fillL_self l l s c 0 (fun j => by rw [Nat.zero_add]), setAll_self2]
  · rintro k a w ⟨us, ht, hr⟩
    obtain ⟨f, hf⟩ : ∃ f, a.tmps = (setAll (fillL f s c 0 l) keys us).toArray := ⟨_, ht⟩
    obtain ⟨tm, ds⟩ := a
    simp only at hf hr ⊢
    subst hf
    refine wp_mono (round f k us ds w hr) ?_
    rintro e a' w' hq
    cases e with
    | normal =>
      obtain ⟨us', k', h1, h2, h3⟩ := hq
      exact ⟨k', h3, us', h1, h2⟩
    | exit id => exact hq
    | goto l => exact hq
    | ret => exact hq
    | panic ch => exact hq
    | outgrown => exact hq

/-- Blocks of one cell. -/
def Hd (L : List (Nat × Value × TypeId)) (w : World) : Prop := ∀ p ∈ L, Blk w p.1 #[p.2.1] p.2.2
namespace Hd
variable {L L' : List (Nat × Value × TypeId)} {w w' : World} {b : Nat} {v : Value} {T : TypeId}
theorem blk (h : Hd L w) (hm : (b, v, T) ∈ L) : Blk w b #[v] T := h _ hm
theorem cell (h : Hd L w) (hm : (b, v, T) ∈ L) : w.cell? ⟨b, 0, none⟩ = some v := (h _ hm).cellAt rfl
theorem lt (h : Hd L w) (hm : (b, v, T) ∈ L) : b < w.heap.size := (h _ hm).lt
theorem frozen (h : Hd L w) (hm : (b, v, T) ∈ L) : w.frozen? ⟨b, 0, none⟩ = false := (h _ hm).frozen 0
theorem nil (w : World) : Hd [] w := fun _ h => by cases h
theorem cons (h : Hd L w) (hb : Blk w b #[v] T) : Hd ((b, v, T) :: L) w := fun p hp => by
  rcases List.mem_cons.1 hp with rfl | hp
  · exact hb
  · exact h _ hp
theorem sub (h : Hd L w) (hL : ∀ p ∈ L', p ∈ L) : Hd L' w := fun p hp => h p (hL p hp)
theorem chg {S : Nat → Prop} (h : Hd L w) (k : Chg S w w') (hS : ∀ p ∈ L, ¬ S p.1) : Hd L' w' → Hd (L ++ L') w' := fun h' p hp => by
  rcases List.mem_append.1 hp with hp | hp
  · exact (h p hp).chg k (hS p hp)
  · exact h' p hp
theorem keep {S : Nat → Prop} (h : Hd L w) (k : Chg S w w') (hS : ∀ p ∈ L, ¬ S p.1) : Hd L w' := fun p hp => (h p hp).chg k (hS p hp)
theorem below {B : Nat} (h : Hd L w) (k : Below B w w') (hB : w.heap.size ≤ B) : Hd L w' := fun p hp => (h p hp).below k (Nat.lt_of_lt_of_le (h p hp).lt hB)
theorem alloc (h : Hd L w) (v : Value) (T : TypeId) : Hd ((w.heap.size, v, T) :: L) (w.alloc (.cells #[v] T)) := (h.keep ((Chg.refl (fun _ => False) w).alloc _) (fun _ _ h => h)).cons (Blk.new _ _ _)
theorem drewN (h : Hd L w) (n : Nat) : Hd L (w.drewN n) := fun p hp => (h p hp).drewN n
theorem drew (h : Hd L w) : Hd L w.drew := fun p hp => (h p hp).drew
theorem set (h : Hd L w) (hm : (b, v, T) ∈ L) (v' : Value) (hL : ∀ p ∈ L', p = (b, v', T) ∨ (p ∈ L ∧ p.1 ≠ b)) : Hd L' (w.setCell ⟨b, 0, none⟩ v') := fun p hp => by
  rcases hL p hp with rfl | ⟨h1, h2⟩
  · exact (h _ hm).set 0 v'
  · exact (h p h1).set_other (p := ⟨b, 0, none⟩) h2 v'
theorem grown {row : Option Nat} (h : Hd L w) (hg : w.grownBy w' row) (hr : ∀ r, row = some r → ∃ o : Obj, w.heap[r]? = some o ∧ o.isCells = false) : Hd L w' := h.keep (Chg.of_grown hg) (fun p hp e => by
  obtain ⟨o, h1, h2⟩ := hr _ e
  have := h p hp
  unfold Blk at this
  rw [this] at h1
  cases h1
  cases h2)
theorem own {β : Type} (B : Nat) (F : β → List (Nat × Value × TypeId)) : OwnFrom B (fun s W => Hd (F s) W) := fun s X Y row hs hg hr => hs.grown hg (fun r e => (hr r e).2)
theorem shut {B : Nat} (h : Hd L w) (hs : ShutM B w w') : Hd L w' := fun p hp => by
  have h1 := h p hp
  have := hs.same p.1 h1.noDef
  unfold Blk at *
  rw [this, h1]
end Hd
end Go
