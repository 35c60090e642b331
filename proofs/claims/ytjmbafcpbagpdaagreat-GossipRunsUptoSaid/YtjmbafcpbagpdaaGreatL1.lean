/- A region that draws its order, whose first n operations are quiet (they read, compute, or call what only reads and draws) and whose last operations come in a forced order behind them: one walk, in the order of the text. -/
import Derived.StillTail
import Derived.StillTactics
import Derived.Deep.Quiet
import Derived.Deep.QuietTactic
import Derived.BigQuiet
import Derived.Below
import Derived.WalkKit
import Derived.Deep.Draws
import Derived.Lib.Hide
import Derived.Deep.Slices
import Derived.ChangeOld
import Derived.OpenShut
import Derived.WideShapes
import Derived.ChangeArms
import Derived.Laws.AppendOwnNone
import Derived.RangeFuncBox
import Derived.Maps.AppendAt
import Derived.SizedLaws
import Derived.OwnWalk
import Derived.Deep.AppendLies
import Derived.OrdersHeld
import Derived.Deep.RegionHeld
import Derived.Lib.AppendStr
import Derived.Lib.AppendZeros
import Derived.Laws.BitsLemmas
import Derived.Laws.OwnMore
namespace Go
section
variable {P : Program} {ops : Array Oper} {md : Region.Mode} {C : World → Prop}

def wpAnyLQ (P : Program) (md : Region.Mode) (ops : Array Oper) (C : World → Prop) (n : Nat) (L : Array Bool → Act → Prop) : Nat → Array Bool → Act → Prop
  | 0, listed, a => L listed a
  | f + 1, listed, a =>
    Region.ready md ops listed ≠ [] ∧ ∀ i ∈ Region.ready md ops listed, i < n ∧ qOp P ops C i (wpAnyLQ P md ops C n L f (listed.setIfInBounds i true)) a

theorem wpAny_of_headQ {n g : Nat} {L : Array Bool → Act → Prop} {Q' : Exit → Act → World → Prop} (hL : ∀ listed a w, C w → L listed a → wpAny P md ops Q' g listed a w) :
    ∀ (f : Nat) (listed : Array Bool) (a : Act) (w : World), C w → wpAnyLQ P md ops C n L f listed a → wpAny P md ops Q' (f + g) listed a w
  | 0, listed, a, w, hw, h => by rw [Nat.zero_add]; exact hL _ _ _ hw h
  | f + 1, listed, a, w, hw, h => by
    rw [show f + 1 + g = (f + g) + 1 by omega]
    exact ⟨fun h0 => absurd h0 h.1, fun i hi => wpOp_of_qOp hw (fun a' w' hw' h' => wpAny_of_headQ hL f _ a' w' hw' h') (h.2 i hi).2⟩

theorem wpAnyLQ_first {n i : Nat} {oi : Oper} {v : Value} {L : Array Bool → Act → Prop} (hi : ops[i]? = some oi) (hsel : ∀ (j : Nat) (o : Oper) cs b, ops[j]? = some o → o.op ≠ .select cs b)
    (hs : Region.sinkB md ops n = true) (hc : Region.chainB md ops n = true) (hn : n < ops.size) (hin : i < n)
    (hdone : ∀ listed a, L listed a → ∀ j ∈ Region.ready md ops listed, n ≤ j) :
    ∀ (f : Nat) (listed : Array Bool) (a : Act), HeadInv md ops n listed →
      (∀ j oj, ops[j]? = some oj → j ≠ i → listed.getD j true = false → (∀ e ∈ oj.after, Region.binds md e = true → e.on ≠ i) → oi.apart ops oj = true) →
      i ∈ Region.ready md ops listed → YieldsIn P ops C oi v a →
      wpAnyLQ P md ops C n L f (listed.setIfInBounds i true) (a.put oi.dst v) → wpAnyLQ P md ops C n L (f + 1) listed a := by
  intro f
  induction f with
  | zero =>
    intro listed a inv _ hr hy H
    refine ⟨fun h => (by rw [h] at hr; cases hr), fun j hj => ?_⟩
    have hjn : j < n := by
      rcases Nat.lt_or_ge j n with h | h
      · exact h
      · exact absurd hj (tail_waits hs hc hn inv _ i rfl hin (mem_ready.1 hr).1 j h)
    refine ⟨hjn, ?_⟩
    by_cases hji : j = i
    · subst hji; exact hy.qOp hi H
    · have := hdone _ _ H j (ready_mono hj hji)
      omega
  | succ f ih =>
    intro listed a inv hfree hr hy H
    have hun := (mem_ready.1 hr).1
    refine ⟨fun h => (by rw [h] at hr; cases hr), fun j hj => ?_⟩
    have hjn : j < n := by
      rcases Nat.lt_or_ge j n with h | h
      · exact h
      · exact absurd hj (tail_waits hs hc hn inv _ i rfl hin hun j h)
    refine ⟨hjn, ?_⟩
    by_cases hji : j = i
    · subst hji; exact hy.qOp hi H
    · have h1 := (H.2 j (ready_mono hj hji)).2
      obtain ⟨hjun, oj, hoj, hall⟩ := mem_ready.1 hj
      have hnot : ∀ e ∈ oj.after, Region.binds md e = true → e.on ≠ i := fun e he hb heq => by
        have h1 := hall e he hb
        rw [heq, getD_both hun] at h1
        cases h1
      have h2 := qOp_put hoj (hfree j oj hoj hji hjun hnot) (fun cs b => hsel i oi cs b hi) (fun cs b => hsel j oj cs b hoj) hy h1
      have hfree' : ∀ k ok, ops[k]? = some ok → k ≠ i → (listed.setIfInBounds j true).getD k true = false →
          (∀ e ∈ ok.after, Region.binds md e = true → e.on ≠ i) → oi.apart ops ok = true := fun k ok hk hki hun hno => by
        refine hfree k ok hk hki ?_ hno
        by_cases hjk : j = k
        · subst hjk; exact hjun
        · rw [getD_set_ne true hjk] at hun; exact hun
      refine qOp_mono (fun a' h3 => ih (listed.setIfInBounds j true) a' (inv.set hj hjn) hfree' (ready_mono hr (Ne.symm hji)) h3.1 ?_) h2
      rw [Array.setIfInBounds_comm _ _ hji]
      exact h3.2

theorem wpAnyLQ_lex {n g : Nat} {Lq : Act → Prop} (hsel : Region.noSelect ops = true) (hs : Region.sinkB md ops n = true) (hc : Region.chainB md ops n = true) (hn : n < ops.size) :
    ∀ (l : List Oper) (k : Nat) (listed : Array Bool) (a : Act), (∀ j, j < l.length → l[j]? = ops[k + j]?) → k + l.length = n → HeadInv md ops n listed →
    Region.lexHead md ops g l.length k listed = true → wpQuiet P ops C Lq l a →
    wpAnyLQ P md ops C n (fun listed' a' => Region.seqB md ops g n listed' = true ∧ Lq a') l.length listed a
  | [], k, listed, a, _, hk, _, hB, h => by
    have : k = n := by simpa using hk
    subst this
    exact ⟨by simpa [Region.lexHead] using hB, h⟩
  | o :: l, k, listed, a, hl, hk, inv, hB, h => by
    have h0 : ops[k]? = some o := by simpa using (hl 0 (by simp)).symm
    simp only [List.length_cons, Region.lexHead, Bool.and_eq_true] at hB
    obtain ⟨⟨hr, hf⟩, hB'⟩ := hB
    have hkn : k < n := by simp only [List.length_cons] at hk; omega
    have hr' : k ∈ Region.ready md ops listed := by simpa using hr
    have hst : qOp P ops C k (wpQuiet P ops C Lq l) a := by unfold qOp; simp only [h0]; exact h
    obtain ⟨v, hy, hK⟩ := yieldsIn_of_qOp h0 hst
    exact wpAnyLQ_first h0 (Region.noSelect_spec hsel) hs hc hn hkn (fun listed' a' hL => seqB_ready hL.1) l.length listed a inv (Region.free_spec h0 hf) hr' hy
      (wpAnyLQ_lex hsel hs hc hn l (k + 1) _ _ (fun j hj => by have := hl (j + 1) (by simp; omega); simpa [Nat.add_assoc, Nat.add_comm 1 j] using this) (by simp only [List.length_cons] at hk; omega) (inv.set hr' hkn) hB' hK)

theorem wp_region_quiet_tail {id : Nat} {Q : Exit → Act → World → Prop} {a : Act} {w : World} {l : List Oper} (n : Nat) (hm : P.follows .mixedOrders = true) (hB : Region.lexTailB .any l.toArray n = true)
    (h : wpQuiet P l.toArray (fun w' => ∃ m, w' = w.drewN m) (fun a' => ∀ w', (∃ m, w' = w.drewN m) → wpList P l.toArray Q (l.drop n) a' w') (l.take n) a) : (Code.region id l.toArray true).wp P Q a w := by
  simp only [Region.lexTailB, Bool.and_eq_true, decide_eq_true_eq] at hB
  obtain ⟨⟨⟨⟨hsel, hn⟩, hs⟩, hc⟩, hlex⟩ := hB
  have hn' : n < l.length := by simpa using hn
  have htl : (l.take n).length = n := by simp; omega
  have hdl : (l.drop n).length = l.toArray.size - n := by simp
  have inv0 : HeadInv .any l.toArray n (Array.replicate l.toArray.size false) :=
    ⟨by simp, fun j oj _ hl => (by rw [getD_replicate_false] at hl; cases hl), fun t _ ht => getD_in (by simpa using ht) (getD_replicate_false _ _)⟩
  have H := wpAnyLQ_lex (md := .any) (g := l.toArray.size - n) hsel hs hc hn (l.take n) 0 _ a (fun j hj => by
    have hj' : j < n := by rw [htl] at hj; exact hj
    simp [hj']) (by simpa using htl) inv0 (by rw [htl]; exact hlex) h
  refine wp_region_any hm ?_
  have := wpAny_of_headQ (Q' := Q) (g := l.toArray.size - n) (C := fun w' => ∃ m, w' = w.drewN m) (fun listed a' w' hw' hL => by
    have := wpAny_of_seq (md := .any) (Q' := Q) (l.drop n) n listed a' w' (fun j => by simp [List.getElem?_drop]) (by rw [hdl]; exact hL.1) (hL.2 w' hw')
    rwa [hdl] at this) _ _ _ { w with drawn := w.drawn + 1 } ⟨1, rfl⟩ H
  rw [htl, show n + (l.toArray.size - n) = l.toArray.size by omega] at this
  exact this

/-- A class of worlds: what was there in w is there as it was. Calls that make memory leave such a world. -/
structure Wd (w : World) where
  v : World
  h : RowKit.Below w.heap.size w v

instance (w : World) : Nonempty (Wd w) := ⟨⟨w, RowKit.Below.refl _ w⟩⟩

theorem Wd.mkDrew (w : World) : ∃ u : Wd w, { w with drawn := w.drawn + 1 } = u.v := ⟨⟨{ w with drawn := w.drawn + 1 }, (RowKit.Below.refl _ w).drew⟩, rfl⟩
theorem Wd.cell {w : World} {a : Addr} {x : Value} (h : w.cell? a = some x) (hl : a.block < w.heap.size) : ∀ u : Wd w, u.v.cell? a = some x := fun u => (u.h.cell hl).trans h

/-- A callee that makes memory alone, in a world of the class. -/
theorem Calls.quiet_below {f : FuncId} {args : Array Value} {w : World} {u : Wd w} {v : Value}
    (h : Calls P f args u.v fun e w' => e = .returned v ∧ RowKit.Below u.v.heap.size u.v w') : Calls P f args u.v fun e w'' => e = .returned v ∧ ∃ u' : Wd w, w'' = u'.v :=
  h.mono fun _ w'' ⟨he, hb⟩ => ⟨he, ⟨w'', u.h.trans (hb.mono u.h.size)⟩, rfl⟩
theorem Calls.quiet_below_same {f : FuncId} {args : Array Value} {w : World} {u : Wd w} {v : Value}
    (h : Calls P f args u.v fun e w' => e = .returned v ∧ w' = u.v) : Calls P f args u.v fun e w'' => e = .returned v ∧ ∃ u' : Wd w, w'' = u'.v :=
  h.mono fun _ _ ⟨he, hm⟩ => ⟨he, u, hm⟩

theorem wp_region_below {id : Nat} {Q : Exit → Act → World → Prop} {a : Act} {w : World} {l : List Oper} (hm : P.follows .mixedOrders = true) (hB : Region.lexB .any l.toArray = true)
    (h : wpQuiet P l.toArray (fun w' => ∃ u : Wd w, w' = u.v) (fun a' => ∀ w', (∃ u : Wd w, w' = u.v) → Q .normal a' w') l a) : (Code.region id l.toArray true).wp P Q a w :=
  wp_region_quiet (C := fun w' => ∃ u : Wd w, w' = u.v) hm hB (Wd.mkDrew w) (by simpa using h)

theorem wp_region_below_tail {id : Nat} {Q : Exit → Act → World → Prop} {a : Act} {w : World} {l : List Oper} (n : Nat) (hm : P.follows .mixedOrders = true) (hB : Region.lexTailB .any l.toArray n = true)
    (h : wpQuiet P l.toArray (fun w' => ∃ u : Wd w, w' = u.v) (fun a' => ∀ w', (∃ u : Wd w, w' = u.v) → wpList P l.toArray Q (l.drop n) a' w') (l.take n) a) : (Code.region id l.toArray true).wp P Q a w := by
  simp only [Region.lexTailB, Bool.and_eq_true, decide_eq_true_eq] at hB
  obtain ⟨⟨⟨⟨hsel, hn⟩, hs⟩, hc⟩, hlex⟩ := hB
  have hn' : n < l.length := by simpa using hn
  have htl : (l.take n).length = n := by simp; omega
  have hdl : (l.drop n).length = l.toArray.size - n := by simp
  have inv0 : HeadInv .any l.toArray n (Array.replicate l.toArray.size false) :=
    ⟨by simp, fun j oj _ hl => (by rw [getD_replicate_false] at hl; cases hl), fun t _ ht => getD_in (by simpa using ht) (getD_replicate_false _ _)⟩
  have H := wpAnyLQ_lex (md := .any) (g := l.toArray.size - n) hsel hs hc hn (l.take n) 0 _ a (fun j hj => by
    have hj' : j < n := by rw [htl] at hj; exact hj
    simp [hj']) (by simpa using htl) inv0 (by rw [htl]; exact hlex) h
  refine wp_region_any hm ?_
  have := wpAny_of_headQ (Q' := Q) (g := l.toArray.size - n) (C := fun w' => ∃ u : Wd w, w' = u.v) (fun listed a' w' hw' hL => by
    have := wpAny_of_seq (md := .any) (Q' := Q) (l.drop n) n listed a' w' (fun j => by simp [List.getElem?_drop]) (by rw [hdl]; exact hL.1) (hL.2 w' hw')
    rwa [hdl] at this) _ _ _ { w with drawn := w.drawn + 1 } (Wd.mkDrew w) H
  rw [htl, show n + (l.toArray.size - n) = l.toArray.size by omega] at this
  exact this
end
end Go

/- A world in which only the blocks of a set S may have changed, and new ones may have come. -/
namespace Go
open Go.RowKit

structure Chg (S : Nat → Prop) (w w' : World) : Prop where
  os : w'.os = w.os
  tape : w'.tape = w.tape
  output : w'.output = w.output
  size : w.heap.size ≤ w'.heap.size
  block : ∀ k, k < w.heap.size → ¬ S k → w'.heap[k]? = w.heap[k]?

namespace Chg
variable {S T : Nat → Prop} {a b c w w' : World}

theorem refl (S : Nat → Prop) (w : World) : Chg S w w := ⟨rfl, rfl, rfl, Nat.le_refl _, fun _ _ _ => rfl⟩

theorem mono (h : Chg S a b) (hs : ∀ k, k < a.heap.size → S k → T k) : Chg T a b :=
  ⟨h.os, h.tape, h.output, h.size, fun k hk hn => h.block k hk fun hsk => hn (hs k hk hsk)⟩

theorem trans (h : Chg S a b) (k : Chg S b c) : Chg S a c :=
  ⟨k.os.trans h.os, k.tape.trans h.tape, k.output.trans h.output, Nat.le_trans h.size k.size,
    fun i hi hn => (k.block i (Nat.lt_of_lt_of_le hi h.size) hn).trans (h.block i hi hn)⟩

/-- The second step may change besides what is new since a. -/
theorem then_new (h : Chg S a b) (k : Chg T b c) (hT : ∀ i, i < a.heap.size → T i → S i) : Chg S a c :=
  ⟨k.os.trans h.os, k.tape.trans h.tape, k.output.trans h.output, Nat.le_trans h.size k.size,
    fun i hi hn => (k.block i (Nat.lt_of_lt_of_le hi h.size) fun ht => hn (hT i hi ht)).trans (h.block i hi hn)⟩

theorem drewN (h : Chg S a b) (n : Nat) : Chg S a (b.drewN n) := ⟨h.os, h.tape, h.output, h.size, h.block⟩
theorem drew (h : Chg S a b) : Chg S a b.drew := ⟨h.os, h.tape, h.output, h.size, h.block⟩

theorem alloc (h : Chg S a b) (o : Obj) : Chg S a (b.alloc o) :=
  ⟨h.os, h.tape, h.output, by have := h.size; simp; omega, fun i hi hn => by
    have := h.size
    rw [Below.heap_alloc _ _ _ (by omega)]; exact h.block i hi hn⟩

theorem setCell (h : Chg S a b) (p : Addr) (u : Value) (hp : p.block < a.heap.size → S p.block) : Chg S a (b.setCell p u) :=
  ⟨h.os, h.tape, h.output, by have := h.size; simpa [World.setCell] using this, fun i hi hn => by
    rw [Below.heap_setCell b p u i (fun e => hn (by rw [e]; exact hp (by rw [← e]; exact hi)))]; exact h.block i hi hn⟩

theorem of_below {B : Nat} (h : Below B a b) : Chg (B ≤ ·) a b :=
  ⟨h.os, h.tape, h.output, h.size, fun k _ hn => h.block k (by omega)⟩

theorem below {B : Nat} (h : Chg S a b) (hB : B ≤ a.heap.size) (hs : ∀ k, k < B → ¬ S k) : Below B a b :=
  ⟨h.os, h.tape, h.output, h.size, fun k hk => h.block k (by omega) (hs k hk)⟩

theorem of_grown {row : Option Nat} (h : a.grownBy b row) : Chg (fun k => row = some k) a b :=
  ⟨h.os, h.tape, h.output, h.size, fun k hk hn => h.block k hk fun e => hn e.symm⟩

theorem cell (h : Chg S a b) {p : Addr} (hp : p.block < a.heap.size) (hn : ¬ S p.block) : b.cell? p = a.cell? p := World.cell?_of_block (w := a) (h.block _ hp hn)
theorem frozen (h : Chg S a b) {p : Addr} (hp : p.block < a.heap.size) (hn : ¬ S p.block) : b.frozen? p = a.frozen? p := World.frozen?_of_block (w := a) (h.block _ hp hn)
end Chg

theorem World.lt_of_cell {w : World} {p : Addr} {v : Value} (h : w.cell? p = some v) : p.block < w.heap.size := by
  rcases Nat.lt_or_ge p.block w.heap.size with h' | h'
  · exact h'
  · simp [World.cell?, Array.getElem?_eq_none h'] at h
/-- Block b is a row of just these cells, none of them frozen. -/
def Blk (w : World) (b : Nat) (cs : Array Value) (T : TypeId) : Prop := w.heap[b]? = some (.cells cs T (0, 0))

namespace Blk
variable {w w' : World} {b : Nat} {cs : Array Value} {T : TypeId} {S : Nat → Prop}

theorem lt (h : Blk w b cs T) : b < w.heap.size := (Array.getElem?_eq_some_iff.1 h).1
theorem cell (h : Blk w b cs T) (i : Nat) : w.cell? ⟨b, i, none⟩ = cs[i]? := by
  unfold Blk at h
  simp [World.cell?, h]
theorem cellAt (h : Blk w b cs T) {i : Nat} {v : Value} (hv : cs[i]? = some v) : w.cell? ⟨b, i, none⟩ = some v := (h.cell i).trans hv
theorem frozen (h : Blk w b cs T) (i : Nat) : w.frozen? ⟨b, i, none⟩ = false := by
  unfold Blk at h
  simp [World.frozen?, h]
theorem set (h : Blk w b cs T) (i : Nat) (v : Value) : Blk (w.setCell ⟨b, i, none⟩ v) b (cs.setIfInBounds i v) T := by
  unfold Blk at *
  simp [World.setCell, Array.getElem?_modify, h]
theorem set_other (h : Blk w b cs T) {p : Addr} (hp : b ≠ p.block) (v : Value) : Blk (w.setCell p v) b cs T := by
  unfold Blk at *
  rw [Below.heap_setCell _ _ _ _ hp, h]
theorem drewN (h : Blk w b cs T) (n : Nat) : Blk (w.drewN n) b cs T := h
theorem drew (h : Blk w b cs T) : Blk w.drew b cs T := h
theorem alloc (h : Blk w b cs T) (o : Obj) : Blk (w.alloc o) b cs T := by
  have := h.lt
  unfold Blk at *
  rw [Below.heap_alloc _ _ _ this, h]
theorem chg (h : Blk w b cs T) (k : Chg S w w') (hn : ¬ S b) : Blk w' b cs T := by
  have := h.lt
  unfold Blk at *
  rw [k.block _ this hn, h]
theorem below {B : Nat} (h : Blk w b cs T) (k : Below B w w') (hn : b < B) : Blk w' b cs T := by
  unfold Blk at *
  rw [k.block _ hn, h]
theorem new (w : World) (cs : Array Value) (T : TypeId) : Blk (w.alloc (.cells cs T)) w.heap.size cs T := by
  unfold Blk
  show (w.heap.push _)[w.heap.size]? = _
  rw [Array.getElem?_push, if_pos rfl]
end Blk
theorem below_drewN {B : Nat} {w w' : World} (h : Below B w w') (n : Nat) : Below B w (w'.drewN n) := ⟨h.os, h.tape, h.output, h.size, h.block⟩
end Go

/- What a slice of whatever elements that came in reads as: a list; and how it stays so while only new memory is written. -/
namespace Go
open Go.RowKit Go.ChangeShapes Go.WideShapes

theorem list_of_all {α : Type} {n : Nat} {p : Nat → α → Prop} (h : ∀ i, i < n → ∃ a, p i a) : ∃ xs : List α, xs.length = n ∧ ∀ i (hi : i < xs.length), p i xs[i] := by
  induction n with
  | zero => exact ⟨[], rfl, fun i hi => absurd hi (Nat.not_lt_zero _)⟩
  | succ n ih =>
    obtain ⟨xs, hl, hx⟩ := ih (fun i hi => h i (by omega))
    obtain ⟨a, ha⟩ := h n (by omega)
    refine ⟨xs ++ [a], by simp [hl], fun i hi => ?_⟩
    by_cases hin : i < xs.length
    · rw [List.getElem_append_left hin]; exact hx i hin
    · have : i = n := by simp [hl] at hi; omega
      subst this
      rw [List.getElem_append_right (by omega)]
      simpa [hl] using ha

/-- A slice (its address and capacity), its elements of sz cells, all below block B; each reads by E. -/
def SlA {α : Type} (B sz : Nat) (E : World → List Value → α → Prop) (w : World) (ao : Option Addr) (cap : Nat) (xs : List α) : Prop :=
  xs.length ≤ cap ∧ cap ≤ maxLen ∧ (ao = none → cap = 0) ∧
  (xs ≠ [] → ∃ b off, ao = some ⟨b, off, none⟩ ∧ b < B ∧ ∀ i (_ : i < xs.length), ∃ cs : List Value, cs.length = sz ∧ (∀ j, j < sz → w.cell? ⟨b, off + (i * sz + j), none⟩ = cs[j]?) ∧ E w cs xs[i])

section
variable {α : Type} {B B' sz : Nat} {E E' : World → List Value → α → Prop} {w w' : World} {ao : Option Addr} {cap : Nat} {xs : List α}

theorem SlA.imp (h : SlA B sz E w ao cap xs) (hb : Below B w w') (hB : B ≤ B') (hE : ∀ cs x, x ∈ xs → E w cs x → E' w' cs x) : SlA B' sz E' w' ao cap xs := by
  obtain ⟨h1, h2, h3, h4⟩ := h
  refine ⟨h1, h2, h3, fun hne => ?_⟩
  obtain ⟨b, off, rfl, hlt, h5⟩ := h4 hne
  refine ⟨b, off, rfl, Nat.lt_of_lt_of_le hlt hB, fun i hi => ?_⟩
  obtain ⟨cs, h6, h7, h8⟩ := h5 i hi
  exact ⟨cs, h6, fun j hj => by rw [hb.cell (p := ⟨b, _, none⟩) hlt]; exact h7 j hj, hE _ _ (List.getElem_mem _) h8⟩

theorem SlA.len (h : SlA B sz E w ao cap xs) : xs.length ≤ 9223372036854775807 := by
  have h1 := h.1
  have h2 := h.2.1
  unfold maxLen at h2
  omega

/-- Where there is an element: the address. -/
theorem SlA.addr (h : SlA B sz E w ao cap xs) (hne : 0 < xs.length) : ∃ b off, ao = some ⟨b, off, none⟩ ∧ b < B ∧ ∀ i (_ : i < xs.length), ∃ cs : List Value, cs.length = sz ∧ (∀ j, j < sz → w.cell? ⟨b, off + (i * sz + j), none⟩ = cs[j]?) ∧ E w cs xs[i] :=
  h.2.2.2 (fun e => by simp [e] at hne)

theorem SlA.get {b off : Nat} (h : SlA B sz E w (some ⟨b, off, none⟩) cap xs) (i : Nat) (hi : i < xs.length) :
    ∃ cs : List Value, cs.length = sz ∧ (∀ j, j < sz → w.cell? ⟨b, off + (i * sz + j), none⟩ = cs[j]?) ∧ E w cs xs[i] := by
  obtain ⟨b', off', e, _, h5⟩ := h.addr (by omega)
  simp only [Option.some.injEq, Addr.mk.injEq, and_true] at e
  obtain ⟨rfl, rfl⟩ := e
  exact h5 i hi

theorem SlA.lt {b off : Nat} (h : SlA B sz E w (some ⟨b, off, none⟩) cap xs) (hne : 0 < xs.length) : b < B := by
  obtain ⟨b', off', e, hb, _⟩ := h.addr hne
  simp only [Option.some.injEq, Addr.mk.injEq, and_true] at e
  obtain ⟨rfl, rfl⟩ := e
  exact hb

theorem SlA.nil (B sz : Nat) (E : World → List Value → α → Prop) (w : World) : SlA B sz E w none 0 [] :=
  ⟨Nat.le_refl _, by unfold maxLen; omega, fun _ => rfl, fun h => absurd rfl h⟩

variable {H : Type} {enc : TypeId × Value → H} {P : Program} {spare : Nat → Bool} {held : Bool}

theorem SlA.of_trod {t e : TypeId} {fuel : Nat} {cs : List Value} {x : DataW H × List MemPlace} (ht : P.underlying t = some (.slice e)) (hsz : P.cellsOf e = sz) (hs0 : 0 < sz)
    (h : DataW.trod enc P w 0 spare held fuel t cs = some x) (hp : ∀ p ∈ x.2, p.block < B)
    (hE : ∀ n cs y, DataW.trod enc P w 0 spare held n e cs = some y → (∀ p ∈ y.2, p.block < B) → ∃ a, E w cs a) :
    ∃ ao cap xs, cs = [.slice ao xs.length cap] ∧ SlA B sz E w ao cap xs := by
  rcases Deep.open_slice ht h with ⟨rfl, rfl⟩ | ⟨a, len, cap, m, n, D, Pl, rfl, _, hl, hm, hmm, rfl, hx⟩
  · exact ⟨none, 0, [], rfl, SlA.nil _ _ _ _⟩
  have hlm : len ≤ m := by rw [hmm]; split <;> omega
  rw [hsz] at hx hp
  have hall : ∀ i, i < len → ∃ y : α, ∃ cs' : List Value, cs'.length = sz ∧ (∀ j, j < sz → w.cell? ((a.add (i * sz)).add j) = cs'[j]?) ∧ E w cs' y := by
    intro i hi
    obtain ⟨cs', h1, h2⟩ := hx i (by omega)
    obtain ⟨_, h3, h4⟩ := World.cells?_some h1
    obtain ⟨y, hy⟩ := hE _ _ _ h2 (fun p hp' => hp p (List.mem_append_right _ (List.mem_flatMap.2 ⟨i, List.mem_range.2 (by omega), hp'⟩)))
    exact ⟨y, cs', h3, h4, hy⟩
  obtain ⟨xs, hxl, hxx⟩ := list_of_all hall
  subst hxl
  refine ⟨some a, cap, xs, rfl, hl, hm, (by simp), fun hne => ?_⟩
  have hpos : 0 < xs.length := List.length_pos_iff.2 hne
  have hspot : a.spot = none := by
    obtain ⟨cs', h1, h2, _⟩ := hxx 0 hpos
    have h3 := h2 0 hs0
    rw [List.getElem?_eq_getElem (by omega)] at h3
    have : ((a.add (0 * sz)).add 0) = a := by simp [Addr.add]
    rw [this] at h3
    exact World.cell?_spot h3
  obtain ⟨b, off, spot⟩ := a
  simp only at hspot
  subst hspot
  refine ⟨b, off, rfl, ?_, fun i hi => ?_⟩
  · have hmz : 0 < m * sz := Nat.mul_pos (by omega) hs0
    have := hp (.cell b off) (List.mem_append_left _ (by
      unfold MemPlace.row
      exact List.mem_map.2 ⟨0, List.mem_range.2 hmz, by simp⟩))
    exact this
  · obtain ⟨cs', h1, h2, h3⟩ := hxx i hi
    refine ⟨cs', h1, fun j hj => ?_, h3⟩
    rw [← h2 j hj, Deep.add_add]
    congr 1
    unfold Addr.add
    split <;> simp_all
end
end Go

/- Readings of the plain kinds. -/
namespace Go
open Go.RowKit Go.ChangeShapes Go.WideShapes

def RI (k : IntKind) (_ : World) (cs : List Value) (x : Int) : Prop := cs = [.int k x] ∧ (Lit.int k x).wf = true
def RB (_ : World) (cs : List Value) (x : Bool) : Prop := cs = [.bool x]
def RS (_ : World) (cs : List Value) (x : ByteArray) : Prop := cs = [.string x] ∧ x.size ≤ maxLen
def RSl {α : Type} (B sz : Nat) (E : World → List Value → α → Prop) (w : World) (cs : List Value) (xs : List α) : Prop :=
  ∃ ao cap, cs = [.slice ao xs.length cap] ∧ SlA B sz E w ao cap xs

section
variable {H : Type} {enc : TypeId × Value → H} {P : Program} {w : World} {spare : Nat → Bool} {held : Bool} {t : TypeId} {fuel : Nat} {cs : List Value} {x : DataW H × List MemPlace}

theorem RI.of_trod {k : IntKind} (ht : P.underlying t = some (.int k)) (h : DataW.trod enc P w 0 spare held fuel t cs = some x) : ∃ a, RI k w cs a := by
  obtain ⟨n, h1, _, h2⟩ := DataW.trod_int ht h
  exact ⟨n, h1, h2⟩
theorem RB.of_trod (ht : P.underlying t = some .bool) (h : DataW.trod enc P w 0 spare held fuel t cs = some x) : ∃ a, RB w cs a := by
  obtain ⟨n, h1, _⟩ := DataW.trod_bool ht h
  exact ⟨n, h1⟩
theorem RS.of_trod (ht : P.underlying t = some .string) (h : DataW.trod enc P w 0 spare held fuel t cs = some x) : ∃ a, RS w cs a := by
  obtain ⟨n, h1, _, h2⟩ := DataW.trod_string ht h
  exact ⟨n, h1, h2⟩
theorem RSl.of_trod {α : Type} {B sz : Nat} {E : World → List Value → α → Prop} {e : TypeId} (ht : P.underlying t = some (.slice e)) (hsz : P.cellsOf e = sz) (hs0 : 0 < sz)
    (h : DataW.trod enc P w 0 spare held fuel t cs = some x) (hp : ∀ p ∈ x.2, p.block < B)
    (hE : ∀ n cs y, DataW.trod enc P w 0 spare held n e cs = some y → (∀ p ∈ y.2, p.block < B) → ∃ a, E w cs a) : ∃ xs, RSl B sz E w cs xs := by
  obtain ⟨ao, cap, xs, h1, h2⟩ := SlA.of_trod ht hsz hs0 h hp hE
  exact ⟨xs, ao, cap, h1, h2⟩
theorem RSl.imp {α : Type} {B B' sz : Nat} {E E' : World → List Value → α → Prop} {w w' : World} {cs : List Value} {xs : List α} (h : RSl B sz E w cs xs) (hb : Below B w w') (hB : B ≤ B')
    (hE : ∀ cs x, x ∈ xs → E w cs x → E' w' cs x) : RSl B' sz E' w' cs xs := by
  obtain ⟨ao, cap, h1, h2⟩ := h
  exact ⟨ao, cap, h1, h2.imp hb hB hE⟩
end
end Go

/- A slice over a block that is known whole reads as its elements. -/
namespace Go
open Go.RowKit

theorem SlA.of_blk {α : Type} {B sz b cap : Nat} {E : World → List Value → α → Prop} {w : World} {xs : List α} {cells : Array Value} {T : TypeId} (h : Blk w b cells T) (hb : b < B) (h1 : xs.length ≤ cap) (h2 : cap ≤ maxLen)
    (hE : ∀ i (_ : i < xs.length), ∃ cs : List Value, cs.length = sz ∧ (∀ j, j < sz → cells[i * sz + j]? = cs[j]?) ∧ E w cs xs[i]) : SlA B sz E w (some ⟨b, 0, none⟩) cap xs :=
  ⟨h1, h2, (by simp), fun _ => ⟨b, 0, rfl, hb, fun i hi => by
    obtain ⟨cs, h3, h4, h5⟩ := hE i hi
    exact ⟨cs, h3, fun j hj => by rw [Nat.zero_add, h.cell]; exact h4 j hj, h5⟩⟩⟩

/-- Elements of one cell, written out. -/
theorem SlA.of_blk1 {B b cap : Nat} {k : IntKind} {w : World} {xs : List Int} {cells : Array Value} {T : TypeId} (h : Blk w b cells T) (hb : b < B) (h1 : xs.length ≤ cap) (h2 : cap ≤ maxLen)
    (hE : ∀ i (_ : i < xs.length), cells[i]? = some (.int k xs[i]) ∧ (Lit.int k xs[i]).wf = true) : SlA B 1 (RI k) w (some ⟨b, 0, none⟩) cap xs :=
  SlA.of_blk h hb h1 h2 fun i hi => ⟨[.int k xs[i]], rfl, fun j hj => by
    obtain rfl : j = 0 := by omega
    rw [Nat.mul_one, Nat.add_zero]
    exact (hE i hi).1, rfl, (hE i hi).2⟩
end Go

/- append of a whole slice that came in (nil or not) to a slice of the call's own. -/
namespace Go
open Go.RowKit

end Go

/- The reach of an argument that is a slice, by its capacity. -/
namespace Go
end Go

/- A row of the call's own as a list of elements; append of one element. -/
namespace Go
open Go.RowKit

theorem bcell {W w1 : World} (hb : Below W.heap.size W w1) : (∀ b o, b < W.heap.size → w1.cell? ⟨b, o, none⟩ = W.cell? ⟨b, o, none⟩) ∧ (∀ b o, b < W.heap.size → w1.frozen? ⟨b, o, none⟩ = W.frozen? ⟨b, o, none⟩) :=
  ⟨fun b o h => hb.cell (p := ⟨b, o, none⟩) h, fun b o h => hb.frozen (p := ⟨b, o, none⟩) h⟩

/-- The world under a name. -/
theorem Code.wp_world {P : Program} {c : Code} {Q : Exit → Act → World → Prop} {a : Act} {W : World} (h : ∀ w1, w1 = W → c.wp P Q a w1) : c.wp P Q a W := h _ rfl

section
variable {α : Type} {enc : α → List Value} {size : Nat}

theorem flat_at (hk : ∀ x, (enc x).length = size) : ∀ (xs : List α) (i j : Nat) (hi : i < xs.length), j < size → (xs.flatMap enc)[i * size + j]? = (enc xs[i])[j]?
  | [], i, j, hi, _ => absurd hi (by simp)
  | x :: r, 0, j, _, hj => by
    rw [List.flatMap_cons, Nat.zero_mul, Nat.zero_add, List.getElem?_append_left (by rw [hk]; exact hj)]
    rfl
  | x :: r, i + 1, j, hi, hj => by
    rw [List.flatMap_cons, List.getElem?_append_right (by rw [hk, Nat.add_mul]; omega), hk, show (i + 1) * size + j - size = i * size + j by rw [Nat.add_mul]; omega]
    have := flat_at hk r i j (by simpa using hi) hj
    rw [this]
    rfl
theorem flat_len (hk : ∀ x, (enc x).length = size) (xs : List α) : (xs.flatMap enc).length = xs.length * size := by
  induction xs with
  | nil => simp
  | cons x r ih => rw [List.flatMap_cons, List.length_append, hk, ih, List.length_cons, Nat.add_mul]; omega
theorem flat_snoc (xs : List α) (x : α) : (xs ++ [x]).flatMap enc = xs.flatMap enc ++ enc x := by simp

/-- The slice value v is a row of the call's own, at or above block base, that holds the list xs. -/
def OwnL (enc : α → List Value) (w : World) (base : Nat) (e : TypeId) (size : Nat) (v : Value) (xs : List α) : Prop :=
  w.ownsRow base e size v xs.length (xs.flatMap enc)

variable {w w' : World} {base : Nat} {e : TypeId} {v : Value} {xs : List α}

theorem OwnL.nil (enc : α → List Value) (w : World) (base : Nat) (e : TypeId) (size : Nat) : OwnL enc w base e size (.slice none 0 0) [] := by
  unfold OwnL; exact World.ownsRow_nil w base e size
theorem OwnL.base_le {base' : Nat} (h : OwnL enc w base e size v xs) (hb : base' ≤ base) : OwnL enc w base' e size v xs := by
  refine ⟨h.1, ?_⟩
  rcases h.2 with h | ⟨g, cap, cur, h1, h2, h3⟩
  · exact .inl h
  · exact .inr ⟨g, cap, cur, h1, Nat.le_trans hb h2, h3⟩
/-- It stays while nothing below B changes, its block lying below B. -/
theorem OwnL.below {B : Nat} (h : OwnL enc w base e size v xs) (hb : Below B w w') (hB : w.heap.size ≤ B) : OwnL enc w' base e size v xs := by
  refine ⟨h.1, ?_⟩
  rcases h.2 with h | ⟨g, cap, cur, h1, h2, h3, h4⟩
  · exact .inl h
  · refine .inr ⟨g, cap, cur, h1, h2, ?_, h4⟩
    have : g < w.heap.size := (Array.getElem?_eq_some_iff.1 h3).1
    rw [hb.block g (by omega)]
    exact h3
theorem OwnL.chg {S : Nat → Prop} (h : OwnL enc w base e size v xs) (hb : Chg S w w') (hS : ∀ g, v.ownBlock = some g → ¬ S g) : OwnL enc w' base e size v xs := by
  refine ⟨h.1, ?_⟩
  rcases h.2 with h | ⟨g, cap, cur, h1, h2, h3, h4⟩
  · exact .inl h
  · refine .inr ⟨g, cap, cur, h1, h2, ?_, h4⟩
    have : g < w.heap.size := (Array.getElem?_eq_some_iff.1 h3).1
    rw [hb.block g (by omega) (hS g (by rw [h1]; rfl))]
    exact h3
theorem OwnL.drewN (h : OwnL enc w base e size v xs) (n : Nat) : OwnL enc (w.drewN n) base e size v xs := h
theorem OwnL.alloc (h : OwnL enc w base e size v xs) (o : Obj) : OwnL enc (w.alloc o) base e size v xs := World.ownsRow.alloc h o
/-- What it looks like. -/
theorem OwnL.form (h : OwnL enc w base e size v xs) : (v = .slice none 0 0 ∧ xs = []) ∨ ∃ g cap cells, v = .slice (some ⟨g, 0, none⟩) xs.length cap ∧ Blk w g cells e ∧ xs.length ≤ cap ∧ cap ≤ maxLen ∧ cells.size = cap * size ∧ base ≤ g ∧ g < w.heap.size ∧ cells.toList.take (xs.length * size) = xs.flatMap enc := by
  rcases h.2 with ⟨h1, h2⟩ | ⟨g, cap, cur, h1, h2, h3, h4, h5, h6, h7⟩
  · exact .inl ⟨h1, List.length_eq_zero_iff.1 h2⟩
  · exact .inr ⟨g, cap, cur, h1, h3, h4, h5, h6, h2, (Array.getElem?_eq_some_iff.1 h3).1, h7⟩
theorem OwnL.slice (h : OwnL enc w base e size v xs) : ∃ ao cap, v = .slice ao xs.length cap ∧ xs.length ≤ cap ∧ cap ≤ maxLen ∧ (∀ a, ao = some a → base ≤ a.block ∧ a.block < w.heap.size) := by
  rcases h.form with ⟨h1, rfl⟩ | ⟨g, cap, cells, h1, h2, h3, h4, h5, h6, h7, h8⟩
  · exact ⟨none, 0, h1, Nat.le_refl _, Nat.zero_le _, by simp⟩
  · exact ⟨_, cap, h1, h3, h4, by simp; exact ⟨h6, h7⟩⟩
/-- It reads as its list. -/
theorem OwnL.sla {E : World → List Value → α → Prop} (h : OwnL enc w base e size v xs) (hk : ∀ x, (enc x).length = size) (hE : ∀ x ∈ xs, E w (enc x) x) : ∃ ao cap, v = .slice ao xs.length cap ∧ SlA w.heap.size size E w ao cap xs := by
  rcases h.form with ⟨h1, rfl⟩ | ⟨g, cap, cells, h1, h2, h3, h4, h5, h6, h7, h8⟩
  · exact ⟨none, 0, h1, SlA.nil _ _ _ _⟩
  · refine ⟨_, cap, h1, SlA.of_blk h2 h7 h3 h4 fun i hi => ⟨enc xs[i], hk _, fun j hj => ?_, hE _ (List.getElem_mem hi)⟩⟩
    rw [← flat_at hk xs i j hi hj, ← h8, List.getElem?_take, if_pos]
    · simp
    · have := Nat.mul_le_mul_right size (show i + 1 ≤ xs.length by omega)
      rw [Nat.add_mul] at this
      omega

theorem wpList_app1 {P : Program} {W : World} {ops : Array Oper} {rest : List Oper} {o : Oper} {a : Act} {Q : Exit → Act → World → Prop} (hgd : o.guard = none) (s x : Operand) (t : TypeId)
    (ho : o.op = .call { callee := .builtin .append, args := #[s, x], argTypes := #[t, t] })
    {i : TypeInfo} {z : Value} {bytes : Nat} (ht : P.underlying t = some (.slice e)) (hi : P.info? e = some i) (hz : i.zero = some z)
    (hsize : i.size = size) (hby : i.bytes = bytes) (hzs : z.cells.size = size) (hsz : 0 < size)
    (y : α) {T : TypeId} (hs : a.eval s = v) (hown : OwnL enc W base e size v xs) (hx : a.eval x = .slice (some ⟨W.heap.size, 0, none⟩) 1 1)
    (hk : (enc y).length = size) (h1 : ∀ u ∈ enc y, u.oneCell' = true) (hbd : (xs.length + 1) * bytes ≤ 140737488355328) (hn : xs.length + 1 ≤ maxLen) (hbase : base ≤ W.heap.size)
    (h : ∀ ao cap w', OwnL enc w' base e size (.slice (some ao) (xs.length + 1) cap) (xs ++ [y]) → Below base W w' → W.grownBy w' v.ownBlock → wpList P ops Q rest (a.put o.dst (.slice (some ao) (xs.length + 1) cap)) w') :
    wpList P ops Q (o :: rest) a (W.alloc (.cells (enc y).toArray T)) := by
  refine wpList_append_own _ hgd s x t ho base e i z size bytes ht hi hz hsize hby hzs hsz v xs.length (xs.flatMap enc) hs (World.ownsRow.alloc hown _) ⟨W.heap.size, 0, none⟩ 1 1 (enc y) hx (by simpa using hk) ?_ h1 hn hbd (by simp; omega) ?_
  · intro j u hj
    have hb := Blk.new W (enc y).toArray T
    have : (⟨W.heap.size, 0, none⟩ : Addr).add j = ⟨W.heap.size, j, none⟩ := by unfold Addr.add; split <;> simp_all
    rw [this, hb.cell]
    simpa using hj
  · intro v' w' h2 h3 h4
    have hg : W.grownBy w' v.ownBlock := (World.grownBy_alloc W _ v.ownBlock).trans h3
    have hbel : Below base W w' := (Below.refl base W).grown hg hbase (fun k hk' => (World.ownsRow.lt hown k hk').1)
    have hne : v' ≠ .slice none 0 0 := fun hv => absurd (h4.1 hv).2 (by omega)
    have h5 : OwnL enc w' base e size v' (xs ++ [y]) := by
      unfold OwnL
      rw [flat_snoc, List.length_append]
      exact h2
    rcases h5.form with ⟨hv, _⟩ | ⟨g, cap, cells, hv, _⟩
    · exact absurd hv hne
    · rw [List.length_append, List.length_singleton] at hv
      rw [hv] at h5 ⊢
      exact h _ cap w' h5 hbel hg
end
end Go

/- How a row of the call's own grows by appends; append of one element, with the place told. -/
namespace Go
open Go.RowKit

/-- From (w0, v0) to (w, v): only v0's block and new ones have turned; v lies in v0's block or in a new one. -/
structure Grew (w0 : World) (v0 : Value) (w : World) (v : Value) : Prop where
  grown : w0.grownBy w v0.ownBlock
  place : v.ownBlock = v0.ownBlock ∨ ∃ g, v.ownBlock = some g ∧ w0.heap.size ≤ g

namespace Grew
variable {w0 w w' : World} {v0 v v' : Value}
theorem refl (w : World) (v : Value) : Grew w v w v := ⟨⟨rfl, rfl, rfl, Nat.le_refl _, fun _ _ _ => rfl⟩, .inl rfl⟩
theorem trans (h : Grew w0 v0 w v) (k : Grew w v w' v') : Grew w0 v0 w' v' := by
  have hs := h.grown.size
  refine ⟨⟨k.grown.os.trans h.grown.os, k.grown.tape.trans h.grown.tape, k.grown.output.trans h.grown.output, Nat.le_trans hs k.grown.size, fun i hi hne => ?_⟩, ?_⟩
  · refine (k.grown.block i (by omega) ?_).trans (h.grown.block i hi hne)
    rcases h.place with e | ⟨g, e, hg⟩
    · rw [e]; exact hne
    · rw [e]; intro e2; cases e2; omega
  · rcases k.place with e | ⟨g, e, hg⟩
    · rw [e]; exact h.place
    · exact .inr ⟨g, e, by omega⟩
theorem drewN (h : Grew w0 v0 w v) (n : Nat) : Grew w0 v0 (w.drewN n) v := ⟨⟨h.grown.os, h.grown.tape, h.grown.output, h.grown.size, h.grown.block⟩, h.place⟩
theorem drew (h : Grew w0 v0 w v) : Grew w0 v0 w.drew v := ⟨⟨h.grown.os, h.grown.tape, h.grown.output, h.grown.size, h.grown.block⟩, h.place⟩
/-- What is not v0's block stays. -/
theorem cell (h : Grew w0 v0 w v) {b o : Nat} (hb : b < w0.heap.size) (hne : v0.ownBlock ≠ some b) : w.cell? ⟨b, o, none⟩ = w0.cell? ⟨b, o, none⟩ := World.cell?_of_block (w := w0) (a := ⟨b, o, none⟩) (h.grown.block b hb (Ne.symm hne))
theorem blk (h : Grew w0 v0 w v) {b : Nat} {cs : Array Value} {T : TypeId} (hb : Blk w0 b cs T) (hne : v0.ownBlock ≠ some b) : Blk w b cs T := by
  have := hb.lt
  unfold Blk at *
  rw [h.grown.block b this (Ne.symm hne), hb]
theorem below (h : Grew w0 v0 w v) {B : Nat} (hB : B ≤ w0.heap.size) (hv : ∀ g, v0.ownBlock = some g → B ≤ g) : Below B w0 w := (Below.refl B w0).grown h.grown hB (fun k hk => hv k hk)
/-- A step of another kind ahead of it, all else at hand being new. -/
theorem of_below (h : Below w0.heap.size w0 w) (v : Value) : Grew w0 v w v := ⟨⟨h.os, h.tape, h.output, h.size, fun i hi _ => h.block i hi⟩, .inl rfl⟩
end Grew

section
variable {α : Type} {enc : α → List Value} {size : Nat} {base : Nat} {e : TypeId} {v : Value} {xs : List α}

theorem OwnL.lt {w : World} (h : OwnL enc w base e size v xs) : ∀ g, v.ownBlock = some g → base ≤ g ∧ g < w.heap.size := World.ownsRow.lt h
theorem OwnL.ne_blk {w : World} {b : Nat} {cs : Array Value} {T : TypeId} (h : OwnL enc w base e size v xs) (hb : Blk w b cs T) (hT : e ≠ T) : v.ownBlock ≠ some b := by
  rcases h.form with ⟨rfl, _⟩ | ⟨g, cap, cells, rfl, h2, _⟩
  · simp [Value.ownBlock]
  · intro he
    simp only [Value.ownBlock, Option.some.injEq] at he
    subst he
    unfold Blk at h2 hb
    rw [h2] at hb
    simp only [Option.some.injEq, Obj.cells.injEq] at hb
    exact hT hb.2.1

theorem wpList_app1g {P : Program} {W : World} {ops : Array Oper} {rest : List Oper} {o : Oper} {a : Act} {Q : Exit → Act → World → Prop} (hgd : o.guard = none) (s x : Operand) (t : TypeId)
    (ho : o.op = .call { callee := .builtin .append, args := #[s, x], argTypes := #[t, t] })
    {i : TypeInfo} {z : Value} {bytes : Nat} (ht : P.underlying t = some (.slice e)) (hi : P.info? e = some i) (hz : i.zero = some z)
    (hsize : i.size = size) (hby : i.bytes = bytes) (hzs : z.cells.size = size) (hsz : 0 < size)
    (y : α) {T : TypeId} (hs : a.eval s = v) (hown : OwnL enc W base e size v xs) (hx : a.eval x = .slice (some ⟨W.heap.size, 0, none⟩) 1 1)
    (hk : (enc y).length = size) (h1 : ∀ u ∈ enc y, u.oneCell' = true) (hbd : (xs.length + 1) * bytes ≤ 140737488355328) (hn : xs.length + 1 ≤ maxLen) (hbase : base ≤ W.heap.size)
    (h : ∀ g cap w', OwnL enc w' base e size (.slice (some ⟨g, 0, none⟩) (xs.length + 1) cap) (xs ++ [y]) → Grew W v w' (.slice (some ⟨g, 0, none⟩) (xs.length + 1) cap) → wpList P ops Q rest (a.put o.dst (.slice (some ⟨g, 0, none⟩) (xs.length + 1) cap)) w') :
    wpList P ops Q (o :: rest) a (W.alloc (.cells (enc y).toArray T)) := by
  refine wpList_append_own_at (W.alloc (.cells (enc y).toArray T)) hgd s x t ho base e i z size bytes ht hi hz hsize hby hzs hsz v xs.length (xs.flatMap enc) hs (World.ownsRow.alloc hown _) ⟨W.heap.size, 0, none⟩ 1 1 (enc y) hx (by simpa using hk) ?_ h1 hn hbd (by simp; omega) ?_
  · intro j u hj
    have hb := Blk.new W (enc y).toArray T
    have : (⟨W.heap.size, 0, none⟩ : Addr).add j = ⟨W.heap.size, j, none⟩ := by unfold Addr.add; split <;> simp_all
    rw [this, hb.cell]
    simpa using hj
  · intro v' w' h2 h3 h4 h6
    have hg : W.grownBy w' v.ownBlock := (World.grownBy_alloc W _ v.ownBlock).trans h3
    have hne : v' ≠ .slice none 0 0 := fun hv => absurd (h4.1 hv).2 (by omega)
    have h5 : OwnL enc w' base e size v' (xs ++ [y]) := by
      unfold OwnL
      rw [flat_snoc, List.length_append]
      exact h2
    rcases h5.form with ⟨hv, _⟩ | ⟨g, cap, cells, hv, _⟩
    · exact absurd hv hne
    · rw [List.length_append, List.length_singleton] at hv
      rw [hv] at h5 h6 ⊢
      refine h g cap w' h5 ⟨hg, ?_⟩
      rcases h6 with e6 | e6
      · exact .inl e6
      · exact .inr ⟨g, rfl, by simp [Value.ownBlock] at e6; omega⟩
end
end Go

/- A region that draws its order: a head whose operations are quiet while S holds, or of the spine (each alone when it comes up, S being kept), and a tail in a forced order behind the head: one walk, in the order of the text. -/
namespace Go
section
variable {P : Program} {ops : Array Oper} {md : Region.Mode} {S : World → Prop} {Q : Exit → Act → World → Prop}

def wpAnyC (P : Program) (md : Region.Mode) (ops : Array Oper) (Q : Exit → Act → World → Prop) (S : World → Prop) (n : Nat) (L : Array Bool → Act → World → Prop) : Nat → Array Bool → Act → World → Prop
  | 0, listed, a, w => L listed a w
  | f + 1, listed, a, w =>
    Region.ready md ops listed ≠ [] ∧ ∀ i ∈ Region.ready md ops listed, i < n ∧ wpOp P ops Q i (fun a' w' => S w' ∧ wpAnyC P md ops Q S n L f (listed.setIfInBounds i true) a' w') a w

theorem wpAny_of_headC {n g : Nat} {L : Array Bool → Act → World → Prop} (hL : ∀ listed a w, L listed a w → wpAny P md ops Q g listed a w) :
    ∀ (f : Nat) (listed : Array Bool) (a : Act) (w : World), wpAnyC P md ops Q S n L f listed a w → wpAny P md ops Q (f + g) listed a w
  | 0, listed, a, w, h => by rw [Nat.zero_add]; exact hL _ _ _ h
  | f + 1, listed, a, w, h => by
    rw [show f + 1 + g = (f + g) + 1 by omega]
    exact ⟨fun h0 => absurd h0 h.1, fun i hi => wpOp_mono (fun a' w' h' => wpAny_of_headC hL f _ a' w' h'.2) (h.2 i hi).2⟩

theorem wpAnyC_first {n i : Nat} {oi : Oper} {v : Value} {L : Array Bool → Act → World → Prop} (hi : ops[i]? = some oi) (hsel : ∀ (j : Nat) (o : Oper) cs b, ops[j]? = some o → o.op ≠ .select cs b)
    (hs : Region.sinkB md ops n = true) (hc : Region.chainB md ops n = true) (hn : n < ops.size) (hin : i < n)
    (hQ : ∀ c a w, Q (.panic c) (a.put oi.dst v) w → Q (.panic c) a w)
    (hdone : ∀ listed a w, L listed a w → ∀ j ∈ Region.ready md ops listed, n ≤ j) :
    ∀ (f : Nat) (listed : Array Bool) (a : Act) (w : World), HeadInv md ops n listed →
      (∀ j oj, ops[j]? = some oj → j ≠ i → listed.getD j true = false → (∀ e ∈ oj.after, Region.binds md e = true → e.on ≠ i) → oi.apart ops oj = true) →
      i ∈ Region.ready md ops listed → YieldsIf P ops S oi v a → S w →
      wpAnyC P md ops Q S n L f (listed.setIfInBounds i true) (a.put oi.dst v) w → wpAnyC P md ops Q S n L (f + 1) listed a w := by
  intro f
  induction f with
  | zero =>
    intro listed a w inv _ hr hy hS H
    refine ⟨fun h => (by rw [h] at hr; cases hr), fun j hj => ?_⟩
    have hjn : j < n := by
      rcases Nat.lt_or_ge j n with h | h
      · exact h
      · exact absurd hj (tail_waits hs hc hn inv _ i rfl hin (mem_ready.1 hr).1 j h)
    refine ⟨hjn, ?_⟩
    by_cases hji : j = i
    · subst hji; exact hy.wpOp hi hS ⟨hS, H⟩
    · have := hdone _ _ _ H j (ready_mono hj hji)
      omega
  | succ f ih =>
    intro listed a w inv hfree hr hy hS H
    have hun := (mem_ready.1 hr).1
    refine ⟨fun h => (by rw [h] at hr; cases hr), fun j hj => ?_⟩
    have hjn : j < n := by
      rcases Nat.lt_or_ge j n with h | h
      · exact h
      · exact absurd hj (tail_waits hs hc hn inv _ i rfl hin hun j h)
    refine ⟨hjn, ?_⟩
    by_cases hji : j = i
    · subst hji; exact hy.wpOp hi hS ⟨hS, H⟩
    · have h1 := (H.2 j (ready_mono hj hji)).2
      obtain ⟨hjun, oj, hoj, hall⟩ := mem_ready.1 hj
      have hnot : ∀ e ∈ oj.after, Region.binds md e = true → e.on ≠ i := fun e he hb heq => by
        have h1 := hall e he hb
        rw [heq, getD_both hun] at h1
        cases h1
      have h2 := wpOp_putIf hoj (hfree j oj hoj hji hjun hnot) (fun cs b => hsel i oi cs b hi) (fun cs b => hsel j oj cs b hoj) hQ hy h1
      have hfree' : ∀ k ok, ops[k]? = some ok → k ≠ i → (listed.setIfInBounds j true).getD k true = false →
          (∀ e ∈ ok.after, Region.binds md e = true → e.on ≠ i) → oi.apart ops ok = true := fun k ok hk hki hun hno => by
        refine hfree k ok hk hki ?_ hno
        by_cases hjk : j = k
        · subst hjk; exact hjun
        · rw [getD_set_ne true hjk] at hun; exact hun
      refine wpOp_mono (fun a' w' h3 => ⟨h3.2.1, ih (listed.setIfInBounds j true) a' w' (inv.set hj hjn) hfree' (ready_mono hr (Ne.symm hji)) h3.1 h3.2.1 ?_⟩) h2
      rw [Array.setIfInBounds_comm _ _ hji]
      exact h3.2.2

/-- The head in the order of the text: the operations of the spine stand in sp. -/
def wpCalm (P : Program) (ops : Array Oper) (Q : Exit → Act → World → Prop) (S : World → Prop) (sp : List Nat) (L : Act → World → Prop) : Nat → List Oper → Act → World → Prop
  | _, [], a, w => L a w
  | k, o :: r, a, w =>
    if sp.contains k = true then wpOp P ops Q k (fun a' w' => S w' ∧ wpCalm P ops Q S sp L (k + 1) r a' w') a w
    else ∃ v, YieldsIf P ops S o v a ∧ wpCalm P ops Q S sp L (k + 1) r (a.put o.dst v) w

def Region.calmHead (md : Region.Mode) (ops : Array Oper) (sp : List Nat) (g : Nat) : Nat → Nat → Array Bool → Bool
  | 0, k, listed => Region.seqB md ops g k listed
  | f + 1, k, listed => (if sp.contains k = true then decide (Region.ready md ops listed = [k]) else (Region.ready md ops listed).contains k && Region.free md ops listed k) && Region.calmHead md ops sp g f (k + 1) (listed.setIfInBounds k true)
def Region.calmB (md : Region.Mode) (ops : Array Oper) (n : Nat) (sp : List Nat) : Bool :=
  Region.noSelect ops && decide (n < ops.size) && Region.sinkB md ops n && Region.chainB md ops n && Region.calmHead md ops sp (ops.size - n) n 0 (Array.replicate ops.size false)

theorem wpAnyC_calm {n g : Nat} {sp : List Nat} {Lq : Act → World → Prop} (hsel : Region.noSelect ops = true) (hs : Region.sinkB md ops n = true) (hc : Region.chainB md ops n = true) (hn : n < ops.size)
    (hQ : ∀ d c a v w, Q (.panic c) (Act.put a d v) w → Q (.panic c) a w) :
    ∀ (l : List Oper) (k : Nat) (listed : Array Bool) (a : Act) (w : World), (∀ j, j < l.length → l[j]? = ops[k + j]?) → k + l.length = n → HeadInv md ops n listed → S w →
    Region.calmHead md ops sp g l.length k listed = true → wpCalm P ops Q S sp Lq k l a w →
    wpAnyC P md ops Q S n (fun listed' a' w' => Region.seqB md ops g n listed' = true ∧ Lq a' w') l.length listed a w
  | [], k, listed, a, w, _, hk, _, _, hB, h => by
    have : k = n := by simpa using hk
    subst this
    exact ⟨by simpa [Region.calmHead] using hB, h⟩
  | o :: l, k, listed, a, w, hl, hk, inv, hS, hB, h => by
    have h0 : ops[k]? = some o := by simpa using (hl 0 (by simp)).symm
    have hkn : k < n := by simp only [List.length_cons] at hk; omega
    have hl' : ∀ j, j < l.length → l[j]? = ops[k + 1 + j]? := fun j hj => by
      have := hl (j + 1) (by simp; omega)
      simpa [Nat.add_assoc, Nat.add_comm 1 j] using this
    have hk' : k + 1 + l.length = n := by simp only [List.length_cons] at hk; omega
    rw [wpCalm] at h
    simp only [List.length_cons, Region.calmHead, Bool.and_eq_true] at hB
    obtain ⟨hB1, hB'⟩ := hB
    by_cases hsp : sp.contains k = true
    · rw [if_pos hsp] at h hB1
      have hB1 := of_decide_eq_true hB1
      have hr' : k ∈ Region.ready md ops listed := by rw [hB1]; simp
      refine ⟨by rw [hB1]; simp, fun i hi => ?_⟩
      rw [hB1] at hi
      obtain rfl : i = k := by simpa using hi
      exact ⟨hkn, wpOp_mono (fun a' w' h' => ⟨h'.1, wpAnyC_calm hsel hs hc hn hQ l (i + 1) _ a' w' hl' hk' (inv.set hr' hkn) h'.1 hB' h'.2⟩) h⟩
    · rw [if_neg hsp] at h hB1
      simp only [Bool.and_eq_true] at hB1
      have hr' : k ∈ Region.ready md ops listed := by simpa using hB1.1
      obtain ⟨v, hy, hK⟩ := h
      exact wpAnyC_first h0 (Region.noSelect_spec hsel) hs hc hn hkn (fun c a w => hQ _ c a v w) (fun listed' a' w' hL => seqB_ready hL.1) l.length listed a w inv (Region.free_spec h0 hB1.2) hr' hy hS
        (wpAnyC_calm hsel hs hc hn hQ l (k + 1) _ _ w hl' hk' (inv.set hr' hkn) hS hB' hK)

theorem wp_region_calm {id : Nat} {a : Act} {w : World} {l : List Oper} (S : World → Prop) (n : Nat) (sp : List Nat) (hm : P.follows .mixedOrders = true) (hB : Region.calmB .any l.toArray n sp = true)
    (hQ : ∀ d c a v w, Q (.panic c) (Act.put a d v) w → Q (.panic c) a w) (hS : S w.drew)
    (h : S w.drew → wpCalm P l.toArray Q S sp (fun a' w' => wpList P l.toArray Q (l.drop n) a' w') 0 (l.take n) a w.drew) : (Code.region id l.toArray true).wp P Q a w := by
  simp only [Region.calmB, Bool.and_eq_true, decide_eq_true_eq] at hB
  obtain ⟨⟨⟨⟨hsel, hn⟩, hs⟩, hc⟩, hlex⟩ := hB
  have hn' : n < l.length := by simpa using hn
  have htl : (l.take n).length = n := by simp; omega
  have hdl : (l.drop n).length = l.toArray.size - n := by simp
  have inv0 : HeadInv .any l.toArray n (Array.replicate l.toArray.size false) :=
    ⟨by simp, fun j oj _ hl => (by rw [getD_replicate_false] at hl; cases hl), fun t _ ht => getD_in (by simpa using ht) (getD_replicate_false _ _)⟩
  have H := wpAnyC_calm (md := .any) (g := l.toArray.size - n) hsel hs hc hn hQ (l.take n) 0 _ a _ (fun j hj => by
    have hj' : j < n := by rw [htl] at hj; exact hj
    simp [hj']) (by simpa using htl) inv0 hS (by rw [htl]; exact hlex) (h hS)
  refine wp_region_any hm ?_
  have := wpAny_of_headC (g := l.toArray.size - n) (fun listed a' w' hL => by
    have := wpAny_of_seq (md := .any) (Q' := Q) (l.drop n) n listed a' w' (fun j => by simp [List.getElem?_drop]) (by rw [hdl]; exact hL.1) hL.2
    rwa [hdl] at this) _ _ _ _ H
  rw [htl, show n + (l.toArray.size - n) = l.toArray.size by omega] at this
  exact this

theorem wpCalm_nil {sp : List Nat} {L : Act → World → Prop} {k : Nat} {a : Act} {w : World} (h : L a w) : wpCalm P ops Q S sp L k [] a w := h
/-- A quiet operation. -/
theorem wpCalm_q {sp : List Nat} {L : Act → World → Prop} {k : Nat} {o : Oper} {r : List Oper} {a : Act} {w : World} {v : Value} (hk : sp.contains k = false)
    (hy : YieldsIf P ops S o v a) (h : wpCalm P ops Q S sp L (k + 1) r (a.put o.dst v) w) : wpCalm P ops Q S sp L k (o :: r) a w := by
  rw [wpCalm, if_neg (by rw [hk]; simp)]
  exact ⟨v, hy, h⟩
/-- .. without a guard. -/
theorem wpCalm_q0 {sp : List Nat} {L : Act → World → Prop} {k : Nat} {o : Oper} {r : List Oper} {a : Act} {w : World} (hk : sp.contains k = false) (hg : o.guard = none)
    (h : ∃ v, (∀ w, S w → (execOp a.eval o).run P w = .ok (.value v) w) ∧ wpCalm P ops Q S sp L (k + 1) r (a.put o.dst v) w) : wpCalm P ops Q S sp L k (o :: r) a w := by
  obtain ⟨v, h1, h2⟩ := h
  exact wpCalm_q hk (.inl ⟨by simp [Region.wanted, hg], h1⟩) h2
/-- An operation of the spine. -/
theorem wpCalm_s {sp : List Nat} {L : Act → World → Prop} {k : Nat} {o : Oper} {r : List Oper} {a : Act} {w : World} (hk : sp.contains k = true) (ho : ops[k]? = some o)
    (h : ∀ K' : Act → World → Prop, Shut (∀ a w, S w → wpCalm P ops Q S sp L (k + 1) r a w → K' a w) → if Region.wanted o (yielded ops a.tmps) = true then Oper.wp P o a w K' Q else K' (a.put o.dst undef) w) : wpCalm P ops Q S sp L k (o :: r) a w := by
  rw [wpCalm, if_pos hk]
  exact wpOp_step ho (fun K' hK => h K' (fun a w hS hW => hK a w ⟨hS, hW⟩))
end

section
variable {P : Program} {α : Type} {enc : α → List Value} {size : Nat} {base : Nat} {e : TypeId} {v : Value} {xs : List α}
/-- append of one element of the call's own, at an operation of the spine. -/
theorem step_app1g {W : World} {ops : Array Oper} {o : Oper} {a : Act} {K : Act → World → Prop} {Q : Exit → Act → World → Prop} {E : Prop} (hgd : o.guard = none) (s x : Operand) (t : TypeId)
    (ho : o.op = .call { callee := .builtin .append, args := #[s, x], argTypes := #[t, t] })
    {i : TypeInfo} {z : Value} {bytes : Nat} (ht : P.underlying t = some (.slice e)) (hi : P.info? e = some i) (hz : i.zero = some z)
    (hsize : i.size = size) (hby : i.bytes = bytes) (hzs : z.cells.size = size) (hsz : 0 < size)
    (y : α) {T : TypeId} (hs : a.eval s = v) (hown : OwnL enc W base e size v xs) (hx : a.eval x = .slice (some ⟨W.heap.size, 0, none⟩) 1 1)
    (hk : (enc y).length = size) (h1 : ∀ u ∈ enc y, u.oneCell' = true) (hbd : (xs.length + 1) * bytes ≤ 140737488355328) (hn : xs.length + 1 ≤ maxLen) (hbase : base ≤ W.heap.size)
    (h : ∀ g cap w', OwnL enc w' base e size (.slice (some ⟨g, 0, none⟩) (xs.length + 1) cap) (xs ++ [y]) → Grew W v w' (.slice (some ⟨g, 0, none⟩) (xs.length + 1) cap) → K (a.put o.dst (.slice (some ⟨g, 0, none⟩) (xs.length + 1) cap)) w') :
    if Region.wanted o (yielded ops a.tmps) = true then Oper.wp P o a (W.alloc (.cells (enc y).toArray T)) K Q else E := by
  refine step_append_lies (W.alloc (.cells (enc y).toArray T)) hgd s x t ho base e i z size bytes ht hi hz hsize hby hzs hsz v xs.length (xs.flatMap enc) hs (World.ownsRow.alloc hown _) ⟨W.heap.size, 0, none⟩ 1 1 (enc y) hx (by simpa using hk) ?_ h1 (by omega) hn hbd (by simp; omega) (W.heap.size + 1) (by simp) ?_
  · intro j u hj
    have hb := Blk.new W (enc y).toArray T
    have : (⟨W.heap.size, 0, none⟩ : Addr).add j = ⟨W.heap.size, j, none⟩ := by unfold Addr.add; split <;> simp_all
    rw [this, hb.cell]
    simpa using hj
  · intro g cap w' h2 h3 h4 h5
    refine h g cap w' ?_ ⟨(World.grownBy_alloc W _ v.ownBlock).trans h3, ?_⟩
    · unfold OwnL
      rw [flat_snoc, List.length_append]
      exact h2
    · rcases h4 with e6 | e6
      · exact .inl (by rw [e6]; rfl)
      · exact .inr ⟨g, rfl, by omega⟩
end
theorem Blk.new_at (W : World) (cs : Array Value) (T : TypeId) {n : Nat} (h : W.heap.size = n) : Blk (W.alloc (.cells cs T)) n cs T := h ▸ Blk.new W cs T
end Go

/- append(b, s...) and append(b, make([]byte, n)...): onto a row of bytes of the call's own. -/
namespace Go
section
variable {P : Program} (w : World)

end
end Go

/- append(b, r...): a row of the call's own, behind a row of the call's own. -/
namespace Go
open Go.RowKit
section
variable {P : Program} {α : Type} {enc : α → List Value} {size : Nat} {base base2 : Nat} {e : TypeId}

end
end Go

/- append(b, r...): a slice that came in (read as a list), behind a row of the call's own. -/
namespace Go
open Go.RowKit
section
variable {P : Program} {α : Type} {enc : α → List Value} {size : Nat} {base : Nat} {e : TypeId}

theorem run_append_sla (w : World) (t ty : TypeId) {i : TypeInfo} {z : Value} {bytes : Nat} (ht : P.underlying t = some (.slice e)) (hi : P.info? e = some i) (hz : i.zero = some z)
    (hsize : i.size = size) (hby : i.bytes = bytes) (hzs : z.cells.size = size) (hsz : 0 < size)
    {v : Value} {xs ys : List α} {B cap : Nat} {ao : Option Addr} (hown : OwnL enc w base e size v xs) (hu : SlA B size (fun _ cs x => cs = enc x) w ao cap ys) (hk : ∀ x, (enc x).length = size) (h1 : ∀ x, ∀ c ∈ enc x, c.oneCell' = true)
    (h63 : xs.length + ys.length ≤ maxLen) (hbytes : (xs.length + ys.length) * bytes ≤ 140737488355328) (hbase : base ≤ w.heap.size) :
    ∃ v' w', (Builtin.append_ #[t, t] ty #[v, .slice ao ys.length cap]).run P w = .ok v' w' ∧ OwnL enc w' base e size v' (xs ++ ys) ∧ w.grownBy w' v.ownBlock := by
  cases ao with
  | none =>
    obtain rfl : cap = 0 := hu.2.2.1 rfl
    obtain rfl : ys = [] := List.length_eq_zero_iff.1 (by have := hu.1; omega)
    have hr := run_append_owned_none (P := P) (w := w) base t ty e i size ht hi v xs.length (xs.flatMap enc) hown
    exact ⟨v, w, hr, by rw [List.append_nil]; exact hown, ⟨rfl, rfl, rfl, Nat.le_refl _, fun _ _ _ => rfl⟩⟩
  | some ad =>
    have hcells : ∀ j x, (ys.flatMap enc)[j]? = some x → w.cell? (ad.add j) = some x := by
      intro j x hj
      have hjl : j < ys.length * size := by
        rw [← flat_len hk ys]
        exact (List.getElem?_eq_some_iff.1 hj).1
      have hq : j / size < ys.length := (Nat.div_lt_iff_lt_mul hsz).2 hjl
      obtain ⟨b, off, e1, _, h5⟩ := hu.2.2.2 (fun h => by simp [h] at hq)
      cases e1
      have hadd : (⟨b, off, none⟩ : Addr).add j = ⟨b, off + (j / size * size + j % size), none⟩ := by
        rw [show j / size * size + j % size = j by rw [Nat.mul_comm]; exact Nat.div_add_mod j size]
        unfold Addr.add; split <;> simp_all
      obtain ⟨cs, h6, h7, h8⟩ := h5 (j / size) hq
      rw [hadd, h7 _ (Nat.mod_lt _ hsz), h8, ← flat_at hk ys (j / size) (j % size) hq (Nat.mod_lt _ hsz), show j / size * size + j % size = j by rw [Nat.mul_comm]; exact Nat.div_add_mod j size]
      exact hj
    have hone : ∀ c ∈ ys.flatMap enc, c.oneCell' = true := by
      intro c hc
      obtain ⟨x, _, hx⟩ := List.mem_flatMap.1 hc
      exact h1 x c hx
    obtain ⟨v', w', hr, h2, h3, _⟩ := run_append_own_at (P := P) w base t ty e i z size bytes ht hi hz hsize hby hzs hsz v xs.length (xs.flatMap enc) hown ad ys.length cap (ys.flatMap enc) (flat_len hk ys) hcells hone h63 hbytes hbase
    refine ⟨v', w', hr, ?_, h3⟩
    unfold OwnL
    rw [List.flatMap_append, List.length_append]
    exact h2

theorem wpList_app_sla (w : World) {ops : Array Oper} {rest : List Oper} {o : Oper} {a : Act} {Q : Exit → Act → World → Prop} (hgd : o.guard = none) (s x : Operand) (t : TypeId)
    (ho : o.op = .call { callee := .builtin .append, args := #[s, x], argTypes := #[t, t] })
    {i : TypeInfo} {z : Value} {bytes : Nat} (ht : P.underlying t = some (.slice e)) (hi : P.info? e = some i) (hz : i.zero = some z)
    (hsize : i.size = size) (hby : i.bytes = bytes) (hzs : z.cells.size = size) (hsz : 0 < size)
    {v : Value} {xs ys : List α} {B cap : Nat} {ao : Option Addr} (hs : a.eval s = v) (hown : OwnL enc w base e size v xs) (hx : a.eval x = .slice ao ys.length cap) (hu : SlA B size (fun _ cs x => cs = enc x) w ao cap ys) (hk : ∀ x, (enc x).length = size) (h1 : ∀ x, ∀ c ∈ enc x, c.oneCell' = true)
    (h63 : xs.length + ys.length ≤ maxLen) (hbytes : (xs.length + ys.length) * bytes ≤ 140737488355328) (hbase : base ≤ w.heap.size)
    (h : ∀ v' w', OwnL enc w' base e size v' (xs ++ ys) → w.grownBy w' v.ownBlock → wpList P ops Q rest (a.put o.dst v') w') : wpList P ops Q (o :: rest) a w := by
  obtain ⟨v', w', hr, h2, h3⟩ := run_append_sla (P := P) w t o.type ht hi hz hsize hby hzs hsz hown hu hk h1 h63 hbytes hbase
  exact Lib.wpList_append_run w hgd s x t t ho v _ hs hx v' w' hr (h v' w' h2 h3)
end
end Go

/- A region that draws its order, in three parts.
  The front: p operations that only read (they may also come behind the rest).
  The middle, in an order q of our choice: operations that read, and calls whose value is fixed and that make memory alone (R), and those of odd: any, each alone when, in the order q, it comes up.
  The tail: each of sp alone when it comes up, the others only read. -/
namespace Go
section
variable {P : Program} {ops : Array Oper} {md : Region.Mode} {S : World → Prop} {Q : Exit → Act → World → Prop}

section
variable {R : World → World → Prop}

/-- From w on, whatever else has come meanwhile, the value is v and the world goes on. -/
def YieldsR (P : Program) (ops : Array Oper) (R : World → World → Prop) (S : World → Prop) (o : Oper) (v : Value) (a : Act) (w : World) : Prop :=
  (Region.wanted o (yielded ops a.tmps) = true ∧ ∀ w1, R w w1 → S w1 → o.quietAt P a (R w1) w1 v) ∨
  (Region.wanted o (yielded ops a.tmps) = false ∧ v = undef)

theorem YieldsR.wpOp {i : Nat} {o : Oper} {v : Value} {a : Act} {w w1 : World} (hR0 : ∀ w, R w w) (hi : ops[i]? = some o) (hy : YieldsR P ops R S o v a w) (h1 : R w w1) (hS : S w1)
    {K : Act → World → Prop} (hK : ∀ w', R w1 w' → K (a.put o.dst v) w') : wpOp P ops Q i K a w1 := by
  unfold Go.wpOp
  simp only [hi]
  rcases hy with ⟨hw, hv⟩ | ⟨hw, rfl⟩
  · simp only [hw, if_true]
    have h3 := hv w1 h1 hS
    unfold Oper.quietAt at h3
    refine .inl ?_
    unfold Oper.wp
    generalize (execOp a.eval o).run P w1 = r at *
    cases r with
    | ok n w' =>
      cases n <;> simp only [Oper.quietUpon] at h3 <;> simp only [Oper.upon]
      case value u =>
        obtain ⟨e1, e2⟩ := h3
        rw [e1, e2]
        exact hK _ (hR0 _)
      case skip =>
        obtain ⟨e1, e2⟩ := h3
        rw [e1, ← e2]
        exact hK _ (hR0 _)
      case enter f args =>
        obtain ⟨e1, e2⟩ := h3
        rw [e1]
        refine Calls.mono e2 fun e w'' he => ?_
        obtain ⟨he, hr⟩ := he
        subst he
        exact hK _ hr
    | halt x w' => simp only [Oper.quietUpon] at h3
  · simp only [hw, Bool.false_eq_true, if_false]
    exact hK _ (hR0 _)

end
end
end Go

/- A region that draws its order: a head whose operations are quiet while S holds, or of the spine, walked in an order of our choice; and a tail in a forced order behind it. -/
namespace Go
section
variable {P : Program} {ops : Array Oper} {md : Region.Mode} {S : World → Prop} {Q : Exit → Act → World → Prop}

end
end Go

/- A region that draws its order, in which some operations float: they wait for nothing and only the tail waits for them (the alloc of a variable beside the calls that its value comes of). What they give is known by an assertion that abides whatever the others do. The others are walked in an order of our choice. -/
namespace Go
structure Flt where
  idx : Nat
  o : Oper
  V : Value → World → Prop
section
variable {P : Program} {ops : Array Oper} {md : Region.Mode} {S : World → Prop} {Q : Exit → Act → World → Prop} {R0 R : World → World → Prop} {Old : Value → World → Prop}

def Lfl (R0 : World → World → Prop) : List Flt → List Value → (Act → World → Prop) → Act → World → Prop
  | [], _, L, a, w => L a w
  | f :: r, tk, L, a, w => ∀ v w1, R0 w w1 → f.V v w1 → (∀ u ∈ tk, u ≠ v) → Lfl R0 r (v :: tk) L (a.put f.o.dst v) w1

def wpMidF (P : Program) (ops : Array Oper) (Q : Exit → Act → World → Prop) (R0 R : World → World → Prop) (S : World → Prop) (odd : List Nat) (L : Act → World → Prop) : List (Nat × Oper) → Act → World → Prop
  | [], a, w => ∀ w1, R0 w w1 → S w1 → L a w1
  | x :: r, a, w =>
    if odd.contains x.1 = true then ∀ w1, R0 w w1 → S w1 → wpOp P ops Q x.1 (fun a' w' => R w1 w' ∧ S w' ∧ wpMidF P ops Q R0 R S odd L r a' w') a w1
    else ∃ v, YieldsIf P ops S x.2 v a ∧ wpMidF P ops Q R0 R S odd L r (a.put x.2.dst v) w

theorem Lfl.tk {L : Act → World → Prop} : ∀ {fl : List Flt} {tk tk' : List Value} {a : Act} {w : World}, (∀ u ∈ tk, u ∈ tk') → Lfl R0 fl tk L a w → Lfl R0 fl tk' L a w
  | [], _, _, _, _, _, h => h
  | f :: r, tk, tk', a, w, ht, h => fun v w1 h1 h2 h3 => Lfl.tk (fun u hu => by
      rcases List.mem_cons.1 hu with rfl | hu
      · simp
      · exact List.mem_cons_of_mem _ (ht u hu)) (h v w1 h1 h2 (fun u hu => h3 u (ht u hu)))

/-- One of the floats is done. -/
theorem Lfl.done (hR0 : ∀ w, R0 w w) (hRt : ∀ a b c, R0 a b → R0 b c → R0 a c) {L : Act → World → Prop} {f : Flt} {post : List Flt} {v : Value} (hst : ∀ w w', R0 w w' → f.V v w → f.V v w') :
    ∀ {pre : List Flt} {tk : List Value} {a : Act} {w w2 : World}, (∀ g ∈ pre, ∀ d, f.o.dst = some d → g.o.dst ≠ some d) → Lfl R0 (pre ++ f :: post) tk L a w → R0 w w2 → f.V v w2 → (∀ u ∈ tk, u ≠ v) →
      Lfl R0 (pre ++ post) (v :: tk) L (a.put f.o.dst v) w2
  | [], tk, a, w, w2, _, h, h1, h2, h3 => h v w2 h1 h2 h3
  | g :: pre, tk, a, w, w2, hd, h, h1, h2, h3 => fun vg w3 h4 h5 h6 => by
    have := Lfl.done hR0 hRt hst (fun g' hg' => hd g' (List.mem_cons_of_mem _ hg')) (h vg w3 (hRt _ _ _ h1 h4) h5 (fun u hu => h6 u (List.mem_cons_of_mem _ hu))) (hR0 w3) (hst _ _ h4 h2) (fun u hu => by
      rcases List.mem_cons.1 hu with rfl | hu
      · exact Ne.symm (h6 v (List.mem_cons_self ..))
      · exact h3 u hu)
    rw [← Act.put_comm a v vg (hd g (List.mem_cons_self ..))] at this
    exact Lfl.tk (fun u hu => by
      simp only [List.mem_cons] at hu ⊢
      rcases hu with rfl | rfl | hu
      · exact .inr (.inl rfl)
      · exact .inl rfl
      · exact .inr (.inr hu)) this

theorem wpMidF.mono {odd : List Nat} {L L' : Act → World → Prop} (hL : ∀ a w, L a w → L' a w) : ∀ {l : List (Nat × Oper)} {a : Act} {w : World}, wpMidF P ops Q R0 R S odd L l a w → wpMidF P ops Q R0 R S odd L' l a w
  | [], a, w, h => fun w3 h3 hS => hL _ _ (h w3 h3 hS)
  | x :: l, a, w, h => by
    rw [wpMidF] at h ⊢
    split
    · rename_i hsp
      rw [if_pos hsp] at h
      exact fun w3 h3 hS => wpOp_mono (fun a' w' h' => ⟨h'.1, h'.2.1, wpMidF.mono hL h'.2.2⟩) (h w3 h3 hS)
    · rename_i hsp
      rw [if_neg hsp] at h
      obtain ⟨u, hy, hm⟩ := h
      exact ⟨u, hy, wpMidF.mono hL hm⟩

def Region.noDep (ops : Array Oper) (all : List Nat) (n : Nat) : Bool :=
  (List.range n).all fun j => match ops[j]? with | some o => o.after.all (fun e => !all.contains e.on) | none => true

/-- What is done of the floats beside the canonical list. -/
structure FInv (ops : Array Oper) (all : List Nat) (fl : List Flt) (n : Nat) (base listed : Array Bool) : Prop where
  size : listed.size = base.size
  agree : ∀ j, j ∉ all → listed[j]? = base[j]?
  base0 : ∀ j ∈ all, base.getD j true = false
  pend : ∀ f ∈ fl, ops[f.idx]? = some f.o ∧ f.idx < n ∧ f.o.after = #[] ∧ f.idx ∈ all ∧ listed.getD f.idx true = false
  done : ∀ i ∈ all, (∀ f ∈ fl, f.idx ≠ i) → listed.getD i false = true
  nodup : (fl.map Flt.idx).Nodup

theorem getD_of_get {a b : Array Bool} {j : Nat} (h : a[j]? = b[j]?) (d : Bool) : a.getD j d = b.getD j d := by
  simp only [Array.getD_eq_getD_getElem?, h]

theorem FInv.ready {all : List Nat} {fl : List Flt} {n : Nat} {base listed : Array Bool} (h : FInv ops all fl n base listed) (hno : Region.noDep ops all n = true) {j : Nat} (hj : j ∉ all) (hn : j < n) : j ∈ Region.ready md ops listed ↔ j ∈ Region.ready md ops base := by
  rw [mem_ready, mem_ready, getD_of_get (h.agree j hj)]
  have h1 := List.all_eq_true.1 hno j (List.mem_range.2 hn)
  constructor
  all_goals (
    rintro ⟨a1, o, ho, a2⟩
    refine ⟨a1, o, ho, fun e he hb => ?_⟩
    rw [ho] at h1
    have h3 := Array.all_eq_true_iff_forall_mem.1 h1 e he
    have h4 : e.on ∉ all := by simpa using h3
    have := a2 e he hb)
  · rw [getD_of_get (h.agree _ h4)] at this; exact this
  · rw [getD_of_get (h.agree _ h4)]; exact this

theorem FInv.set {all : List Nat} {fl : List Flt} {n : Nat} {base listed : Array Bool} (h : FInv ops all fl n base listed) {i : Nat} (hi : i ∉ all) : FInv ops all fl n (base.setIfInBounds i true) (listed.setIfInBounds i true) where
  size := by simp [h.size]
  agree := fun j hj => by
    by_cases hij : i = j
    · subst hij
      rw [Array.getElem?_setIfInBounds, Array.getElem?_setIfInBounds, if_pos rfl, if_pos rfl, h.size]
    · rw [Array.getElem?_setIfInBounds_ne hij, Array.getElem?_setIfInBounds_ne hij]; exact h.agree j hj
  base0 := fun j hj => by rw [getD_set_ne true (fun e => hi (by rw [e]; exact hj))]; exact h.base0 j hj
  pend := fun f hf => by
    obtain ⟨a1, a2, a3, a4, a5⟩ := h.pend f hf
    exact ⟨a1, a2, a3, a4, by rw [getD_set_ne true (fun e => hi (by rw [e]; exact a4))]; exact a5⟩
  done := fun j hj hf => by rw [getD_set_ne false (fun e => hi (by rw [e]; exact hj))]; exact h.done j hj hf
  nodup := h.nodup

end
end Go
namespace Go
open RowKit
variable {P : Program}
end Go

/- A region that draws its order, as a tree: quiet operations are taken one by one in an order of our choice; where only makers of memory or calls are ready, each of them may come next, and each way is walked. The region's text stays hidden behind a variable. -/
namespace Go
open Go.RowKit
section
variable {P : Program} {ops : Array Oper} {md : Region.Mode} {S : World → Prop} {Q : Exit → Act → World → Prop} {T : Act → World → Prop} {n : Nat} {l : List Oper}

/-- What is so of the region whatever comes. -/
structure TreeOk (md : Region.Mode) (ops : Array Oper) (Q : Exit → Act → World → Prop) (n : Nat) : Prop where
  sel : Region.noSelect ops = true
  sink : Region.sinkB md ops n = true
  chain : Region.chainB md ops n = true
  lt : n < ops.size
  quit : ∀ d c a v w, Q (.panic c) (Act.put a d v) w → Q (.panic c) a w

def wpTree (P : Program) (md : Region.Mode) (ops : Array Oper) (Q : Exit → Act → World → Prop) (S : World → Prop) (n : Nat) (T : Act → World → Prop) (f : Nat) (listed : Array Bool) (a : Act) (w : World) : Prop :=
  HeadInv md ops n listed → S w → wpAnyC P md ops Q S n (fun listed' a' w' => Region.seqB md ops (ops.size - n) n listed' = true ∧ T a' w') f listed a w

def Region.treeQB (md : Region.Mode) (ops : Array Oper) (n k : Nat) (listed : Array Bool) : Bool := decide (k < n) && (Region.ready md ops listed).contains k && Region.free md ops listed k

/-- A quiet operation is taken. -/
theorem wpTree_qg {f : Nat} {listed : Array Bool} {a : Act} {w : World} {o : Oper} (k : Nat) (ok : TreeOk md ops Q n) (hO : Hid (ops = l.toArray)) (hB : Region.treeQB md l.toArray n k listed = true) (ho : l[k]? = some o) (hg : Region.wanted o (yielded l.toArray a.tmps) = true)
    (h : ∃ v, (∀ w, S w → (execOp a.eval o).run P w = .ok (.value v) w) ∧ wpTree P md ops Q S n T f (listed.setIfInBounds k true) (a.put o.dst v) w) : wpTree P md ops Q S n T (f + 1) listed a w := by
  have hO := hO.out
  subst hO
  intro inv hS
  obtain ⟨v, hy, hK⟩ := h
  simp only [Region.treeQB, Bool.and_eq_true, decide_eq_true_eq] at hB
  obtain ⟨⟨hkn, hr⟩, hf⟩ := hB
  have hr' : k ∈ Region.ready md l.toArray listed := by simpa using hr
  have ho' : l.toArray[k]? = some o := by simpa using ho
  exact wpAnyC_first ho' (Region.noSelect_spec ok.sel) ok.sink ok.chain ok.lt hkn (fun c a w => ok.quit _ c a v w) (fun listed' a' w' hL => seqB_ready hL.1) f listed a w inv (Region.free_spec ho' hf) hr' (.inl ⟨hg, hy⟩) hS
    (hK (inv.set hr' hkn) hS)
theorem wpTree_q {f : Nat} {listed : Array Bool} {a : Act} {w : World} {o : Oper} (k : Nat) (ok : TreeOk md ops Q n) (hO : Hid (ops = l.toArray)) (hB : Region.treeQB md l.toArray n k listed = true) (ho : l[k]? = some o) (hg : o.guard = none)
    (h : ∃ v, (∀ w, S w → (execOp a.eval o).run P w = .ok (.value v) w) ∧ wpTree P md ops Q S n T f (listed.setIfInBounds k true) (a.put o.dst v) w) : wpTree P md ops Q S n T (f + 1) listed a w :=
  wpTree_qg k ok hO hB ho (by simp [Region.wanted, hg]) h
/-- .. a guarded one that is not wanted. -/
theorem wpTree_qn {f : Nat} {listed : Array Bool} {a : Act} {w : World} {o : Oper} (k : Nat) (ok : TreeOk md ops Q n) (hO : Hid (ops = l.toArray)) (hB : Region.treeQB md l.toArray n k listed = true) (ho : l[k]? = some o) (hg : Region.wanted o (yielded l.toArray a.tmps) = false)
    (h : wpTree P md ops Q S n T f (listed.setIfInBounds k true) (a.put o.dst undef) w) : wpTree P md ops Q S n T (f + 1) listed a w := by
  have hO := hO.out
  subst hO
  intro inv hS
  simp only [Region.treeQB, Bool.and_eq_true, decide_eq_true_eq] at hB
  obtain ⟨⟨hkn, hr⟩, hf⟩ := hB
  have hr' : k ∈ Region.ready md l.toArray listed := by simpa using hr
  have ho' : l.toArray[k]? = some o := by simpa using ho
  exact wpAnyC_first ho' (Region.noSelect_spec ok.sel) ok.sink ok.chain ok.lt hkn (fun c a w => ok.quit _ c a undef w) (fun listed' a' w' hL => seqB_ready hL.1) f listed a w inv (Region.free_spec ho' hf) hr' (.inr ⟨hg, rfl⟩) hS
    (h (inv.set hr' hkn) hS)

/-- What each of the ready ones owes. -/
def TreeOwes (P : Program) (md : Region.Mode) (ops : Array Oper) (Q : Exit → Act → World → Prop) (S : World → Prop) (n : Nat) (T : Act → World → Prop) (f : Nat) (listed : Array Bool) (a : Act) (w : World) (k : Nat) (o : Oper) : Prop :=
  ∀ K' : Act → World → Prop, Shut (∀ a w, S w → wpTree P md ops Q S n T f (listed.setIfInBounds k true) a w → K' a w) → if Region.wanted o (yielded ops a.tmps) = true then Oper.wp P o a w K' Q else K' (a.put o.dst undef) w

theorem wpTree_owes {f : Nat} {listed : Array Bool} {a : Act} {w : World} {o : Oper} {k : Nat} (inv : HeadInv md ops n listed) (hr : k ∈ Region.ready md ops listed) (hkn : k < n) (ho : ops[k]? = some o) (h : TreeOwes P md ops Q S n T f listed a w k o) :
    wpOp P ops Q k (fun a' w' => S w' ∧ wpAnyC P md ops Q S n (fun listed' a' w' => Region.seqB md ops (ops.size - n) n listed' = true ∧ T a' w') f (listed.setIfInBounds k true) a' w') a w :=
  wpOp_step ho (fun K' hK => h K' (fun a w hS hW => hK a w ⟨hS, hW (inv.set hr hkn) hS⟩))

theorem wpTree_1 {f : Nat} {listed : Array Bool} {a : Act} {w : World} {o : Oper} (k : Nat) (hO : Hid (ops = l.toArray)) (hB : decide (Region.ready md l.toArray listed = [k]) = true) (hkn : k < n) (ho : l[k]? = some o)
    (h : TreeOwes P md ops Q S n T f listed a w k o) : wpTree P md ops Q S n T (f + 1) listed a w := by
  have hO := hO.out
  subst hO
  intro inv hS
  have hB := of_decide_eq_true hB
  refine ⟨by rw [hB]; simp, fun i hi => ?_⟩
  have hi' := hi
  rw [hB] at hi
  obtain rfl : i = k := by simpa using hi
  exact ⟨hkn, wpTree_owes inv hi' hkn (by simpa using ho) h⟩
/-- .. a wanted one. -/
theorem wpTree_1g {f : Nat} {listed : Array Bool} {a : Act} {w : World} {o : Oper} (k : Nat) (hO : Hid (ops = l.toArray)) (hB : decide (Region.ready md l.toArray listed = [k]) = true) (hkn : k < n) (ho : l[k]? = some o) (hg : Region.wanted o (yielded l.toArray a.tmps) = true)
    (h : ∀ K' : Act → World → Prop, Shut (∀ a w, S w → wpTree P md ops Q S n T f (listed.setIfInBounds k true) a w → K' a w) → Oper.wp P o a w K' Q) : wpTree P md ops Q S n T (f + 1) listed a w :=
  wpTree_1 k hO hB hkn ho (fun K' hK => by rw [if_pos (by rw [hO.out]; exact hg)]; exact h K' hK)

theorem wpTree_2 {f : Nat} {listed : Array Bool} {a : Act} {w : World} {o1 o2 : Oper} (k1 k2 : Nat) (hO : Hid (ops = l.toArray)) (hB : decide (Region.ready md l.toArray listed = [k1, k2]) = true) (hk1 : k1 < n) (hk2 : k2 < n) (ho1 : l[k1]? = some o1) (ho2 : l[k2]? = some o2)
    (h1 : TreeOwes P md ops Q S n T f listed a w k1 o1) (h2 : TreeOwes P md ops Q S n T f listed a w k2 o2) : wpTree P md ops Q S n T (f + 1) listed a w := by
  have hO := hO.out
  subst hO
  intro inv hS
  have hB := of_decide_eq_true hB
  refine ⟨by rw [hB]; simp, fun i hi => ?_⟩
  have hi' := hi
  rw [hB] at hi
  rcases (by simpa using hi : i = k1 ∨ i = k2) with rfl | rfl
  · exact ⟨hk1, wpTree_owes inv hi' hk1 (by simpa using ho1) h1⟩
  · exact ⟨hk2, wpTree_owes inv hi' hk2 (by simpa using ho2) h2⟩

theorem wpTree_nil {listed : Array Bool} {a : Act} {w : World} (hO : Hid (ops = l.toArray)) (hB : Region.seqB md l.toArray (l.toArray.size - n) n listed = true) (h : T a w) : wpTree P md ops Q S n T 0 listed a w := fun _ _ => ⟨by rw [hO.out]; exact hB, h⟩
theorem wpTree_world {f : Nat} {listed : Array Bool} {a : Act} {W : World} (h : ∀ w1, w1 = W → wpTree P md ops Q S n T f listed a w1) : wpTree P md ops Q S n T f listed a W := h _ rfl
theorem wp_region_tree {id : Nat} {a : Act} {w : World} (S : World → Prop) (n N : Nat) (hm : P.follows .mixedOrders = true) (hN : l.length = N)
    (hB : (Region.noSelect l.toArray && decide (n < l.toArray.size) && Region.sinkB .any l.toArray n && Region.chainB .any l.toArray n) = true)
    (hQ : ∀ d c a v w, Q (.panic c) (Act.put a d v) w → Q (.panic c) a w) (hS : S w.drew)
    (h : ∀ (ops : Array Oper) (T : Act → World → Prop), Hid (ops = l.toArray) → Hid (∀ a' w', wpList P l.toArray Q (l.drop n) a' w' → T a' w') → TreeOk .any ops Q n → S w.drew → wpTree P .any ops Q S n T n (Array.replicate N false) a w.drew) : (Code.region id l.toArray true).wp P Q a w := by
  simp only [Bool.and_eq_true, decide_eq_true_eq] at hB
  obtain ⟨⟨⟨hsel, hn⟩, hs⟩, hc⟩ := hB
  have hn' : n < l.length := by simpa using hn
  have hdl : (l.drop n).length = l.toArray.size - n := by simp
  have inv0 : HeadInv .any l.toArray n (Array.replicate l.length false) :=
    ⟨by simp, fun j oj _ hl => (by rw [getD_replicate_false] at hl; cases hl), fun t _ ht => getD_in (by simpa using ht) (getD_replicate_false _ _)⟩
  subst hN
  have H := h l.toArray (fun a' w' => wpList P l.toArray Q (l.drop n) a' w') (Lib.hid rfl) (Lib.hid (fun _ _ h => h)) ⟨hsel, hs, hc, hn, hQ⟩ hS inv0 hS
  refine wp_region_any hm ?_
  have := wpAny_of_headC (g := l.toArray.size - n) (fun listed a' w' hL => by
    have := wpAny_of_seq (md := .any) (Q' := Q) (l.drop n) n listed a' w' (fun j => by simp [List.getElem?_drop]) (by rw [hdl]; exact hL.1) hL.2
    rwa [hdl] at this) _ _ _ _ H
  rw [show n + (l.toArray.size - n) = l.toArray.size by omega] at this
  simpa using this
end
end Go

/- Regions with two floating allocs. -/
namespace Go
open Go.RowKit
set_option linter.unusedVariables false
end Go

/- An array that came in reads as a list. -/
namespace Go
open Go.RowKit Go.ChangeShapes Go.WideShapes

def RAr {α : Type} (n sz : Nat) (E : World → List Value → α → Prop) (w : World) (cs : List Value) (xs : List α) : Prop :=
  xs.length = n ∧ cs.length = n * sz ∧ ∀ i (_ : i < xs.length), E w ((cs.drop (i * sz)).take sz) xs[i]

theorem RAr.of_trod {α H : Type} {enc : TypeId × Value → H} {P : Program} {w : World} {spare : Nat → Bool} {held : Bool} {t : TypeId} {fuel : Nat} {cs : List Value} {x : DataW H × List MemPlace} {B n sz : Nat} {E : World → List Value → α → Prop} {e : TypeId}
    (ht : P.underlying t = some (.array n e)) (hsz : P.cellsOf e = sz) (hct : P.cellsOf t = n * sz)
    (h : DataW.trod enc P w 0 spare held fuel t cs = some x) (hp : ∀ p ∈ x.2, p.block < B)
    (hE : ∀ n cs y, DataW.trod enc P w 0 spare held n e cs = some y → (∀ p ∈ y.2, p.block < B) → ∃ a, E w cs a) : ∃ xs, RAr n sz E w cs xs := by
  obtain ⟨ys, m, _, rfl, hl, hlen, hf⟩ := DataW.trod_array ht h
  rw [hct] at hl
  rw [hsz] at hf
  have hall : ∀ i, i < n → ∃ a : α, E w ((cs.drop (i * sz)).take sz) a := by
    intro i hi
    have hiy : i < ys.length := by omega
    have h1 := hf i hi
    rw [List.getElem?_eq_getElem hiy] at h1
    exact hE _ _ _ h1 (fun p hq => hp p (List.mem_flatMap.2 ⟨ys[i], List.getElem_mem hiy, hq⟩))
  obtain ⟨xs, hxl, hxx⟩ := list_of_all hall
  exact ⟨xs, hxl, hl, fun i hi => hxx i hi⟩

end Go

/- Sizes of nested slices out of a reading's weights. -/
namespace Go
open Go.RowKit Go.ChangeShapes Go.WideShapes
set_option linter.unusedVariables false
section
variable {H : Type} {enc : TypeId × Value → H} {P : Program} {w : World} {held : Bool} {t : TypeId} {fuel : Nat} {cs : List Value} {x : DataW H × List MemPlace}
theorem SlA.of_trodW {α : Type} {B sz : Nat} {E : World → List Value → α → Prop} {e : TypeId} {Wt : DataW H → Prop} (ht : P.underlying t = some (.slice e)) (hsz : P.cellsOf e = sz) (hs0 : 0 < sz)
    (h : DataW.trod enc P w 0 (fun _ => true) held fuel t cs = some x) (hp : ∀ p ∈ x.2, p.block < B) (hW : ∀ elems sp, x.1 = .slice elems sp → ∀ d ∈ elems, Wt d)
    (hE : ∀ n cs y, DataW.trod enc P w 0 (fun _ => true) held n e cs = some y → (∀ p ∈ y.2, p.block < B) → Wt y.1 → ∃ a, E w cs a) :
    ∃ ao cap xs, cs = [.slice ao xs.length cap] ∧ SlA B sz E w ao cap xs := by
  rcases DataW.trod_slice ht h with ⟨rfl, rfl⟩ | ⟨a, len, cap, elems, rest, n, _, rfl, hx, _, hl, hm, hel, hx1, _, _⟩
  · exact ⟨none, 0, [], rfl, SlA.nil _ _ _ _⟩
  subst hx
  dsimp only at hp hW
  rw [hsz] at hx1 hp
  have hall : ∀ i, i < len → ∃ y : α, ∃ cs' : List Value, cs'.length = sz ∧ (∀ j, j < sz → w.cell? ((a.add (i * sz)).add j) = cs'[j]?) ∧ E w cs' y := by
    intro i hi
    have hie : i < elems.length := by omega
    have h0 := hx1 i hi
    rw [List.getElem?_eq_getElem hie] at h0
    obtain ⟨cs', h1, h2⟩ := Option.bind_eq_some_iff.1 h0
    obtain ⟨_, h3, h4⟩ := World.cells?_some h1
    obtain ⟨y, hy⟩ := hE _ _ _ h2 (fun p hp' => hp p (List.mem_append_right _ (List.mem_flatMap.2 ⟨elems[i], List.mem_append_left _ (List.getElem_mem hie), hp'⟩))) (hW _ _ rfl _ (List.mem_map.2 ⟨_, List.getElem_mem hie, rfl⟩))
    exact ⟨y, cs', h3, h4, hy⟩
  obtain ⟨xs, hxl, hxx⟩ := list_of_all hall
  subst hxl
  refine ⟨some a, cap, xs, rfl, hl, hm, (by simp), fun hne => ?_⟩
  have hpos : 0 < xs.length := List.length_pos_iff.2 hne
  have hspot : a.spot = none := by
    obtain ⟨cs', h1, h2, _⟩ := hxx 0 hpos
    have h3 := h2 0 hs0
    rw [List.getElem?_eq_getElem (by omega)] at h3
    have : ((a.add (0 * sz)).add 0) = a := by simp [Addr.add]
    rw [this] at h3
    exact World.cell?_spot h3
  obtain ⟨b, off, spot⟩ := a
  simp only at hspot
  subst hspot
  refine ⟨b, off, rfl, ?_, fun i hi => ?_⟩
  · have hmz : 0 < (elems.length + rest.length) * sz := Nat.mul_pos (by omega) hs0
    have := hp (.cell b off) (List.mem_append_left _ (by
      unfold MemPlace.row
      exact List.mem_map.2 ⟨0, List.mem_range.2 hmz, by simp⟩))
    exact this
  · obtain ⟨cs', h1, h2, h3⟩ := hxx i hi
    refine ⟨cs', h1, fun j hj => ?_, h3⟩
    rw [← h2 j hj, Deep.add_add]
    congr 1
    unfold Addr.add
    split <;> simp_all
end
end Go
