/- A region in a round of a range over a function: by the plain laws, where no operation is a defer. -/
import Derived.RangeFuncNested
import Derived.RangeFuncCalls
import Derived.OrdersIn
import Derived.TacticsIn
import Derived.Test.YtjmbafcpbagpdaaGreatL1
import Derived.RangeFuncLeaves
import Derived.RangeFuncFrom
import Derived.RangeFuncWrites
import Derived.WalkKit
import Derived.Deep.LoopGhost
namespace Go
variable {P : Program} {ops : Array Oper} {Q : Exit → Act → World → Prop} {n : Nat}

theorem rowsIn_round {n : Nat} {row : String} {args : Array Value} {w : World} {R : Value → World → Prop} (l : Nat) (h : Rows P row args w R) : RowsIn (Fence.wide.inRound l) n P row args w R :=
  fun c cs _ => let ⟨v, w', r, s⟩ := h c cs; ⟨v, w', r, stepsIn_wide.2 s⟩

theorem Oper.wpIn_of_wp {o : Oper} {a : Act} {w : World} {K : Act → World → Prop} (l : Nat) (hd : ∀ c, o.op ≠ .defer c) (h : o.wp P a w K Q) : o.wpIn (Fence.wide.inRound l) n P a w K Q := by
  refine ⟨fun f _ => trivial, ?_⟩
  rw [Fence.inRound_round, Oper.semAt_some l _ o hd]
  unfold Oper.wp at h
  generalize (execOp a.eval o).run P w = r at h
  cases r with
  | ok x w' =>
    cases x with
    | value v => exact h
    | skip => exact h
    | defer d => exact h
    | enter f args => exact ⟨(fun h => by cases h), CallsIn.inRound l (callsIn_wide.2 h)⟩
    | row row args => exact ⟨(fun h => by cases h), rowsIn_round l h⟩
    | _ => exact h.elim
  | halt x w' => cases x <;> exact h

theorem wpOpIn_of_wpOp {i : Nat} {K : Act → World → Prop} {a : Act} {w : World} (l : Nat) (hd : ∀ o ∈ ops, ∀ c, o.op ≠ .defer c) (hq : ¬ LetsOut Q) (h : wpOp P ops Q i K a w) : wpOpIn (Fence.wide.inRound l) n P ops Q i K a w := by
  unfold wpOpIn
  unfold wpOp at h
  cases ho : ops[i]? with
  | none => rw [ho] at h; exact h
  | some o =>
    rw [ho] at h
    simp only at h ⊢
    split at h
    · rename_i hw
      rw [if_pos hw]
      rcases h with h | h
      · exact Oper.wpIn_of_wp l (hd o (Array.mem_of_getElem? ho)) h
      · exact absurd h.2 hq
    · rename_i hw
      rw [if_neg hw]
      exact ⟨fun _ _ => trivial, h⟩

theorem wpAnyIn_of_wpAny {md : Region.Mode} (l : Nat) (hd : ∀ o ∈ ops, ∀ c, o.op ≠ .defer c) (hq : ¬ LetsOut Q) : ∀ (f : Nat) (listed : Array Bool) (a : Act) (w : World), wpAny P md ops Q f listed a w → wpAnyIn (Fence.wide.inRound l) n P md ops Q f listed a w
  | 0, _, _, _, h => h
  | f + 1, listed, a, w, h => ⟨h.1, fun i hi => by
      have h1 := wpOpIn_of_wpOp (n := n) l hd hq (h.2 i hi)
      exact wpOpIn_mono (fun a w h2 => wpAnyIn_of_wpAny l hd hq f _ a w h2) h1⟩

def notDefer : Op → Bool
  | .defer _ => false
  | _ => true
theorem notDefer_spec {ops : Array Oper} (h : ops.all (fun o => notDefer o.op) = true) : ∀ o ∈ ops, ∀ c, o.op ≠ .defer c := by
  intro o ho c e
  have := Array.all_eq_true_iff_forall_mem.1 h o ho
  rw [e] at this
  cases this

theorem round_region_quiet_tail {id : Nat} {a : Act} {w : World} {l : List Oper} (rd : Nat) (n0 : Nat) (hm : P.follows .mixedOrders = true) (hq : ¬ LetsOut Q) (hdf : l.toArray.all (fun o => notDefer o.op) = true) (hB : Region.lexTailB .any l.toArray n0 = true)
    (h : wpQuiet P l.toArray (fun w' => ∃ m, w' = w.drewN m) (fun a' => ∀ w', (∃ m, w' = w.drewN m) → wpList P l.toArray Q (l.drop n0) a' w') (l.take n0) a) : (Code.region id l.toArray true).wpIn (Fence.wide.inRound rd) n P Q a w := by
  simp only [Region.lexTailB, Bool.and_eq_true, decide_eq_true_eq] at hB
  obtain ⟨⟨⟨⟨hsel, hn⟩, hs⟩, hc⟩, hlex⟩ := hB
  have hn' : n0 < l.length := by simpa using hn
  have htl : (l.take n0).length = n0 := by simp; omega
  have hdl : (l.drop n0).length = l.toArray.size - n0 := by simp
  have inv0 : HeadInv .any l.toArray n0 (Array.replicate l.toArray.size false) :=
    ⟨by simp, fun j oj _ hl => (by rw [getD_replicate_false] at hl; cases hl), fun t _ ht => getD_in (by simpa using ht) (getD_replicate_false _ _)⟩
  have H := wpAnyLQ_lex (md := .any) (g := l.toArray.size - n0) hsel hs hc hn (l.take n0) 0 _ a (fun j hj => by
    have hj' : j < n0 := by rw [htl] at hj; exact hj
    simp [hj']) (by simpa using htl) inv0 (by rw [htl]; exact hlex) h
  refine wpIn_region_any hm (wpAnyIn_of_wpAny rd (notDefer_spec hdf) hq _ _ _ _ ?_)
  have := wpAny_of_headQ (Q' := Q) (g := l.toArray.size - n0) (C := fun w' => ∃ m, w' = w.drewN m) (fun listed a' w' hw' hL => by
    have := wpAny_of_seq (md := .any) (Q' := Q) (l.drop n0) n0 listed a' w' (fun j => by simp [List.getElem?_drop]) (by rw [hdl]; exact hL.1) (hL.2 w' hw')
    rwa [hdl] at this) _ _ _ { w with drawn := w.drawn + 1 } ⟨1, rfl⟩ H
  rw [htl, show n0 + (l.toArray.size - n0) = l.toArray.size by omega] at this
  exact this
end Go

/- A function whose body holds ranges over functions in a loop: the marks among its deferred calls. -/
namespace Go
open Go.RowKit
variable {P : Program} {F : Fence} {n : Nat}

/-- The marks of ranges over functions that have run out: each one's block, distinct, at or above B. -/
def Marks (B : Nat) : List Deferred → World → Prop
  | [], _ => True
  | d :: ds, w => ∃ D, d = { target := .collected D, args := #[] } ∧ B ≤ D ∧ w.heap[D]? = some (.deferred (some [])) ∧ (∀ e ∈ ds, e ≠ d) ∧ Marks B ds w

theorem Marks.kept {B : Nat} : ∀ {ds : List Deferred} {w w' : World}, Marks B ds w → (∀ D, B ≤ D → w.heap[D]? = some (.deferred (some [])) → { target := .collected D, args := #[] } ∈ ds → w'.heap[D]? = some (.deferred (some []))) → Marks B ds w'
  | [], _, _, _, _ => trivial
  | d :: ds, w, w', ⟨D, e, hB, hD, hne, hr⟩, h => ⟨D, e, hB, h D hB hD (by simp [e]), hne, hr.kept (fun D' h1 h2 h3 => h D' h1 h2 (by simp [h3]))⟩

/-- What the marks' going leaves: all but the blocks for deferred calls. -/
structure ShutM (B : Nat) (w w' : World) : Prop where
  below : Below B w w'
  same : ∀ i : Nat, (∀ x, w.heap[i]? ≠ some (Obj.deferred x)) → w'.heap[i]? = w.heap[i]?
theorem ShutM.refl (B : Nat) (w : World) : ShutM B w w := ⟨Below.refl _ _, fun _ _ => rfl⟩
theorem ShutM.cell {B : Nat} {w w' : World} (h : ShutM B w w') {b off : Nat} {v : Value} (hc : w.cell? ⟨b, off, none⟩ = some v) : w'.cell? ⟨b, off, none⟩ = some v := by
  have : ∀ x, w.heap[b]? ≠ some (Obj.deferred x) := by
    intro x e
    simp [World.cell?, e] at hc
  have h2 := h.same b this
  simp only [World.cell?] at hc ⊢
  rw [h2]
  exact hc

theorem leavesM_marks {fn : Func} {tmps : Array Value} {R : Ending → World → Prop} {B : Nat} : ∀ (ds : List Deferred) (w : World), Marks B ds w → B ≤ w.heap.size →
    (∀ w', ShutM B w w' → LeavesIn F n P fn tmps R [] .returning w') → LeavesInM F n P fn tmps R ds .returning w
  | [], w, _, _, h => h w (ShutM.refl B w)
  | d :: ds, w, ⟨D, e, hB, hD, hne, hr⟩, hBw, h => by
    subst e
    have hlt : D < w.heap.size := (Array.getElem?_eq_some_iff.1 hD).1
    have hput : ∀ i : Nat, i ≠ D → (w.putObj D (.deferred none)).heap[i]? = w.heap[i]? := by
      intro i hi
      simp [World.putObj, Ne.symm hi]
    have hbel : Below B w (w.putObj D (.deferred none)) := belowK_b (w := { w with heap := w.heap.extract 0 B }) (by simp; omega) w D _ _ (by simp; omega) hD rfl rfl
    refine ⟨by simp, .inl ⟨D, _, rfl, run_takeDeferred hD, leavesM_marks ds _ ?_ (by simpa [World.putObj] using hBw) ?_⟩⟩
    · refine hr.kept (fun D' h1 h2 h3 => ?_)
      have : D' ≠ D := fun e => hne _ h3 (by rw [e])
      rw [hput D' this]
      exact h2
    · intro w' hs
      refine h w' ⟨hbel.trans hs.below, fun i hi => ?_⟩
      have hiD : i ≠ D := fun e => hi _ (by rw [e]; exact hD)
      rw [hs.same i (by rw [hput i hiD]; exact hi), hput i hiD]

end Go

/- Loops in whose rounds ranges over functions leave marks among the deferred calls. -/
namespace Go
open Go.RowKit

def setAll : List Value → List Nat → List Value → List Value
  | l, i :: is, u :: us => setAll (l.set i u) is us
  | l, [], _ => l
  | l, _ :: _, [] => l

/-- What a function owes whose body holds ranges over functions: it returns, its marks being taken. -/
def bodyPostN (n : Nat) (P : Program) (fn : Func) (R : Ending → World → Prop) : Exit → Act → World → Prop
  | .normal, a, w | .ret, a, w => LeavesInM Fence.wide n P fn a.tmps R a.defers .returning w
  | _, _, _ => False
theorem calls_of_marks {P : Program} {f : FuncId} {fn : Func} {c : Code} {args : Array Value} {w : World} {R : Ending → World → Prop} (hf : P.funcs[f]? = some fn) (hb : fn.body = some c)
    (h : c.wp P (bodyPostN 8 P fn R) { tmps := args ++ Array.replicate (fn.ntmps - args.size) undef, defers := [] } w) : Calls P f args w R := by
  refine (callsIn_wide (n := 8)).1 (callsIn_of_wp_marks hf hb trivial (wpIn_mono (wpIn_wide.2 h) ?_) rfl)
  intro e a w h
  cases e with
  | normal => exact h
  | ret => exact h
  | panic c => exact h.elim
  | outgrown => exact h.elim
  | exit c => exact h.elim
  | goto c => exact h.elim

theorem setAll_self (l : List Value) : ∀ slots : List Nat, setAll l slots (slots.map fun i => l[i]?.getD undef) = l
  | [] => rfl
  | i :: is => by
    have h : l.set i (l[i]?.getD undef) = l := by
      by_cases hi : i < l.length
      · rw [List.getElem?_eq_getElem hi, Option.getD_some, List.set_getElem_self]
      · rw [List.set_eq_of_length_le (by omega)]
    show setAll (l.set i (l[i]?.getD undef)) is (is.map fun i => l[i]?.getD undef) = l
    rw [h]
    exact setAll_self l is

/-- A loop whose slots and deferred calls both turn. -/
theorem wp_loopM {P : Program} {c : Code} {Q : Exit → Act → World → Prop} {w : World} {l : List Value} {ds0 : List Deferred} (slots : List Nat) (rel : List Value → List Deferred → World → Prop) (μ : Act → World → Nat)
    (h0 : rel (slots.map fun i => l[i]?.getD undef) ds0 w)
    (round : ∀ us ds w, rel us ds w → c.wp P (Exit.then (fun a' w' => (∃ us' ds', a' = { tmps := (setAll l slots us').toArray, defers := ds' } ∧ rel us' ds' w') ∧ μ a' w' < μ { tmps := (setAll l slots us).toArray, defers := ds } w) Q) { tmps := (setAll l slots us).toArray, defers := ds } w) :
    (Code.loop c).wp P Q { tmps := l.toArray, defers := ds0 } w :=
  wp_loop (fun a w => ∃ us ds, a = { tmps := (setAll l slots us).toArray, defers := ds } ∧ rel us ds w) μ ⟨_, _, by rw [setAll_self], h0⟩ (fun a w ⟨us, ds, e, h⟩ => by subst e; exact round us ds w h)

theorem Marks.lt {B : Nat} : ∀ {ds : List Deferred} {w : World}, Marks B ds w → ∀ d ∈ ds, ∃ D, d = { target := .collected D, args := #[] } ∧ D < w.heap.size
  | [], _, _, d, hd => by cases hd
  | e :: ds, w, ⟨D, he, _, hD, _, hr⟩, d, hd => by
    rcases List.mem_cons.1 hd with rfl | hd
    · exact ⟨D, he, (Array.getElem?_eq_some_iff.1 hD).1⟩
    · exact hr.lt d hd
theorem Marks.chg {B : Nat} {S : Nat → Prop} {ds : List Deferred} {w w' : World} (h : Marks B ds w) (hc : Chg S w w') (hS : ∀ k, S k → ∀ x, w.heap[k]? ≠ some (.deferred x)) : Marks B ds w' :=
  h.kept fun D _ hD _ => (hc.block D (Array.getElem?_eq_some_iff.1 hD).1 (fun s => hS D s _ hD)).trans hD
theorem Marks.push {B D : Nat} {S : Nat → Prop} {ds : List Deferred} {w w' : World} (h : Marks B ds w) (hc : Chg S w w') (hS : ∀ k, S k → ∀ x, w.heap[k]? ≠ some (.deferred x)) (hB : B ≤ w.heap.size) (hD : w.heap.size ≤ D) (hW : w'.heap[D]? = some (.deferred (some []))) :
    Marks B ({ target := .collected D, args := #[] } :: ds) w' := by
  refine ⟨D, rfl, Nat.le_trans hB hD, hW, fun e he => ?_, h.chg hc hS⟩
  obtain ⟨D', rfl, h1⟩ := h.lt e he
  intro e
  injection e with e1 e2
  injection e1 with e1
  omega
theorem Blk.noDef {w : World} {b : Nat} {cs : Array Value} {T : TypeId} (h : Blk w b cs T) (x : Option (List Deferred)) : w.heap[b]? ≠ some (.deferred x) := by
  unfold Blk at h
  rw [h]
  intro e
  cases e

theorem keepsFrom_of_chg {S : Nat → Prop} {W W' : World} {B : Nat} (hc : Chg S W W') (hS : ∀ k, S k → k < W.heap.size → ∃ cs T f, W.heap[k]? = some (.cells cs T f)) : KeepsFrom B W W' :=
  ⟨hc.size, fun k o _ hk ho => by
    have hlt := (Array.getElem?_eq_some_iff.1 hk).1
    rw [hc.block k hlt (fun s => by obtain ⟨cs, T, f, h⟩ := hS k s hlt; rw [h] at hk; cases hk; cases ho), hk]⟩
end Go

/- Loops whose rounds leave marks, with the slots that turn given as a span; blocks known whole, as a list. -/
namespace Go
open Go.RowKit
set_option linter.unusedVariables false

def nthV : List Value → Nat → Value
  | [], _ => undef
  | x :: _, 0 => x
  | _ :: r, n + 1 => nthV r n
/-- s slots stay, the next c ones turn. -/
def fillL (f : Nat → Value) : Nat → Nat → Nat → List Value → List Value
  | _, _, _, [] => []
  | 0, 0, _, x :: r => x :: r
  | 0, c + 1, i, x :: r => f i :: fillL f 0 c (i + 1) r
  | s + 1, c, i, x :: r => x :: fillL f s c (i + 1) r
def RoundEnd (l : List Value) (keys : List Nat) (s c : Nat) (rel : Nat → List Value → List Deferred → World → Prop) (k : Nat) (a' : Act) (w' : World) : Prop :=
  ∃ us' k', a'.tmps = (setAll (fillL (nthV a'.tmps.toList) s c 0 l) keys us').toArray ∧ rel k' us' a'.defers w' ∧ k' < k
theorem RoundEnd.intro {l : List Value} {keys : List Nat} {s c k : Nat} {rel : Nat → List Value → List Deferred → World → Prop} {w' : World} {tm : List Value} {ds : List Deferred} (us' : List Value) (k' : Nat)
    (h : tm = setAll (fillL (nthV tm) s c 0 l) keys us') (hm : k' < k) (hr : rel k' us' ds w') : RoundEnd l keys s c rel k { tmps := tm.toArray, defers := ds } w' :=
  ⟨us', k', by dsimp only; exact congrArg List.toArray h, hr, hm⟩

/-- Blocks of one cell. -/
def Hd (L : List (Nat × Value × TypeId)) (w : World) : Prop := ∀ p ∈ L, Blk w p.1 #[p.2.1] p.2.2
namespace Hd
variable {L L' : List (Nat × Value × TypeId)} {w w' : World} {b : Nat} {v : Value} {T : TypeId}
theorem blk (h : Hd L w) (hm : (b, v, T) ∈ L) : Blk w b #[v] T := h _ hm
theorem cell (h : Hd L w) (hm : (b, v, T) ∈ L) : w.cell? ⟨b, 0, none⟩ = some v := (h _ hm).cellAt rfl
theorem lt (h : Hd L w) (hm : (b, v, T) ∈ L) : b < w.heap.size := (h _ hm).lt
theorem frozen (h : Hd L w) (hm : (b, v, T) ∈ L) : w.frozen? ⟨b, 0, none⟩ = false := (h _ hm).frozen 0
theorem nil (w : World) : Hd [] w := fun _ h => by cases h
theorem cons (h : Hd L w) (hb : Blk w b #[v] T) : Hd ((b, v, T) :: L) w := fun p hp => by
  rcases List.mem_cons.1 hp with rfl | hp
  · exact hb
  · exact h _ hp
theorem sub (h : Hd L w) (hL : ∀ p ∈ L', p ∈ L) : Hd L' w := fun p hp => h p (hL p hp)
theorem chg {S : Nat → Prop} (h : Hd L w) (k : Chg S w w') (hS : ∀ p ∈ L, ¬ S p.1) : Hd L' w' → Hd (L ++ L') w' := fun h' p hp => by
  rcases List.mem_append.1 hp with hp | hp
  · exact (h p hp).chg k (hS p hp)
  · exact h' p hp
theorem keep {S : Nat → Prop} (h : Hd L w) (k : Chg S w w') (hS : ∀ p ∈ L, ¬ S p.1) : Hd L w' := fun p hp => (h p hp).chg k (hS p hp)
theorem below {B : Nat} (h : Hd L w) (k : Below B w w') (hB : w.heap.size ≤ B) : Hd L w' := fun p hp => (h p hp).below k (Nat.lt_of_lt_of_le (h p hp).lt hB)
theorem alloc (h : Hd L w) (v : Value) (T : TypeId) : Hd ((w.heap.size, v, T) :: L) (w.alloc (.cells #[v] T)) := (h.keep ((Chg.refl (fun _ => False) w).alloc _) (fun _ _ h => h)).cons (Blk.new _ _ _)
theorem drewN (h : Hd L w) (n : Nat) : Hd L (w.drewN n) := fun p hp => (h p hp).drewN n
theorem drew (h : Hd L w) : Hd L w.drew := fun p hp => (h p hp).drew
theorem set (h : Hd L w) (hm : (b, v, T) ∈ L) (v' : Value) (hL : ∀ p ∈ L', p = (b, v', T) ∨ (p ∈ L ∧ p.1 ≠ b)) : Hd L' (w.setCell ⟨b, 0, none⟩ v') := fun p hp => by
  rcases hL p hp with rfl | ⟨h1, h2⟩
  · exact (h _ hm).set 0 v'
  · exact (h p h1).set_other (p := ⟨b, 0, none⟩) h2 v'
theorem grown {row : Option Nat} (h : Hd L w) (hg : w.grownBy w' row) (hr : ∀ r, row = some r → ∃ o : Obj, w.heap[r]? = some o ∧ o.isCells = false) : Hd L w' := h.keep (Chg.of_grown hg) (fun p hp e => by
  obtain ⟨o, h1, h2⟩ := hr _ e
  have := h p hp
  unfold Blk at this
  rw [this] at h1
  cases h1
  cases h2)
theorem own {β : Type} (B : Nat) (F : β → List (Nat × Value × TypeId)) : OwnFrom B (fun s W => Hd (F s) W) := fun s X Y row hs hg hr => hs.grown hg (fun r e => (hr r e).2)
theorem shut {B : Nat} (h : Hd L w) (hs : ShutM B w w') : Hd L w' := fun p hp => by
  have h1 := h p hp
  have := hs.same p.1 h1.noDef
  unfold Blk at *
  rw [this, h1]
end Hd
end Go

/- A calm region in a round of a range over a function. -/
namespace Go
open Go.RowKit
variable {P : Program} {Q : Exit → Act → World → Prop}
end Go
