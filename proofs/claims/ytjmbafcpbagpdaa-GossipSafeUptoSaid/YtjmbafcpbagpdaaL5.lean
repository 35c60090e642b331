/- A range over a function whose rounds keep all blocks but the loop's own record: the law takes the record's turns alone, so an iterator may rely on maps and on inner loops of its own. -/
import Derived.RangeFuncNested
import Derived.RangeFuncBound
import Derived.RangeFuncCalls
import Derived.RangeFuncLeaves
import Derived.RangeFuncFrom
import Derived.RangeFuncWrites
import Derived.Test.YtjmbafcpbagpdaaL2
namespace Go
open Go.RowKit

/-- The loop's bookkeeping as it lies, from B on: the block of the rounds' deferred calls, the record. -/
structure RecAt (B : Nat) (rec : Loop) (W : World) : Prop where
  rc : W.heap[B + 1]? = some (.loop rec)
  df : W.heap[B]? = some (.deferred (some []))
namespace RecAt
variable {B : Nat} {rec : Loop} {W W' : World}
theorem lt (h : RecAt B rec W) : B + 1 < W.heap.size := (Array.getElem?_eq_some_iff.1 h.rc).1
theorem put (h : RecAt B rec W) (rec' : Loop) : RecAt B rec' (W.putObj (B + 1) (.loop rec')) :=
  ⟨World.putObj_heap_same h.lt, (World.putObj_heap_other (by omega)).trans h.df⟩
theorem kept (h : RecAt B rec W) (k : KeepsFrom B W W') : RecAt B rec W' := ⟨k.same _ _ (by omega) h.rc rfl, k.same _ _ (Nat.le_refl _) h.df rfl⟩
theorem grown {row : Option Nat} (h : RecAt B rec W) (hg : W.grownBy W' row) (hr : ∀ r, row = some r → ∃ o : Obj, W.heap[r]? = some o ∧ o.isWalk = true) : RecAt B rec W' :=
  ⟨(grownBy_keeps hg (fun r e => by obtain ⟨o, h1, h2⟩ := hr r e; exact ⟨o, h1, h2⟩) h.rc rfl).trans h.rc, (grownBy_keeps hg (fun r e => by obtain ⟨o, h1, h2⟩ := hr r e; exact ⟨o, h1, h2⟩) h.df rfl).trans h.df⟩
theorem laid (w : World) (rec : Loop) : RecAt w.heap.size rec ((w.alloc (.deferred (some []))).alloc (.loop rec)) := by
  constructor
  · have := World.alloc_heap_new (w.alloc (.deferred (some []))) (.loop rec)
    rwa [World.size_alloc] at this
  · exact (Below.heap_alloc _ _ _ (by simp)).trans (World.alloc_heap_new w _)
end RecAt
section
variable {F : Fence} {n : Nat} {P : Program}

theorem wpIn_range_rec {α : Type} {g : Operand} {ps : Array Tmp} {assign body : Code} {Q : Exit → Act → World → Prop} {a : Act} {w : World}
    (hro : F.round = none) (h1 : 1 ≤ n) {gf : Nat} {lb : Array Value} (hg : a.eval g = .func (.func gf) #[] lb) (hFg : F.fn gf) (eg : ∀ args w, (callFunc gf args).run P w = .ok (.enter gf args) w)
    {encs : α → Array Value} {Kp : World → World → Prop} {S Sp : List α → Prop} {N : Nat} {w0 : World} (hseq : SeqStopsK F (n - 1) P gf lb encs Kp S Sp N w0)
    (hKt : ∀ {A B C : World}, Kp A B → Kp B C → Kp A C) (hKb : ∀ (W : World) (o : Obj), w.heap.size + 1 < W.heap.size → Kp W (W.putObj (w.heap.size + 1) o)) (hb0 : Below w0.heap.size w0 w) (hps : ∀ x, (encs x).size = ps.size)
    (I : List α → World → Prop) (Ix : Code → List α → World → Prop) (hI : OwnFrom w.heap.size I) (hIx : ∀ c, OwnFrom w.heap.size (Ix c)) (h0 : I [] w) (a₁ : α → Act)
    (hassign : ∀ (l : Nat) (x : α) (W : World) (K : Act → World → Prop), K (a₁ x) W →
      assign.wpIn (F.inRound l) (n - 1 - 1) P (Exit.then K (fun _ _ _ => False)) { tmps := (ps.zip (encs x)).foldl (fun t (p, v) => t.setIfInBounds p v) a.tmps, defers := [] } W)
    (hbody : ∀ (l : Nat) (pre : List α) (x : α) (W : World), l = w.heap.size + 1 → (∃ r, W.heap[l]? = some (.loop r)) → I pre W → pre.length < N → body.wpIn (F.inRound l) (n - 1 - 1) P (ownPostG w.heap.size Kp I Ix (pre ++ [x]) W) (a₁ x) W)
    (hdone : ∀ (D : Nat) (xs : List α) (W : World), w.heap.size ≤ D → S xs → I xs W → W.heap[D]? = some (.deferred (some [])) → Q .normal { a with defers := { target := .collected D, args := #[] } :: a.defers } W)
    (hstop : ∀ (D : Nat) (c : Code) (pre : List α) (W : World), w.heap.size ≤ D → Sp pre → Ix c pre W → W.heap[D]? = some (.deferred (some [])) → c.wpIn F n P Q { a with defers := { target := .collected D, args := #[] } :: a.defers } W) :
    (Code.rangeFunc g ps assign body).wpIn F n P Q a w := by
  refine wpIn_rangeFunc (fun fn hfn => ?_)
  rw [hro]
  obtain ⟨B, hB⟩ : ∃ B, B = w.heap.size := ⟨_, rfl⟩
  obtain ⟨rec, hrec⟩ : ∃ rec : LoopState → Option Code → Loop, rec = fun st pe => { state := st, pending := pe, fn, tmps := a.tmps, params := ps, assign, body, defers := w.heap.size } := ⟨_, rfl⟩
  obtain ⟨W1, hW1⟩ : ∃ W1, W1 = (w.alloc (.deferred (some []))).alloc (.loop (rec .ready none)) := ⟨_, rfl⟩
  have hR1 : RecAt B (rec .ready none) W1 := by rw [hW1, hB]; exact RecAt.laid w _
  have hz1 : W1.heap.size = B + 2 := by rw [hW1, hB]; simp
  have hI1 : I [] W1 := by rw [hW1]; exact hI.alloc _ (hI.alloc _ h0)
  have hbl : Below w0.heap.size w0 W1 := by
    rw [hW1]
    exact hb0.trans ((((Below.refl _ w).alloc (Nat.le_refl _) _).alloc (by simp) _).mono hb0.size)
  rw [← hB] at hI hIx hKb hbody hdone hstop
  refine ⟨B + 1, [{ target := .collected B, args := #[] }], W1, { target := .fn (.func gf) lb, args := #[.func (.yield (B + 1)) #[] #[]] }, W1, gf, #[.func (.yield (B + 1)) #[] #[]] ++ lb, W1, ?_, ?_, ?_, ?_, fun _ => h1, ?_⟩
  · rw [hW1, hrec, hB]
    exact run_enterLoop_outer _ _ _ _ _
  · simp only [resolve, hg]
    simp [go_sem]
  · intro f' hf'
    simp [Target.leads] at hf'
    subst hf'
    exact hFg
  · simp [invoke, go_sem, eg]
  have hwalk : ∀ {A : World} {row : Option Nat}, (∀ r, row = some r → W1.heap.size ≤ r ∧ ∃ o : Obj, A.heap[r]? = some o ∧ o.isWalk = true) → (∀ r, row = some r → B ≤ r ∧ ∃ o : Obj, A.heap[r]? = some o ∧ o.isCells = false) := fun hr r e => by
    obtain ⟨h2, o, ho, hw⟩ := hr r e
    exact ⟨by omega, o, ho, Obj.not_cells_of_walk hw⟩
  have turn : ∀ {β : Type} {J : β → World → Prop} {s : β} {W : World} {r r' : Loop}, OwnFrom B J → RecAt B r W → J s W → J s (W.putObj (B + 1) (.loop r')) := fun hJ hr hs => hJ.putObj _ hs (by omega) hr.rc rfl
  refine (hseq (B + 1) (fun pre W => I pre W ∧ RecAt B (rec .ready none) W) (fun pre W => ∃ c, Ix c pre W ∧ RecAt B (rec .done (some c)) W) W1 hbl
    (fun s X Y row hs hg' hr => ⟨hI s X Y row hs.1 hg' (hwalk hr), hs.2.grown hg' (fun r e => (hr r e).2)⟩)
    (fun s X Y row hs hg' hr => by
      obtain ⟨c, h2, h3⟩ := hs
      exact ⟨c, hIx c s X Y row h2 hg' (hwalk hr), h3.grown hg' (fun r e => (hr r e).2)⟩) ?_ ⟨hI1, hR1⟩).mono ?_
  · rintro pre x W ⟨hi, hr⟩ hlen
    have hy := run_yield (P := P) (args := encs x) hr.rc (by rw [hrec]; exact hps x)
    rw [hrec] at hy
    obtain ⟨busy, hbusy⟩ : ∃ busy : Loop, busy = { rec .ready none with state := .busy } := ⟨_, rfl⟩
    refine ⟨fn, _, assign, body, hy, roundIn_of_wpIn hfn (hassign _ x W _ ⟨_, run_beginRound hr.rc (by rw [hrec]), ?_⟩)⟩
    rw [← hbusy]
    have hr2 := hr.put busy
    refine wpIn_mono (hbody _ pre x _ rfl ⟨_, hr2.rc⟩ (turn hI hr hi) hlen) ?_
    have fin : ∀ (jump : Option Code) (W3 : World), KeepsFrom B (W.putObj (B + 1) (.loop busy)) W3 →
        (Instr.endRound (B + 1) jump).run P W3 = .ok (.bool jump.isNone) (W3.putObj (B + 1) (.loop (rec (if jump.isNone then .ready else .done) jump))) ∧ RecAt B busy W3 := fun jump W3 hk3 => by
      have h3 := hr2.kept hk3
      have := run_endRound (P := P) jump h3.rc
      rw [hbusy, hrec] at this
      rw [hrec]
      exact ⟨this, h3⟩
    have leave : ∀ (c : Code) (W3 : World), KeepsFrom B (W.putObj (B + 1) (.loop busy)) W3 → Ix c (pre ++ [x]) W3 → ∃ c', Ix c' (pre ++ [x]) (W3.putObj (B + 1) (.loop (rec .done (some c)))) ∧ RecAt B (rec .done (some c')) (W3.putObj (B + 1) (.loop (rec .done (some c)))) := fun c W3 hk3 hi3 => by
      obtain ⟨_, h3⟩ := fin (some c) W3 hk3
      exact ⟨c, turn (hIx c) h3 hi3, h3.put _⟩
    rintro e a3 W3 hp
    cases e with
    | normal =>
      obtain ⟨hk3, hkp3, hi3⟩ := hp
      obtain ⟨hrun, h3⟩ := fin none W3 hk3
      exact ⟨_, _, hrun, .inl ⟨rfl, ⟨turn hI h3 hi3, h3.put _⟩, hKt (hKt (hKb _ _ hr.lt) hkp3) (hKb _ _ h3.lt)⟩⟩
    | ret => exact ⟨_, _, (fin (some .ret) W3 hp.1).1, .inr ⟨rfl, leave .ret W3 hp.1 hp.2⟩⟩
    | exit id => exact ⟨_, _, (fin (some (.exit id)) W3 hp.1).1, .inr ⟨rfl, leave (.exit id) W3 hp.1 hp.2⟩⟩
    | goto t => exact ⟨_, _, (fin (some (.goto t)) W3 hp.1).1, .inr ⟨rfl, leave (.goto t) W3 hp.1 hp.2⟩⟩
    | panic ch => exact hp.elim
    | outgrown => exact hp.elim
  · rintro e W2 ⟨⟨v, rfl⟩, (⟨xs, hS, hi, hr⟩ | ⟨pre, hSp, c, hi, hr⟩)⟩
    · have hend := run_endLoop (P := P) hr.rc (by rw [hrec]; simp)
      rw [hrec] at hend
      exact ⟨none, _, hend, hdone B xs _ (Nat.le_refl _) hS (turn hI hr hi) ((World.putObj_heap_other (by omega)).trans hr.df)⟩
    · have hend := run_endLoop (P := P) hr.rc (by rw [hrec]; simp)
      rw [hrec] at hend
      exact ⟨some c, _, hend, hstop B c pre _ (Nat.le_refl _) hSp (turn (hIx c) hr hi) ((World.putObj_heap_other (by omega)).trans hr.df)⟩
end
end Go
