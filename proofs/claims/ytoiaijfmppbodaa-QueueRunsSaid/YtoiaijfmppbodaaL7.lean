/- A range over a function whose rounds keep all blocks but the loop's own record, however they are left: an iterator may itself range over a function and yield inside. -/
import Derived.Test.YtoiaijfmppbodaaL5
namespace Go
open Go.RowKit

/-- What an iterator owes: it begins behind the loop's two blocks; a round keeps Kp however it is left. -/
def SeqStopsR {α : Type} (F : Fence) (n : Nat) (P : Program) (g : Nat) (lb : Array Value) (encs : α → Array Value) (Kp : World → World → Prop) (S Sp : List α → Prop) (N : Nat) (w : World) : Prop :=
  ∀ (l : Nat) (J Jx : List α → World → Prop) (W : World), Below w.heap.size w W → w.heap.size + 2 ≤ W.heap.size → OwnFrom W.heap.size J → OwnFrom W.heap.size Jx →
    (∀ pre x W1, J pre W1 → pre.length < N → YieldAt F (n - 1) P l (encs x) W1 fun e W' =>
      (e = .returned (.bool true) ∧ J (pre ++ [x]) W' ∧ Kp W1 W') ∨ (e = .returned (.bool false) ∧ Jx (pre ++ [x]) W' ∧ Kp W1 W')) →
    J [] W →
    CallsIn F n P g (#[.func (.yield l) #[] #[]] ++ lb) W fun e W' => (∃ v, e = .returned v) ∧ ((∃ xs, S xs ∧ J xs W') ∨ (∃ pre, Sp pre ∧ Jx pre W'))

theorem RecAt.grownA {B : Nat} {rec : Loop} {W W' : World} {row : Option Nat} (h : RecAt B rec W) (hg : W.grownBy W' row) (hr : ∀ r, row = some r → B + 2 ≤ r) : RecAt B rec W' := by
  have hl := h.lt
  exact ⟨(hg.block _ hl (fun e => by have := hr _ e.symm; omega)).trans h.rc, (hg.block _ (by omega) (fun e => by have := hr _ e.symm; omega)).trans h.df⟩

def ownPostR {α : Type} (B : Nat) (Kp : World → World → Prop) (I : List α → World → Prop) (Ix : Code → List α → World → Prop) (xs : List α) (W : World) : Exit → Act → World → Prop
  | .normal, _, W' => KeepsFrom B W W' ∧ Kp W W' ∧ I xs W'
  | .ret, _, W' => KeepsFrom B W W' ∧ Kp W W' ∧ Ix .ret xs W'
  | .exit id, _, W' => KeepsFrom B W W' ∧ Kp W W' ∧ Ix (.exit id) xs W'
  | .goto t, _, W' => KeepsFrom B W W' ∧ Kp W W' ∧ Ix (.goto t) xs W'
  | .panic _, _, _ => False
  | .outgrown, _, _ => False

section
variable {F : Fence} {n : Nat} {P : Program}

theorem wpIn_range_recR {α : Type} {g : Operand} {ps : Array Tmp} {assign body : Code} {Q : Exit → Act → World → Prop} {a : Act} {w : World}
    (hro : F.round = none) (h1 : 1 ≤ n) {gf : Nat} {lb : Array Value} (hg : a.eval g = .func (.func gf) #[] lb) (hFg : F.fn gf) (eg : ∀ args w, (callFunc gf args).run P w = .ok (.enter gf args) w)
    {encs : α → Array Value} {Kp : World → World → Prop} {S Sp : List α → Prop} {N : Nat} (hseq : SeqStopsR F (n - 1) P gf lb encs Kp S Sp N w)
    (hKt : ∀ {A B C : World}, Kp A B → Kp B C → Kp A C) (hKb : ∀ (W : World) (o : Obj), w.heap.size + 1 < W.heap.size → Kp W (W.putObj (w.heap.size + 1) o)) (hps : ∀ x, (encs x).size = ps.size)
    (I : List α → World → Prop) (Ix : Code → List α → World → Prop) (hI : OwnFrom w.heap.size I) (hIx : ∀ c, OwnFrom w.heap.size (Ix c)) (h0 : I [] w) (a₁ : α → Act)
    (hassign : ∀ (l : Nat) (x : α) (W : World) (K : Act → World → Prop), K (a₁ x) W →
      assign.wpIn (F.inRound l) (n - 1 - 1) P (Exit.then K (fun _ _ _ => False)) { tmps := (ps.zip (encs x)).foldl (fun t (p, v) => t.setIfInBounds p v) a.tmps, defers := [] } W)
    (hbody : ∀ (l : Nat) (pre : List α) (x : α) (W : World), l = w.heap.size + 1 → (∃ r, W.heap[l]? = some (.loop r)) → I pre W → pre.length < N → body.wpIn (F.inRound l) (n - 1 - 1) P (ownPostR w.heap.size Kp I Ix (pre ++ [x]) W) (a₁ x) W)
    (hdone : ∀ (D : Nat) (xs : List α) (W : World), w.heap.size ≤ D → S xs → I xs W → W.heap[D]? = some (.deferred (some [])) → Q .normal { a with defers := { target := .collected D, args := #[] } :: a.defers } W)
    (hstop : ∀ (D : Nat) (c : Code) (pre : List α) (W : World), w.heap.size ≤ D → Sp pre → Ix c pre W → W.heap[D]? = some (.deferred (some [])) → c.wpIn F n P Q { a with defers := { target := .collected D, args := #[] } :: a.defers } W) :
    (Code.rangeFunc g ps assign body).wpIn F n P Q a w := by
  refine wpIn_rangeFunc (fun fn hfn => ?_)
  rw [hro]
  obtain ⟨B, hB⟩ : ∃ B, B = w.heap.size := ⟨_, rfl⟩
  obtain ⟨rec, hrec⟩ : ∃ rec : LoopState → Option Code → Loop, rec = fun st pe => { state := st, pending := pe, fn, tmps := a.tmps, params := ps, assign, body, defers := w.heap.size } := ⟨_, rfl⟩
  obtain ⟨W1, hW1⟩ : ∃ W1, W1 = (w.alloc (.deferred (some []))).alloc (.loop (rec .ready none)) := ⟨_, rfl⟩
  have hR1 : RecAt B (rec .ready none) W1 := by rw [hW1, hB]; exact RecAt.laid w _
  have hz1 : W1.heap.size = B + 2 := by rw [hW1, hB]; simp
  have hI1 : I [] W1 := by rw [hW1]; exact hI.alloc _ (hI.alloc _ h0)
  have hbl : Below w.heap.size w W1 := by
    rw [hW1]
    exact ((Below.refl _ w).alloc (Nat.le_refl _) _).alloc (by simp) _
  rw [← hB] at hI hIx hKb hbody hdone hstop
  refine ⟨B + 1, [{ target := .collected B, args := #[] }], W1, { target := .fn (.func gf) lb, args := #[.func (.yield (B + 1)) #[] #[]] }, W1, gf, #[.func (.yield (B + 1)) #[] #[]] ++ lb, W1, ?_, ?_, ?_, ?_, fun _ => h1, ?_⟩
  · rw [hW1, hrec, hB]
    exact run_enterLoop_outer _ _ _ _ _
  · simp only [resolve, hg]
    simp [go_sem]
  · intro f' hf'
    simp [Target.leads] at hf'
    subst hf'
    exact hFg
  · simp [invoke, go_sem, eg]
  have hwalk : ∀ {A : World} {row : Option Nat}, (∀ r, row = some r → W1.heap.size ≤ r ∧ ∃ o : Obj, A.heap[r]? = some o ∧ o.isCells = false) → (∀ r, row = some r → B ≤ r ∧ ∃ o : Obj, A.heap[r]? = some o ∧ o.isCells = false) := fun hr r e => by
    obtain ⟨h2, o, ho, hw⟩ := hr r e
    exact ⟨by omega, o, ho, hw⟩
  have turn : ∀ {β : Type} {J : β → World → Prop} {s : β} {W : World} {r r' : Loop}, OwnFrom B J → RecAt B r W → J s W → J s (W.putObj (B + 1) (.loop r')) := fun hJ hr hs => hJ.putObj _ hs (by omega) hr.rc rfl
  refine (hseq (B + 1) (fun pre W => I pre W ∧ RecAt B (rec .ready none) W) (fun pre W => ∃ c, Ix c pre W ∧ RecAt B (rec .done (some c)) W) W1 hbl (by omega)
    (fun s X Y row hs hg' hr => ⟨hI s X Y row hs.1 hg' (hwalk hr), hs.2.grownA hg' (fun r e => by have := (hr r e).1; omega)⟩)
    (fun s X Y row hs hg' hr => by
      obtain ⟨c, h2, h3⟩ := hs
      exact ⟨c, hIx c s X Y row h2 hg' (hwalk hr), h3.grownA hg' (fun r e => by have := (hr r e).1; omega)⟩) ?_ ⟨hI1, hR1⟩).mono ?_
  · rintro pre x W ⟨hi, hr⟩ hlen
    have hy := run_yield (P := P) (args := encs x) hr.rc (by rw [hrec]; exact hps x)
    rw [hrec] at hy
    obtain ⟨busy, hbusy⟩ : ∃ busy : Loop, busy = { rec .ready none with state := .busy } := ⟨_, rfl⟩
    refine ⟨fn, _, assign, body, hy, roundIn_of_wpIn hfn (hassign _ x W _ ⟨_, run_beginRound hr.rc (by rw [hrec]), ?_⟩)⟩
    rw [← hbusy]
    have hr2 := hr.put busy
    refine wpIn_mono (hbody _ pre x _ rfl ⟨_, hr2.rc⟩ (turn hI hr hi) hlen) ?_
    have fin : ∀ (jump : Option Code) (W3 : World), KeepsFrom B (W.putObj (B + 1) (.loop busy)) W3 →
        (Instr.endRound (B + 1) jump).run P W3 = .ok (.bool jump.isNone) (W3.putObj (B + 1) (.loop (rec (if jump.isNone then .ready else .done) jump))) ∧ RecAt B busy W3 := fun jump W3 hk3 => by
      have h3 := hr2.kept hk3
      have := run_endRound (P := P) jump h3.rc
      rw [hbusy, hrec] at this
      rw [hrec]
      exact ⟨this, h3⟩
    have leave : ∀ (c : Code) (W3 : World), KeepsFrom B (W.putObj (B + 1) (.loop busy)) W3 → Ix c (pre ++ [x]) W3 → ∃ c', Ix c' (pre ++ [x]) (W3.putObj (B + 1) (.loop (rec .done (some c)))) ∧ RecAt B (rec .done (some c')) (W3.putObj (B + 1) (.loop (rec .done (some c)))) := fun c W3 hk3 hi3 => by
      obtain ⟨_, h3⟩ := fin (some c) W3 hk3
      exact ⟨c, turn (hIx c) h3 hi3, h3.put _⟩
    have keep : ∀ (r : Loop) (W3 : World), KeepsFrom B (W.putObj (B + 1) (.loop busy)) W3 → Kp (W.putObj (B + 1) (.loop busy)) W3 → Kp W (W3.putObj (B + 1) (.loop r)) := fun r W3 hk3 hkp3 => by
      have h3 := hr2.kept hk3
      exact hKt (hKt (hKb _ _ hr.lt) hkp3) (hKb _ _ h3.lt)
    rintro e a3 W3 hp
    cases e with
    | normal =>
      obtain ⟨hk3, hkp3, hi3⟩ := hp
      obtain ⟨hrun, h3⟩ := fin none W3 hk3
      exact ⟨_, _, hrun, .inl ⟨rfl, ⟨turn hI h3 hi3, h3.put _⟩, hKt (hKt (hKb _ _ hr.lt) hkp3) (hKb _ _ h3.lt)⟩⟩
    | ret => exact ⟨_, _, (fin (some .ret) W3 hp.1).1, .inr ⟨rfl, leave .ret W3 hp.1 hp.2.2, keep _ W3 hp.1 hp.2.1⟩⟩
    | exit id => exact ⟨_, _, (fin (some (.exit id)) W3 hp.1).1, .inr ⟨rfl, leave (.exit id) W3 hp.1 hp.2.2, keep _ W3 hp.1 hp.2.1⟩⟩
    | goto t => exact ⟨_, _, (fin (some (.goto t)) W3 hp.1).1, .inr ⟨rfl, leave (.goto t) W3 hp.1 hp.2.2, keep _ W3 hp.1 hp.2.1⟩⟩
    | panic ch => exact hp.elim
    | outgrown => exact hp.elim
  · rintro e W2 ⟨⟨v, rfl⟩, (⟨xs, hS, hi, hr⟩ | ⟨pre, hSp, c, hi, hr⟩)⟩
    · have hend := run_endLoop (P := P) hr.rc (by rw [hrec]; simp)
      rw [hrec] at hend
      exact ⟨none, _, hend, hdone B xs _ (Nat.le_refl _) hS (turn hI hr hi) ((World.putObj_heap_other (by omega)).trans hr.df)⟩
    · have hend := run_endLoop (P := P) hr.rc (by rw [hrec]; simp)
      rw [hrec] at hend
      exact ⟨some c, _, hend, hstop B c pre _ (Nat.le_refl _) hSp (turn (hIx c) hr hi) ((World.putObj_heap_other (by omega)).trans hr.df)⟩
end
end Go
