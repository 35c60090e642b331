/- Ranges over functions whose variable is boxed; rounds that keep all cells; trees in a round. -/
import Derived.Test.YtjmbafcpbagpdaaGreatL6
import Derived.RangeFuncWrites
namespace Go
open Go.RowKit
set_option linter.unusedVariables false

/-- All cells stay. -/
structure KpA (W W' : World) : Prop where
  size : W.heap.size ≤ W'.heap.size
  same : ∀ (k : Nat) (o : Obj), W.heap[k]? = some o → o.isCells = true → W'.heap[k]? = some o
namespace KpA
theorem refl (W : World) : KpA W W := ⟨Nat.le_refl _, fun _ _ h _ => h⟩
theorem trans {A B C : World} (h : KpA A B) (k : KpA B C) : KpA A C := ⟨Nat.le_trans h.size k.size, fun i o h1 h2 => k.same i o (h.same i o h1 h2) h2⟩
theorem put {l : Nat} {W : World} {o : Obj} (o' : Obj) (ho : W.heap[l]? = some o) (h1 : o.isCells = false) : KpA W (W.putObj l o') :=
  ⟨Nat.le_of_eq (by simp [World.putObj]), fun k o2 h2 h3 => by
    have hne : k ≠ l := by
      rintro rfl
      rw [ho] at h2
      cases h2
      rw [h1] at h3
      cases h3
    rw [World.putObj_heap_other hne]
    exact h2⟩
theorem blk {W W' : World} (h : KpA W W') {b : Nat} {cs : Array Value} {T : TypeId} (hb : Blk W b cs T) : Blk W' b cs T := h.same b _ hb rfl
theorem cell {W W' : World} (h : KpA W W') {p : Addr} {v : Value} (hc : W.cell? p = some v) : W'.cell? p = some v := by
  unfold World.cell? at hc ⊢
  cases ho : W.heap[p.block]? with
  | none => rw [ho] at hc; simp at hc
  | some o =>
    rw [ho] at hc
    cases o with
    | cells cs T f => rw [h.same _ _ ho rfl]; exact hc
    | _ => simp at hc
theorem of_chg {S : Nat → Prop} {W W' : World} (hc : Chg S W W') (hS : ∀ k, S k → ∀ o, W.heap[k]? = some o → o.isCells = false) : KpA W W' :=
  ⟨hc.size, fun k o h1 h2 => by
    rw [hc.block k (Array.getElem?_eq_some_iff.1 h1).1 (fun s => by rw [hS k s o h1] at h2; cases h2)]
    exact h1⟩
theorem of_below {W W' : World} (hb : Below W.heap.size W W') : KpA W W' :=
  of_chg (Chg.of_below hb) (fun k hk o h1 => by have := (Array.getElem?_eq_some_iff.1 h1).1; omega)
end KpA
section
variable {F : Fence} {n : Nat} {P : Program}
/-- The law of a range over a function whose variable lies in a box of each round: the box's number is told. -/
theorem wpIn_range_boxed {α : Type} {g : Operand} {ps : Array Tmp} {assign body : Code} {Q : Exit → Act → World → Prop} {a : Act} {w : World}
    (hro : F.round = none) (h1 : 1 ≤ n) {gf : Nat} {lb : Array Value} (hg : a.eval g = .func (.func gf) #[] lb) (hFg : F.fn gf) (eg : ∀ args w, (callFunc gf args).run P w = .ok (.enter gf args) w)
    {encs : α → Array Value} {Kp : World → World → Prop} {S Sp : List α → Prop} {N : Nat} {w0 : World} (hseq : SeqStopsK F (n - 1) P gf lb encs Kp S Sp N w0)
    (hKt : ∀ {A B C : World}, Kp A B → Kp B C → Kp A C) (hKb : ∀ (W : World) (l : Nat) (o o' : Obj), w.heap.size ≤ l → W.heap[l]? = some o → o.isCells = false → o.isWalk = false → Kp W (W.putObj l o')) (hb0 : Below w0.heap.size w0 w) (hps : ∀ x, (encs x).size = ps.size)
    (I : List α → World → Prop) (Ix : Code → List α → World → Prop) (hI : OwnFrom w.heap.size I) (hIx : ∀ c, OwnFrom w.heap.size (Ix c)) (h0 : I [] w) (PB : α → Nat → World → Prop) (hPB : ∀ x Bx, OwnFrom w.heap.size (fun (_ : Unit) W => PB x Bx W)) (f : α → Nat → Act)
    (hassign : ∀ (l : Nat) (pre : List α) (x : α) (W : World) (K : Act → World → Prop), I pre W → (∀ Bx W', KeepsFrom w.heap.size W W' → Kp W W' → I pre W' → PB x Bx W' → K (f x Bx) W') →
      assign.wpIn (F.inRound l) (n - 1 - 1) P (Exit.then K (fun _ _ _ => False)) { tmps := (ps.zip (encs x)).foldl (fun t (p, v) => t.setIfInBounds p v) a.tmps, defers := [] } W)
    (hbody : ∀ (l : Nat) (pre : List α) (x : α) (Bx : Nat) (W : World), w.heap.size ≤ l → (∃ r, W.heap[l]? = some (.loop r)) → I pre W → PB x Bx W → pre.length < N → body.wpIn (F.inRound l) (n - 1 - 1) P (ownPostG w.heap.size Kp I Ix (pre ++ [x]) W) (f x Bx) W)
    (hdone : ∀ (D : Nat) (xs : List α) (W : World), w.heap.size ≤ D → S xs → I xs W → W.heap[D]? = some (.deferred (some [])) → Q .normal { a with defers := { target := .collected D, args := #[] } :: a.defers } W)
    (hstop : ∀ (D : Nat) (c : Code) (pre : List α) (W : World), w.heap.size ≤ D → Sp pre → Ix c pre W → W.heap[D]? = some (.deferred (some [])) → c.wpIn F n P Q { a with defers := { target := .collected D, args := #[] } :: a.defers } W) :
    (Code.rangeFunc g ps assign body).wpIn F n P Q a w :=
  wpIn_rangeFunc_ownH hro h1 hg hFg eg hseq hKt hKb hb0 hps I Ix hI hIx h0 (fun x a' W => ∃ Bx, PB x Bx W ∧ a' = f x Bx)
    (fun x a' s X Y row hs hg' hr => by
      obtain ⟨Bx, h2, h3⟩ := hs
      exact ⟨Bx, hPB x Bx () X Y row h2 hg' hr, h3⟩)
    (fun l pre x W K hi hk => hassign l pre x W K hi (fun Bx W' h2 h3 h4 h5 => hk _ W' h2 h3 h4 ⟨Bx, h5, rfl⟩))
    (fun l pre x a' W h2 h3 h4 h5 h6 => by
      obtain ⟨Bx, h7, rfl⟩ := h5
      exact hbody l pre x Bx W h2 h3 h4 h7 h6) hdone hstop
end

end Go
