/- Wire: items made here. -/
import Derived.Test.YtjgiphoolfhlmaaWl
namespace Go.Proofs.Ytjgiphoolfhlmaa
open Go.RowKit
set_option linter.unusedVariables false

theorem RIts.of_cells {d b : Nat} {w : World} {ps : List PIt} {cells : Array Value} {T : TypeId} (h : Blk w b cells T) (hc : cells = (ps.flatMap encP).toArray) (hE : ∀ p ∈ ps, RIt d w.heap.size w (encP p) p.x) (hl : ps.length * 56 ≤ 140737488355328) :
    RIts d w.heap.size w (some ⟨b, 0, none⟩) ps.length (ps.map (·.x)) := by
  refine ⟨SlA.of_blk h h.lt (by simp) (by unfold maxLen; omega) fun i hi => ⟨encP (ps[i]'(by simpa using hi)), rfl, fun j hj => ?_, by simpa using hE _ (List.getElem_mem (by simpa using hi))⟩, by simpa using hl⟩
  rw [hc, ← flat_at encP_len ps i j (by simpa using hi) hj]
  simp
theorem RIt.mk' {d B : Nat} {w : World} {k n : Int} {s : ByteArray} {ao : Option Addr} {cap : Nat} {l : List Itm} (h1 : (Lit.int .i64 k).wf = true) (h2 : (Lit.int .i64 n).wf = true) (h3 : s.size ≤ 140737488351232) (h : RIts d B w ao cap l) :
    RIt (d + 1) B w (encP ⟨.mk k n s l, ao, cap⟩) (.mk k n s l) := ⟨ao, cap, rfl, h1, h2, h3, h.2, h.1⟩
theorem RIt.up {d d' B : Nat} {w : World} (hd : d ≤ d') {cs : List Value} {x : Itm} (h : RIt d B w cs x) : RIt d' B w cs x := by
  induction d generalizing d' cs x with
  | zero => exact h.elim
  | succ d ih =>
    obtain ⟨k, n, s, l⟩ := x
    obtain ⟨ao, c, q1, q2, q3, q4, q5, q6⟩ := h
    match d', hd with
    | d' + 1, hd => exact ⟨ao, c, q1, q2, q3, q4, q5, q6.imp (Below.refl _ _) (Nat.le_refl _) (fun cs x _ h => ih (by omega) h)⟩
theorem RIts.up {d d' B : Nat} {w : World} (hd : d ≤ d') {ao : Option Addr} {cap : Nat} {l : List Itm} (h : RIts d B w ao cap l) : RIts d' B w ao cap l :=
  ⟨h.1.imp (Below.refl _ _) (Nat.le_refl _) (fun cs x _ h => h.up hd), h.2⟩

end Go.Proofs.Ytjgiphoolfhlmaa
