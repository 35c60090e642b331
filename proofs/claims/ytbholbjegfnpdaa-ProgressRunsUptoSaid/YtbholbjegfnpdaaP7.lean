/- Progress: ProgressRuns at the arguments as they come. -/
import Derived.Test.YtbholbjegfnpdaaP6
import Derived.Test.YtbholbjegfnpdaaBulkG
namespace Go.Proofs.Ytbholbjegfnpdaa
open Go.RowKit Go.Maps
set_option linter.unusedVariables false
set_option linter.unusedSimpArgs false

def BCounts (B : Nat) (w : World) (cs : List Value) (x : List TCount) : Prop := RSl B 4 (RCount B) w cs x ∧ x.length ≤ 1048576
section
variable {H : Type} {enc : TypeId × Value → H} {held : Bool} {B : Nat} {w : World} {fuel : Nat} {cs : List Value} {x : DataW H × List MemPlace}
theorem counts_bulk1 (h : DataW.trod enc Try.prog w 0 (fun _ => true) held fuel 41 cs = some x) (hp : ∀ p ∈ x.2, p.block < B) (hw : Rows.uptoBulk x.1 ≤ 1048576) : ∃ a, BCounts B w cs a := by
  obtain ⟨a, ha⟩ := RSl.of_trod (B := B) (sz := 4) (E := RCount B) Try.underlying41 (by kernel_rfl) (by decide) h hp (fun n cs y h hp => RCount.of_trod h hp)
  refine ⟨a, ha, ?_⟩
  obtain ⟨ao, cap, rfl, hs⟩ := ha
  exact Nat.le_trans (trod_len_bulk Try.underlying41 h) hw
theorem counts_bulk (h : DataW.trod enc Try.prog w 0 (fun _ => true) held fuel 54 cs = some x) (hp : ∀ p ∈ x.2, p.block < B) (hw : Rows.uptoBulk x.1 ≤ 1048576) : ∃ a, RSl B 1 (RSl B 4 (RCount B)) w cs a ∧ ∀ y ∈ a, y.length ≤ 1048576 := by
  obtain ⟨ao, cap, xs, rfl, hsl⟩ := SlA.of_trodW (B := B) (sz := 1) (E := BCounts B) (Wt := fun d => Rows.uptoBulk d ≤ 1048576) Try.underlying54 (by kernel_rfl) (by decide) h hp
    (fun elems sp he d hd => by
      have h3 := bulk_part hd
      rw [he] at hw
      simp only [Rows.uptoBulk] at hw
      omega) (fun n cs y h hp hw => counts_bulk1 h hp hw)
  refine ⟨xs, ⟨ao, cap, rfl, hsl.imp (Below.refl _ _) (Nat.le_refl _) (fun _ _ _ h => h.1)⟩, fun y hy => ?_⟩
  obtain ⟨i, hi, rfl⟩ := List.getElem_of_mem hy
  obtain ⟨b, off, rfl, hb, h5⟩ := hsl.addr (by omega)
  obtain ⟨cs, -, -, h6⟩ := h5 i hi
  exact h6.2
end
theorem pruns_row {w : World} (cs : Array Value) (x : TGraph) (hx : RGraph w.heap.size w (Value.cells (.agg cs)).toList x) (hzi : ∀ o ∈ x.fOps, o.fIn.length ≤ 1048576)
    (a1 : Option Addr) (len1 cap1 : Nat) (l1 : List (List TCount)) (hl1 : RSl w.heap.size 1 (RSl w.heap.size 4 (RCount w.heap.size)) w (Value.cells (.slice a1 len1 cap1)).toList l1) (hzi1 : ∀ y ∈ l1, y.length ≤ 1048576) (z1 : cap1 ≤ 1048576)
    (a2 : Option Addr) (len2 cap2 : Nat) (l2 : List TStamp) (hl2 : RSl w.heap.size 3 (RStamp w.heap.size) w (Value.cells (.slice a2 len2 cap2)).toList l2) (z2 : cap2 ≤ 1048576) :
    Calls Try.prog 5 #[.agg cs, .slice a1 len1 cap1, .slice a2 len2 cap2] w fun e w' => e = .returned (.bool true) ∧ Below w.heap.size w w' := by
  obtain ⟨ag, cg, rfl, hs⟩ := graph_agg hx
  obtain ⟨b1, c1, h1, h2⟩ := hl1
  obtain ⟨rfl, rfl, rfl⟩ : a1 = b1 ∧ len1 = l1.length ∧ cap1 = c1 := by simpa [Value.cells] using h1
  obtain ⟨b2, c2, h3, h4⟩ := hl2
  obtain ⟨rfl, rfl, rfl⟩ : a2 = b2 ∧ len2 = l2.length ∧ cap2 = c2 := by simpa [Value.cells] using h3
  by_cases hok : (gcheck x.fOps).2 = 0
  · exact pruns_ok x.fOps cg ag l1 a1 cap1 l2 a2 cap2 w hs hok (fun o ho => by have := hzi o ho; omega) h2 h4 hzi1
  · exact pruns_no x.fOps cg ag _ _ w hs hok
end Go.Proofs.Ytbholbjegfnpdaa
