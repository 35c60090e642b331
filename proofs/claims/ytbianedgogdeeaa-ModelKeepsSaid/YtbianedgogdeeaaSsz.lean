/- Model: the sizes of a state's slices. -/
import Derived.Test.YtbianedgogdeeaaL1
import Derived.Test.YtbianedgogdeeaaTyModel
namespace Go.Proofs.Ytbianedgogdeeaa
open Go.RowKit
set_option linter.unusedVariables false
set_option linter.unusedSimpArgs false
def SLp (B : Nat) (w : World) (cs : List Value) (x : List TPair) : Prop := RSl B 2 (RPair B) w cs x ∧ x.length * 24 ≤ reachBytes
section
variable {H : Type} {enc : TypeId × Value → H} {held : Bool} {B : Nat} {w : World} {fuel : Nat} {cs : List Value} {x : DataW H × List MemPlace}
set_option maxRecDepth 100000 in
theorem slp_trod (h : DataW.trod enc Try.prog w 0 (fun _ => true) held fuel 29 cs = some x) (hp : ∀ p ∈ x.2, p.block < B) (hw : ∀ k ∈ x.1.weights Try.prog 29, k ≤ reachBytes) : ∃ a, SLp B w cs a := by
  obtain ⟨a, ha⟩ := RSl.of_trod (sz := 2) Try.underlying29 (by kernel_rfl) (by decide) h hp (fun n cs y h hp => RPair.of_trod h hp)
  refine ⟨a, ha, ?_⟩
  obtain ⟨ao, cap, rfl, _⟩ := ha
  have := trod_len_sized Try.underlying29 h hw
  rwa [show Try.prog.bytesOf 53 = 24 by kernel_rfl] at this
set_option maxRecDepth 100000 in
theorem state_sized (h : DataW.trod enc Try.prog w 0 (fun _ => true) held fuel 27 cs = some x) (hp : ∀ p ∈ x.2, p.block < B) (hw : ∀ k ∈ x.1.weights Try.prog 27, k ≤ reachBytes) :
    ∃ a, RState B w cs a ∧ a.fFolds.length * 24 ≤ reachBytes ∧ ∀ l ∈ a.fFolds, l.length * 24 ≤ reachBytes := by
  obtain ⟨a, ao, cap, hc, hs⟩ := RState.of_trod h hp
  subst hc
  obtain ⟨yg, n2, _, rfl, hlg, hleng, hfg⟩ := DataW.trod_struct Try.underlying27 h
  have hl1 : yg.length = 1 := hleng
  have hi1 : 0 < yg.length := by omega
  have g3 : DataW.trod enc Try.prog w 0 (fun _ => true) held n2 25 [.slice ao a.fFolds.length cap] = yg[0]? := hfg 0 _ rfl
  rw [List.getElem?_eq_getElem hi1] at g3
  have hw3 := part_sized (j := 0) Try.underlying27 rfl (by rw [List.getElem?_map, List.getElem?_eq_getElem hi1]; rfl) hw
  have hp3 : ∀ p ∈ yg[0].2, p.block < B := fun p hq => hp p (List.mem_flatMap.2 ⟨yg[0], List.getElem_mem hi1, hq⟩)
  have hn := trod_len_sized Try.underlying25 g3 hw3
  rw [show Try.prog.bytesOf 29 = 24 by kernel_rfl] at hn
  obtain ⟨ao', cap', xs, hv, hsl⟩ := SlA.of_trodW (B := B) (sz := 1) (E := SLp B) (Wt := fun d => ∀ k ∈ d.weights Try.prog 29, k ≤ reachBytes) Try.underlying25 (by kernel_rfl) (by decide) g3 hp3 (fun elems sp he => elem_sized Try.underlying25 (by rw [← he]; exact hw3)) (fun n cs y h hp hw => slp_trod h hp hw)
  simp only [List.cons.injEq, Value.slice.injEq, and_true] at hv
  obtain ⟨rfl, hlx, rfl⟩ := hv
  refine ⟨⟨xs⟩, ⟨ao, cap, by rw [hlx], hsl.imp (Below.refl _ _) (Nat.le_refl _) (fun _ _ _ h => h.1)⟩, by rw [← hlx]; exact hn, fun o ho => ?_⟩
  obtain ⟨i, hi, rfl⟩ := List.mem_iff_getElem.1 ho
  have hi' : i < xs.length := hi
  obtain ⟨b, off, rfl, hb, h7⟩ := hsl.addr (by omega)
  obtain ⟨_, _, _, h8⟩ := h7 i hi'
  exact h8.2
end
theorem state_agg {w : World} {cs : Array Value} {x : TState} (hx : RState w.heap.size w (Value.cells (.agg cs)).toList x) : ∃ ao cap, cs = #[.slice ao x.fFolds.length cap] ∧ SlA w.heap.size 1 (RSl w.heap.size 2 (RPair w.heap.size)) w ao cap x.fFolds := by
  obtain ⟨ao, cap, h1, h2⟩ := hx
  exact ⟨ao, cap, by cases cs; simpa [Value.cells] using h1, h2⟩
end Go.Proofs.Ytbianedgogdeeaa
