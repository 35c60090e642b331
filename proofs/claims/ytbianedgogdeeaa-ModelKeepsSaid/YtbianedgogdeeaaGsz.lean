/- Graph: the sizes of a graph's slices. -/
import Derived.Test.YtbianedgogdeeaaL1
import Derived.Test.YtbianedgogdeeaaTyGraph
namespace Go.Proofs.Ytbianedgogdeeaa
open Go.RowKit
set_option linter.unusedVariables false
set_option linter.unusedSimpArgs false
def SOp (B : Nat) (w : World) (cs : List Value) (x : TOp) : Prop := ROp B w cs x ∧ x.fIn.length * 8 ≤ reachBytes
section
variable {H : Type} {enc : TypeId × Value → H} {held : Bool} {B : Nat} {w : World} {fuel : Nat} {cs : List Value} {x : DataW H × List MemPlace}
set_option maxRecDepth 100000 in
theorem sop_trod (h : DataW.trod enc Try.prog w 0 (fun _ => true) held fuel 51 cs = some x) (hp : ∀ p ∈ x.2, p.block < B) (hw : ∀ k ∈ x.1.weights Try.prog 51, k ≤ reachBytes) : ∃ a, SOp B w cs a := by
  obtain ⟨a, ha⟩ := ROp.of_trod h hp
  refine ⟨a, ha, ?_⟩
  obtain ⟨ys, n, _, rfl, hl, hlen, hf⟩ := DataW.trod_struct Try.underlying51 h
  obtain ⟨ao1, cap1, rfl, _⟩ := ha
  have hl7 : ys.length = 7 := hlen
  have hi : 1 < ys.length := by omega
  have g1 : DataW.trod enc Try.prog w 0 (fun _ => true) held n 43 [.slice ao1 a.fIn.length cap1] = ys[1]? := hf 1 _ rfl
  rw [List.getElem?_eq_getElem hi] at g1
  have := trod_len_sized Try.underlying43 g1 (part_sized (j := 1) Try.underlying51 rfl (by rw [List.getElem?_map, List.getElem?_eq_getElem hi]; rfl) hw)
  rwa [show Try.prog.bytesOf 3 = 8 by kernel_rfl] at this
set_option maxRecDepth 100000 in
theorem graph_sized (h : DataW.trod enc Try.prog w 0 (fun _ => true) held fuel 24 cs = some x) (hp : ∀ p ∈ x.2, p.block < B) (hw : ∀ k ∈ x.1.weights Try.prog 24, k ≤ reachBytes) :
    ∃ a, RGraph B w cs a ∧ a.fOps.length * 72 ≤ reachBytes ∧ ∀ o ∈ a.fOps, o.fIn.length * 8 ≤ reachBytes := by
  obtain ⟨a, ao, cap, hc, hs⟩ := RGraph.of_trod h hp
  subst hc
  obtain ⟨yg, n2, _, rfl, hlg, hleng, hfg⟩ := DataW.trod_struct Try.underlying24 h
  have hl1 : yg.length = 1 := hleng
  have hi1 : 0 < yg.length := by omega
  have g3 : DataW.trod enc Try.prog w 0 (fun _ => true) held n2 22 [.slice ao a.fOps.length cap] = yg[0]? := hfg 0 _ rfl
  rw [List.getElem?_eq_getElem hi1] at g3
  have hw3 := part_sized (j := 0) Try.underlying24 rfl (by rw [List.getElem?_map, List.getElem?_eq_getElem hi1]; rfl) hw
  have hp3 : ∀ p ∈ yg[0].2, p.block < B := fun p hq => hp p (List.mem_flatMap.2 ⟨yg[0], List.getElem_mem hi1, hq⟩)
  have hn := trod_len_sized Try.underlying22 g3 hw3
  rw [show Try.prog.bytesOf 51 = 72 by kernel_rfl] at hn
  obtain ⟨ao', cap', xs, hv, hsl⟩ := SlA.of_trodW (B := B) (sz := 7) (E := SOp B) (Wt := fun d => ∀ k ∈ d.weights Try.prog 51, k ≤ reachBytes) Try.underlying22 (by kernel_rfl) (by decide) g3 hp3 (fun elems sp he => elem_sized Try.underlying22 (by rw [← he]; exact hw3)) (fun n cs y h hp hw => sop_trod h hp hw)
  simp only [List.cons.injEq, Value.slice.injEq, and_true] at hv
  obtain ⟨rfl, hlx, rfl⟩ := hv
  refine ⟨⟨xs⟩, ⟨ao, cap, by rw [hlx], hsl.imp (Below.refl _ _) (Nat.le_refl _) (fun _ _ _ h => h.1)⟩, by rw [← hlx]; exact hn, fun o ho => ?_⟩
  obtain ⟨i, hi, rfl⟩ := List.mem_iff_getElem.1 ho
  have hi' : i < xs.length := hi
  obtain ⟨b, off, rfl, hb, h7⟩ := hsl.addr (by omega)
  obtain ⟨_, _, _, h8⟩ := h7 i hi'
  exact h8.2
end
end Go.Proofs.Ytbianedgogdeeaa
