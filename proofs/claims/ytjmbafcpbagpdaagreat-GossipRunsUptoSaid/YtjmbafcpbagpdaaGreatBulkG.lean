/- Graph: what the bound of an '..UptoSaid' gives for a graph's slices. -/
import Derived.Test.YtjmbafcpbagpdaaGreatL1
import Derived.Test.YtjmbafcpbagpdaaGreatTyGraph
import Derived.Test.YtjmbafcpbagpdaaGreatBulk
namespace Go.Proofs.YtjmbafcpbagpdaaGreat
open Go.RowKit
set_option linter.unusedVariables false
set_option linter.unusedSimpArgs false
def BOp (B : Nat) (w : World) (cs : List Value) (x : TOp) : Prop := ROp B w cs x ∧ x.fIn.length ≤ 1048576
theorem trod_len_bulk {H : Type} {enc : TypeId × Value → H} {P : Program} {held : Bool} {w : World} {fuel : Nat} {t e : TypeId} {ao : Option Addr} {n cap : Nat} {x : DataW H × List MemPlace} (hu : P.underlying t = some (.slice e))
    (h : DataW.trod enc P w 0 (fun _ => true) held fuel t [.slice ao n cap] = some x) : n ≤ Rows.uptoBulk x.1 := by
  rcases DataW.trod_slice hu h with ⟨h1, _⟩ | ⟨a, l', c', elems, rest, m, _, h1, h2, _, h3, _, h4, h5, _⟩
  · simp at h1
    obtain ⟨_, rfl, _⟩ := h1
    simp
  · simp at h1
    obtain ⟨rfl, rfl, rfl⟩ := h1
    rw [h2]
    simp only [Rows.uptoBulk]
    have h7 := bulk_length (elems.map (·.1))
    simp only [List.length_map] at h7 h3 h4
    omega
section
variable {H : Type} {enc : TypeId × Value → H} {held : Bool} {B : Nat} {w : World} {fuel : Nat} {cs : List Value} {x : DataW H × List MemPlace}
set_option maxRecDepth 100000 in
theorem bop_trod (h : DataW.trod enc Tryz.prog w 0 (fun _ => true) held fuel 73 cs = some x) (hp : ∀ p ∈ x.2, p.block < B) (hw : Rows.uptoBulk x.1 ≤ 1048576) : ∃ a, BOp B w cs a := by
  obtain ⟨a, ha⟩ := ROp.of_trod h hp
  refine ⟨a, ha, ?_⟩
  obtain ⟨ys, n, _, rfl, hl, hlen, hf⟩ := DataW.trod_struct Tryz.underlying73 h
  obtain ⟨ao1, cap1, rfl, _⟩ := ha
  have hl7 : ys.length = 7 := hlen
  have hi : 1 < ys.length := by omega
  have g1 : DataW.trod enc Tryz.prog w 0 (fun _ => true) held n 70 [.slice ao1 a.fIn.length cap1] = ys[1]? := hf 1 _ rfl
  rw [List.getElem?_eq_getElem hi] at g1
  have h1 := trod_len_bulk Tryz.underlying70 g1
  have h2 := bulk_part (d := ys[1].1) (l := ys.map (·.1)) (List.mem_map.2 ⟨_, List.getElem_mem hi, rfl⟩)
  simp only [Rows.uptoBulk] at hw
  omega
set_option maxRecDepth 100000 in
theorem graph_bulk (h : DataW.trod enc Tryz.prog w 0 (fun _ => true) held fuel 24 cs = some x) (hp : ∀ p ∈ x.2, p.block < B) (hw : Rows.uptoBulk x.1 ≤ 1048576) :
    ∃ a, RGraph B w cs a ∧ ∀ o ∈ a.fOps, o.fIn.length ≤ 1048576 := by
  obtain ⟨a, ao, cap, hc, hs⟩ := RGraph.of_trod h hp
  subst hc
  obtain ⟨yg, n2, _, rfl, hlg, hleng, hfg⟩ := DataW.trod_struct Tryz.underlying24 h
  have hl1 : yg.length = 1 := hleng
  have hi1 : 0 < yg.length := by omega
  have g3 : DataW.trod enc Tryz.prog w 0 (fun _ => true) held n2 22 [.slice ao a.fOps.length cap] = yg[0]? := hfg 0 _ rfl
  rw [List.getElem?_eq_getElem hi1] at g3
  have hp3 : ∀ p ∈ yg[0].2, p.block < B := fun p hq => hp p (List.mem_flatMap.2 ⟨yg[0], List.getElem_mem hi1, hq⟩)
  have h2 := bulk_part (d := yg[0].1) (l := yg.map (·.1)) (List.mem_map.2 ⟨_, List.getElem_mem hi1, rfl⟩)
  simp only [Rows.uptoBulk] at hw
  obtain ⟨ao', cap', xs, hv, hsl⟩ := SlA.of_trodW (B := B) (sz := 7) (E := BOp B) (Wt := fun d => Rows.uptoBulk d ≤ 1048576) Tryz.underlying22 (by kernel_rfl) (by decide) g3 hp3
    (fun elems sp he d hd => by
      have h3 := bulk_part hd
      rw [he] at h2
      simp only [Rows.uptoBulk] at h2
      omega) (fun n cs y h hp hw => bop_trod h hp hw)
  simp only [List.cons.injEq, Value.slice.injEq, and_true] at hv
  obtain ⟨rfl, hlx, rfl⟩ := hv
  refine ⟨⟨xs⟩, ⟨ao, cap, by rw [hlx], hsl.imp (Below.refl _ _) (Nat.le_refl _) (fun _ _ _ h => h.1)⟩, fun o ho => ?_⟩
  obtain ⟨i, hi, rfl⟩ := List.mem_iff_getElem.1 ho
  have hi' : i < xs.length := hi
  obtain ⟨b, off, rfl, hb, h7⟩ := hsl.addr (by omega)
  obtain ⟨_, _, _, h8⟩ := h7 i hi'
  exact h8.2
end
end Go.Proofs.YtjmbafcpbagpdaaGreat
