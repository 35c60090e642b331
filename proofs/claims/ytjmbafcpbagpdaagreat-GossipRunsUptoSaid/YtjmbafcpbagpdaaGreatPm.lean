/- Progress: a tracker that was told a list: Update, Front, Done (for ProgressStays). -/
import Derived.Test.YtjmbafcpbagpdaaGreatPl
import Derived.Test.YtjmbafcpbagpdaaGreatPk
namespace Go.Proofs.YtjmbafcpbagpdaaGreat
open Go.RowKit Go.Maps
set_option linter.unusedVariables false
set_option linter.unusedSimpArgs false

theorem Tr.chgU {w w' : World} {base tb U : Nat} {x : TrX} {ops : List TOp} {cs : List (TStamp × Int)} (h : Tr w base tb x ops cs) {S : Nat → Prop} (hc : Chg S w w') (hS : ∀ k, S k → U ≤ k) (ht : tb < U) (hm : x.mb < U) : Tr w' base tb x ops cs := by
  obtain ⟨w0, h1, h2, h3, h4, h5⟩ := h.held
  exact ⟨h.blk.chg hc (fun e => by have := hS _ e; omega), ⟨w0, h1, h2, h3, h4, h5.trans (hc.below h5.size (fun j hj e => by have := hS _ e; omega))⟩, h.opsE, h.map.chg hc (fun e => by have := hS _ e; omega), h.nz, h.good, h.ok, h.btb, h.bmb⟩
/-- A tracker that was told the list B; beside it a slice of the pointstamps A (from U on) and the graph's box. -/
structure Cm (w wr : World) (base tb U : Nat) (x : TrX) (ops : List TOp) (gv : Value) (B A : List TStamp) (v : Value) : Prop where
  tr : ∃ cs, Tr wr base tb x ops cs ∧ Told cs B
  own : OwnL encS wr U 59 3 v A
  ut : tb < U
  um : x.mb < U
  ug : w.heap.size < U
  us : U ≤ wr.heap.size
  g : Blk wr w.heap.size #[gv] 24
  bel : Below w.heap.size w wr
  mb : w.heap.size < x.mb
namespace Cm
variable {w wr w' : World} {base tb U : Nat} {x : TrX} {ops : List TOp} {gv v : Value} {B A : List TStamp}
theorem below (h : Cm w wr base tb U x ops gv B A v) (b : Below wr.heap.size wr w') : Cm w w' base tb U x ops gv B A v := by
  obtain ⟨cs, h1, h2⟩ := h.tr
  exact ⟨⟨cs, h1.below b, h2⟩, h.own.below b (Nat.le_refl _), h.ut, h.um, h.ug, Nat.le_trans h.us b.size, h.g.below b h.g.lt, h.bel.trans (b.mono h.bel.size), h.mb⟩
/-- The slice changes, and what lies from U on. -/
theorem grow (h : Cm w wr base tb U x ops gv B A v) {S : Nat → Prop} (hc : Chg S wr w') (hS : ∀ k, S k → U ≤ k) {A' : List TStamp} {v' : Value} (ho : OwnL encS w' U 59 3 v' A') : Cm w w' base tb U x ops gv B A' v' := by
  obtain ⟨cs, h1, h2⟩ := h.tr
  have := h.ug
  exact ⟨⟨cs, h1.chgU hc hS h.ut h.um, h2⟩, ho, h.ut, h.um, h.ug, Nat.le_trans h.us hc.size, h.g.chg hc (fun e => by have := hS _ e; omega), h.bel.trans (hc.below h.bel.size (fun k hk e => by have := hS _ e; omega)), h.mb⟩
end Cm
end Go.Proofs.YtjmbafcpbagpdaaGreat
