/- Progress: a tracker and its model between two Updates. -/
import Derived.Test.YtbholbjegfnpdaaP4
namespace Go.Proofs.Ytbholbjegfnpdaa
open Go.RowKit Go.Shelf Go.Maps
attribute [local go_sem] Oper.semAt_some
set_option linter.unusedVariables false
set_option linter.unusedSimpArgs false

theorem sla_chg {α : Type} {B sz : Nat} {E E' : World → List Value → α → Prop} {w w' : World} {ao : Option Addr} {cap : Nat} {xs : List α} {S : Nat → Prop} (h : SlA B sz E w ao cap xs) (hc : Chg S w w') (hB : B ≤ w.heap.size) (hn : ∀ a, ao = some a → ¬ S a.block) (hE : ∀ cs x, x ∈ xs → E w cs x → E' w' cs x) : SlA B sz E' w' ao cap xs := by
  obtain ⟨h1, h2, h3, h4⟩ := h
  refine ⟨h1, h2, h3, fun hne => ?_⟩
  obtain ⟨b, off, e, hb, h5⟩ := h4 hne
  refine ⟨b, off, e, hb, fun i hi => ?_⟩
  obtain ⟨cs, h6, h7, h8⟩ := h5 i hi
  exact ⟨cs, h6, fun j hj => (hc.cell (p := ⟨b, off + (i * sz + j), none⟩) (Nat.lt_of_lt_of_le hb hB) (hn ⟨b, off, none⟩ e)).trans (h7 j hj), hE cs _ (List.getElem_mem hi) h8⟩
theorem updL_err {ops : List TOp} {L l : List TCount} (h : (updL ops L l).1 ≠ 0) : (updL ops L l).2 = L := by
  unfold updL at h ⊢
  split
  · rfl
  · rename_i h1
    rw [if_neg h1] at h
    split
    · rfl
    · rename_i h2
      rw [if_neg h2] at h
      exact absurd rfl h

/-- Between two Updates. -/
structure PrI (w W : World) (base tb mk : Nat) (x : TrX) (ops : List TOp) (ao : Option Addr) (cap : Nat) (L : List TCount) (aL : Option Addr) (cL N : Nat) : Prop where
  tr : ∃ cs, Tr W base tb x ops cs ∧ IsAll cs L ∧ cs.length ≤ N
  mB : Blk W mk #[.slice ao ops.length cap, .slice aL L.length cL] 59
  mS : SlA W.heap.size 4 (RCount W.heap.size) W aL cL L
  bel : Below w.heap.size w W
  tU : tb < mk ∧ x.mb < mk
  wb : w.heap.size ≤ base
  ap : ∀ a, aL = some a → mk < a.block
/-- The tracker is a step ahead of its model. -/
structure PrM (w W : World) (base tb mk : Nat) (x : TrX) (ops : List TOp) (ao : Option Addr) (cap : Nat) (L : List TCount) (aL : Option Addr) (cL N : Nat) (l : List TCount) : Prop where
  tr : ∃ cs, Tr W base tb x ops cs ∧ IsAll cs (updL ops L l).2 ∧ cs.length ≤ N
  mB : Blk W mk #[.slice ao ops.length cap, .slice aL L.length cL] 59
  mS : SlA W.heap.size 4 (RCount W.heap.size) W aL cL L
  bel : Below w.heap.size w W
  tU : tb < mk ∧ x.mb < mk
  wb : w.heap.size ≤ base
  ap : ∀ a, aL = some a → mk < a.block
  srt : SrtL L
  bnd : ∀ s, -4611686018427387904 ≤ cntL L s ∧ cntL L s ≤ 4611686018427387904
theorem PrI.below {w W W' : World} {base tb mk : Nat} {x : TrX} {ops : List TOp} {ao : Option Addr} {cap : Nat} {L : List TCount} {aL : Option Addr} {cL N : Nat} (h : PrI w W base tb mk x ops ao cap L aL cL N) (hb : Below W.heap.size W W') : PrI w W' base tb mk x ops ao cap L aL cL N :=
  ⟨by
    obtain ⟨cs, h1, h2, h3⟩ := h.tr
    exact ⟨cs, h1.below hb, h2, h3⟩, h.mB.below hb h.mB.lt, h.mS.imp hb hb.size (fun _ _ _ h => h.imp hb hb.size), h.bel.trans (hb.mono h.bel.size), h.tU, h.wb, h.ap⟩
theorem PrI.upd1 {w W : World} {base tb mk : Nat} {x : TrX} {ops : List TOp} {ao : Option Addr} {cap : Nat} {L : List TCount} {aL : Option Addr} {cL N : Nat} (h : PrI w W base tb mk x ops ao cap L aL cL N) (l : List TCount) (la : Option Addr) (lc : Nat) (hx : SlA W.heap.size 4 (RCount W.heap.size) W la lc l) (hl : l.length ≤ 1048576) (hN : N ≤ 67108864) :
    Calls Try.prog 10 #[.pointer (some ⟨tb, 0, none⟩), .slice la l.length lc] W fun e W1 => e = .returned (.int .i64 (updL ops L l).1) ∧ PrM w W1 base tb mk x ops ao cap L aL cL (N + 1048576) l := by
  obtain ⟨cs, hT, hA, hc⟩ := h.tr
  have hz := hT.nz
  have hu := upd_alike (ops := ops) hA hz (l := l) (by omega)
  refine (update_any l la lc W hT hx (Nat.le_trans (Nat.mul_le_mul_right 32 hl) (by decide)) (by omega)).mono ?_
  rintro e W1 ⟨rfl, hch, hbad, hgood⟩
  refine ⟨by rw [hu], ?_⟩
  have hbm := hT.bmb
  have hwb := h.wb
  have hbel : Below w.heap.size w W1 := h.bel.trans (hch.below h.bel.size (fun k hk e => by omega))
  have hmB := h.mB.chg hch (fun e => by have := h.tU.2; omega)
  have hmS : SlA W1.heap.size 4 (RCount W1.heap.size) W1 aL cL L := (sla_chg (E' := RCount W.heap.size) h.mS hch (Nat.le_refl _) (fun a e e2 => by have := h.ap a e; have := h.tU.2; omega) (fun _ _ _ h => h)).imp (Below.refl _ _) hch.size (fun _ _ _ h => h.imp (Below.refl _ _) hch.size)
  refine ⟨?_, hmB, hmS, hbel, h.tU, h.wb, h.ap, hA.srt, fun s => by rw [hA.cnt]; exact cntC_range hz s⟩
  by_cases h0 : updE ops cs l = 0
  · obtain ⟨cs', h1, h2, h3⟩ := hgood h0
    exact ⟨cs', h1, upd_left hA hz (by omega) h0 h1.nodup h1.nz h2, by omega⟩
  · exact ⟨cs, hT.below (hbad h0), by rw [updL_err (by rw [← hu]; exact h0)]; exact hA, by omega⟩
theorem PrM.upd2 {w W : World} {base tb mk : Nat} {x : TrX} {ops : List TOp} {ao : Option Addr} {cap : Nat} {L : List TCount} {aL : Option Addr} {cL N : Nat} {l : List TCount} (h : PrM w W base tb mk x ops ao cap L aL cL N l) (la : Option Addr) (lc : Nat) (hx : SlA W.heap.size 4 (RCount W.heap.size) W la lc l) (hg : SlA W.heap.size 7 (ROp W.heap.size) W ao cap ops) (hl : l.length ≤ 1048576) (hL : L.length ≤ 67108864) :
    Calls Try.prog 17 #[.pointer (some ⟨mk, 0, none⟩), .slice la l.length lc] W fun e W1 => e = .returned (.int .i64 (updL ops L l).1) ∧ ∃ aL' cL', PrI w W1 base tb mk x ops ao cap (updL ops L l).2 aL' cL' N := by
  obtain ⟨cs, hT, hA, hc⟩ := h.tr
  refine (rupd_any mk ops ao cap L l aL la cL lc W h.mB hg h.mS hx h.srt h.bnd (by omega) (by omega) hT.ok).mono ?_
  rintro e W1 ⟨rfl, hch, aL', cL', hB, hS, hap⟩
  have hbt := hT.btb
  have hwb := h.wb
  have htU := h.tU
  refine ⟨rfl, aL', cL', ⟨cs, hT.chgU (U := mk) hch (fun k e => by omega) htU.1 htU.2, hA, hc⟩, hB, hS, h.bel.trans (hch.below h.bel.size (fun k hk e => by omega)), h.tU, h.wb, fun a e => ?_⟩
  rcases hap with rfl | hap
  · exact h.ap a e
  · have := hap a e
    have := h.mB.lt
    omega
end Go.Proofs.Ytbholbjegfnpdaa
