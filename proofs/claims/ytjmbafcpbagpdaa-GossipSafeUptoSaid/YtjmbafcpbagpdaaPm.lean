/- Progress: a tracker that was told a list: Update, Front, Done (for ProgressStays). -/
import Derived.Test.YtjmbafcpbagpdaaPl
import Derived.Test.YtjmbafcpbagpdaaPk
namespace Go.Proofs.Ytjmbafcpbagpdaa
open Go.RowKit Go.Maps
set_option linter.unusedVariables false
set_option linter.unusedSimpArgs false

theorem Tr.chgU {w w' : World} {base tb U : Nat} {x : TrX} {ops : List TOp} {cs : List (TStamp × Int)} (h : Tr w base tb x ops cs) {S : Nat → Prop} (hc : Chg S w w') (hS : ∀ k, S k → U ≤ k) (ht : tb < U) (hm : x.mb < U) : Tr w' base tb x ops cs := by
  obtain ⟨w0, h1, h2, h3, h4, h5⟩ := h.held
  exact ⟨h.blk.chg hc (fun e => by have := hS _ e; omega), ⟨w0, h1, h2, h3, h4, h5.trans (hc.below h5.size (fun j hj e => by have := hS _ e; omega))⟩, h.opsE, h.map.chg hc (fun e => by have := hS _ e; omega), h.nz, h.good, h.ok, h.btb, h.bmb⟩
/-- A tracker that was told the list B; beside it a slice of the pointstamps A (from U on) and the graph's box. -/
structure Cm (w wr : World) (base tb U : Nat) (x : TrX) (ops : List TOp) (gv : Value) (B A : List TStamp) (v : Value) : Prop where
  tr : ∃ cs, Tr wr base tb x ops cs ∧ Told cs B
  own : OwnL encS wr U 47 3 v A
  ut : tb < U
  um : x.mb < U
  ug : w.heap.size < U
  us : U ≤ wr.heap.size
  g : Blk wr w.heap.size #[gv] 24
  bel : Below w.heap.size w wr
  mb : w.heap.size < x.mb
namespace Cm
variable {w wr w' : World} {base tb U : Nat} {x : TrX} {ops : List TOp} {gv v : Value} {B A : List TStamp}
theorem below (h : Cm w wr base tb U x ops gv B A v) (b : Below wr.heap.size wr w') : Cm w w' base tb U x ops gv B A v := by
  obtain ⟨cs, h1, h2⟩ := h.tr
  exact ⟨⟨cs, h1.below b, h2⟩, h.own.below b (Nat.le_refl _), h.ut, h.um, h.ug, Nat.le_trans h.us b.size, h.g.below b h.g.lt, h.bel.trans (b.mono h.bel.size), h.mb⟩
/-- The slice changes, and what lies from U on. -/
theorem grow (h : Cm w wr base tb U x ops gv B A v) {S : Nat → Prop} (hc : Chg S wr w') (hS : ∀ k, S k → U ≤ k) {A' : List TStamp} {v' : Value} (ho : OwnL encS w' U 47 3 v' A') : Cm w w' base tb U x ops gv B A' v' := by
  obtain ⟨cs, h1, h2⟩ := h.tr
  have := h.ug
  exact ⟨⟨cs, h1.chgU hc hS h.ut h.um, h2⟩, ho, h.ut, h.um, h.ug, Nat.le_trans h.us hc.size, h.g.chg hc (fun e => by have := hS _ e; omega), h.bel.trans (hc.below h.bel.size (fun k hk e => by have := hS _ e; omega)), h.mb⟩
end Cm
theorem nodup_len : ∀ {l B : List TStamp}, l.Nodup → (∀ s ∈ l, s ∈ B) → l.length ≤ B.length
  | [], _, _, _ => Nat.zero_le _
  | a :: r, B, hn, hs => by
    rw [List.nodup_cons] at hn
    have ha := hs a (by simp)
    have := nodup_len (l := r) (B := B.erase a) hn.2 (fun s hsr => by
      have hne : s ≠ a := fun e => by subst e; exact hn.1 hsr
      exact (List.mem_erase_of_ne hne).2 (hs s (by simp [hsr])))
    rw [List.length_erase_of_mem ha] at this
    have := List.length_pos_of_mem ha
    rw [List.length_cons]
    omega
theorem told_len {cs : List (TStamp × Int)} {B : List TStamp} (hn : (cs.map Prod.fst).Nodup) (hz : ∀ p ∈ cs, p.2 ≠ 0 ∧ -4611686018427387904 ≤ p.2 ∧ p.2 ≤ 4611686018427387904) (h : Told cs B) : cs.length ≤ B.length := by
  have hs : ∀ s ∈ cs.map Prod.fst, s ∈ B := fun s hs => by
    have h1 := (key_iff hn hz s).1 hs
    rw [h s] at h1
    have h2 := cntA_range s B
    exact cntA_pos.1 (by omega)
  have := nodup_len hn hs
  simpa using this
theorem upd_told {w wr : World} {base tb U : Nat} {x : TrX} {ops : List TOp} {gv v : Value} {B B' A : List TStamp} (h : Cm w wr base tb U x ops gv B A v) (l : List TCount) (la : Option Addr) (lc : Nat) (hl : SlA wr.heap.size 4 (RCount wr.heap.size) wr la lc l) (hn : l.length ≤ 1000) (hB : B.length ≤ 1000) (hB' : B'.length ≤ 1000)
    (ht : ∀ s, cntA B s + totC l s = cntA B' s) (hok : l.all (okC ops) = true) :
    Calls Try.prog 23 #[.pointer (some ⟨tb, 0, none⟩), .slice la l.length lc] wr fun e w' => e = .returned (.int .i64 0) ∧ Cm w w' base tb U x ops gv B' A v ∧ Chg (fun k => k = x.mb) wr w' := by
  obtain ⟨cs, hT, hTo⟩ := h.tr
  have hlen := told_len hT.nodup hT.nz hTo
  have hE := hTo.upd ht hB' hok
  refine (update_any l la lc wr hT hl (by omega) (by omega)).mono ?_
  rintro e w' ⟨rfl, hc, _, h4⟩
  obtain ⟨cs', hT', hcnt, _⟩ := h4 hE
  refine ⟨by rw [hE], ⟨⟨cs', hT', hTo.next ht hB' hcnt⟩, h.own.chg hc (own_ne_map2 h.own hT.map), h.ut, h.um, h.ug, Nat.le_trans h.us hc.size, h.g.chg hc (fun e => by have := h.mb; omega), h.bel.trans (hc.below h.bel.size (fun k hk e => by have := h.mb; omega)), h.mb⟩, hc⟩
theorem front_told {w wr : World} {base tb U : Nat} {x : TrX} {ops : List TOp} {gv v : Value} {B A : List TStamp} (h : Cm w wr base tb U x ops gv B A v) (hB : B.length ≤ 1000) (loc : Int) :
    Calls Try.prog 17 #[.pointer (some ⟨tb, 0, none⟩), .int .i64 loc] wr fun e w' => Below wr.heap.size wr w' ∧ ∃ v f, e = .returned v ∧ OwnT w' wr.heap.size v f ∧ IsFront (timesS ops loc B) f := by
  obtain ⟨cs, hT, hTo⟩ := h.tr
  have hlen := told_len hT.nodup hT.nz hTo
  refine (tfront_any loc wr hT (by omega)).mono ?_
  rintro e w' ⟨v, f, rfl, h1, h2, h3⟩
  exact ⟨h3, v, f, rfl, h1, IsFront.congr (times_mem (fun s => hTo.alive hT.nodup s)) h2⟩
theorem done_told {w wr : World} {base tb U : Nat} {x : TrX} {ops : List TOp} {gv v : Value} {B A : List TStamp} (h : Cm w wr base tb U x ops gv B A v) (hB : B.length ≤ 1000) (s : TStamp) (hs : goodS ops s.fLoc s.fT.fEpoch s.fT.fRound = true) (hB0 : B = []) :
    Calls Try.prog 12 #[.pointer (some ⟨tb, 0, none⟩), mkS s] wr fun e w' => e = .returned (.bool true) ∧ Below wr.heap.size wr w' := by
  obtain ⟨cs, hT, hTo⟩ := h.tr
  have hlen := told_len hT.nodup hT.nz hTo
  refine (tdone_any s wr hT (by omega)).mono ?_
  rintro e w' ⟨rfl, h1⟩
  refine ⟨?_, h1⟩
  unfold doneC
  rw [hs, Bool.true_and]
  have : (aliveC cs).any (stands ops s) = false := by
    rw [List.any_eq_false]
    intro a ha
    have := (hTo.alive hT.nodup a).1 ha
    rw [hB0] at this
    cases this
  rw [this]
  rfl
end Go.Proofs.Ytjmbafcpbagpdaa
