/- Progress: the order of Updates: the walk of ProgressOrders. -/
import Derived.Test.YtjmbafcpbagpdaaPu
import Derived.Test.YtjmbafcpbagpdaaPo
namespace Go.Proofs.Ytjmbafcpbagpdaa
open Go.RowKit Go.Shelf Go.Maps
attribute [local go_sem] Oper.semAt_some
set_option linter.unusedVariables false
set_option linter.unusedSimpArgs false

theorem chg_cut {B : Nat} {S : Nat → Prop} {w0 w w' : World} (h : Below B w0 w) (hB : w0.heap.size ≤ B) (hc : Chg S w w') : ∃ v, v.heap.size = w0.heap.size ∧ Chg S w0 v ∧ Below w0.heap.size v w' := by
  have hs : w0.heap.size ≤ w'.heap.size := Nat.le_trans h.size hc.size
  refine ⟨{ w' with heap := w'.heap.extract 0 w0.heap.size }, by simp; omega, ⟨hc.os.trans h.os, hc.tape.trans h.tape, hc.output.trans h.output, by simp; omega, fun i hi hn => ?_⟩, ⟨rfl, rfl, rfl, by simp; omega, fun i hi => ?_⟩⟩
  · have h1 := h.block i (by omega)
    have h2 := hc.block i (Nat.lt_of_lt_of_le hi h.size) hn
    rw [← h1, ← h2]
    simp only [Array.getElem?_extract]
    rw [if_pos (by omega)]
    simp
  · simp only [Array.getElem?_extract]
    rw [if_pos (by omega)]
    simp
/-- What lies below a tracker changes. -/
theorem Tr.chgL {w w' : World} {base tb : Nat} {x : TrX} {ops : List TOp} {cs : List (TStamp × Int)} (h : Tr w base tb x ops cs) {S : Nat → Prop} (hc : Chg S w w') (hS : ∀ k, S k → k < base) : Tr w' base tb x ops cs := by
  obtain ⟨w0, h1, h2, h3, h4, h5⟩ := h.held
  obtain ⟨v, hv1, hv2, hv3⟩ := chg_cut h5 (Nat.le_refl _) hc
  have hn : ∀ b, base ≤ b → ¬ S b := fun b hb hs => by have := hS b hs; omega
  refine ⟨h.blk.chg hc (hn _ h.btb), ⟨v, h1.chg hv2 hn, ⟨h2.hdr.chg hv2 (hn _ h2.hbase), h2.len, h2.hbase, fun j hj => ?_, h2.nodup⟩, by omega, by omega, by rw [← hv1] at hv3; exact hv3⟩, h.opsE, h.map.chg hc (hn _ h.bmb), h.nz, h.good, h.ok, h.btb, h.bmb⟩
  obtain ⟨e1, e2, e3⟩ := h2.rows j hj
  exact ⟨e1, e2, e3.chg hv2 (hn _ e1)⟩
theorem tot_range {ops : List TOp} (s : TStamp) : ∀ {l : List TCount}, l.all (okC ops) = true → -2147483648 * (l.length : Int) ≤ totC l s ∧ totC l s ≤ 2147483648 * (l.length : Int)
  | [], _ => by simp [totC]
  | c :: l, h => by
    rw [List.all_cons, Bool.and_eq_true] at h
    obtain ⟨h1, h2⟩ := tot_range s h.2
    have h3 := h.1
    unfold okC at h3
    simp only [Bool.and_eq_true, decide_eq_true_eq] at h3
    rw [totC_cons, List.length_cons]
    split <;> omega
theorem tot_small {ops : List TOp} (s : TStamp) {l : List TCount} (h : l.all (okC ops) = true) (hl : l.length ≤ 100) : wrap64 (totC l s) = totC l s ∧ -214748364800 ≤ totC l s ∧ totC l s ≤ 214748364800 := by
  have := tot_range (ops := ops) s h
  exact ⟨IntWalk.wrap64_in _ (by omega), by omega, by omega⟩
theorem totC_append (a b : List TCount) (s : TStamp) : totC (a ++ b) s = totC a s + totC b s := by
  unfold totC
  rw [List.map_append, List.sum_append]
theorem upd_small {ops : List TOp} {cs : List (TStamp × Int)} {l : List TCount} (h : l.all (okC ops) = true) (hl : l.length ≤ 100) (hcs : ∀ s, -214748364800 ≤ cntC cs s ∧ cntC cs s ≤ 214748364800) : updE ops cs l = 0 := by
  unfold updE
  rw [if_neg (by rw [h]; simp), if_pos]
  intro p hp
  unfold passC
  have h1 := tot_range (ops := ops) p.1 h
  have h2 := hcs p.1
  rw [nxL_val hp, wrap_add']
  rw [show wrap64 (cntC cs p.1 + totC l p.1) = cntC cs p.1 + totC l p.1 from IntWalk.wrap64_in _ (by omega)]
  omega
theorem IsAll.congr {cs cs' : List (TStamp × Int)} {L : List TCount} (h : IsAll cs L) (hn : (cs.map Prod.fst).Nodup) (hn' : (cs'.map Prod.fst).Nodup) (hz : ∀ p ∈ cs, p.2 ≠ 0 ∧ -4611686018427387904 ≤ p.2 ∧ p.2 ≤ 4611686018427387904) (hz' : ∀ p ∈ cs', p.2 ≠ 0 ∧ -4611686018427387904 ≤ p.2 ∧ p.2 ≤ 4611686018427387904)
    (he : ∀ s, cntC cs' s = cntC cs s) : IsAll cs' L := by
  refine ⟨h.perm.trans ((List.perm_ext_iff_of_nodup hn hn').2 (fun s => ?_)), h.sort, fun c hc => by rw [he]; exact h.val c hc⟩
  rw [key_iff hn hz, key_iff hn' hz', he]
end Go.Proofs.Ytjmbafcpbagpdaa
