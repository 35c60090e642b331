/- Progress: the order of Updates: the walk of ProgressOrders. -/
import Derived.Test.YtjmbafcpbagpdaaGreatPu
import Derived.Test.YtjmbafcpbagpdaaGreatPo
namespace Go.Proofs.YtjmbafcpbagpdaaGreat
open Go.RowKit Go.Shelf Go.Maps
attribute [local go_sem] Oper.semAt_some
set_option linter.unusedVariables false
set_option linter.unusedSimpArgs false

theorem tot_range {ops : List TOp} (s : TStamp) : ∀ {l : List TCount}, l.all (okC ops) = true → -2147483648 * (l.length : Int) ≤ totC l s ∧ totC l s ≤ 2147483648 * (l.length : Int)
  | [], _ => by simp [totC]
  | c :: l, h => by
    rw [List.all_cons, Bool.and_eq_true] at h
    obtain ⟨h1, h2⟩ := tot_range s h.2
    have h3 := h.1
    unfold okC at h3
    simp only [Bool.and_eq_true, decide_eq_true_eq] at h3
    rw [totC_cons, List.length_cons]
    split <;> omega
theorem totC_append (a b : List TCount) (s : TStamp) : totC (a ++ b) s = totC a s + totC b s := by
  unfold totC
  rw [List.map_append, List.sum_append]
theorem IsAll.congr {cs cs' : List (TStamp × Int)} {L : List TCount} (h : IsAll cs L) (hn : (cs.map Prod.fst).Nodup) (hn' : (cs'.map Prod.fst).Nodup) (hz : ∀ p ∈ cs, p.2 ≠ 0 ∧ -4611686018427387904 ≤ p.2 ∧ p.2 ≤ 4611686018427387904) (hz' : ∀ p ∈ cs', p.2 ≠ 0 ∧ -4611686018427387904 ≤ p.2 ∧ p.2 ≤ 4611686018427387904)
    (he : ∀ s, cntC cs' s = cntC cs s) : IsAll cs' L := by
  refine ⟨h.perm.trans ((List.perm_ext_iff_of_nodup hn hn').2 (fun s => ?_)), h.sort, fun c hc => by rw [he]; exact h.val c hc⟩
  rw [key_iff hn hz, key_iff hn' hz', he]
end Go.Proofs.YtjmbafcpbagpdaaGreat
