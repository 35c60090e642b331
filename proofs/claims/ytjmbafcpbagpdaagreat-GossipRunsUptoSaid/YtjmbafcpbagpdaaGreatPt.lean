/- Progress: the reference's Alive; a tracker told beside its model. -/
import Derived.Test.YtjmbafcpbagpdaaGreatPs
import Derived.Test.YtjmbafcpbagpdaaGreatRB
namespace Go.Proofs.YtjmbafcpbagpdaaGreat
open Go.RowKit Go.Shelf Go.Maps
attribute [local go_sem] Oper.semAt_some
set_option linter.unusedVariables false
set_option linter.unusedSimpArgs false

def aliveL (L : List TCount) : List TStamp := (L.filter fun c => decide (0 < c.fN)).map (·.fS)
theorem aliveL_snoc (L : List TCount) (c : TCount) : aliveL (L ++ [c]) = aliveL L ++ if 0 < c.fN then [c.fS] else [] := by
  unfold aliveL
  rw [List.filter_append, List.map_append]
  by_cases h : 0 < c.fN <;> simp [h]
theorem aliveL_len (L : List TCount) : (aliveL L).length ≤ L.length := by
  unfold aliveL
  rw [List.length_map]
  exact List.length_filter_le _ _
theorem IsAll.alive {cs : List (TStamp × Int)} {L : List TCount} (h : IsAll cs L) (hn : (cs.map Prod.fst).Nodup) (s : TStamp) : s ∈ aliveL L ↔ s ∈ aliveC cs := by
  rw [alive_mem hn]
  unfold aliveL
  simp only [List.mem_map, List.mem_filter, decide_eq_true_eq]
  constructor
  · rintro ⟨c, ⟨h1, h2⟩, rfl⟩
    rw [← h.val c h1]
    exact h2
  · intro hp
    have hm : s ∈ L.map (·.fS) := h.perm.mem_iff.2 (by
      unfold cntC at hp
      cases hg : getC cs s with
      | none => rw [hg] at hp; simp at hp
      | some k => exact List.mem_map.2 ⟨(s, k), getC_mem hg, rfl⟩)
    obtain ⟨c, h1, h2⟩ := List.mem_map.1 hm
    exact ⟨c, ⟨h1, by rw [h.val c h1, h2]; exact hp⟩, h2⟩

theorem rsame_any (x y : TStamp) (w : World) :
    Calls Tryz.prog 22 #[.agg #[.int .i64 x.fLoc, .int .i64 x.fT.fEpoch, .int .i64 x.fT.fRound], .agg #[.int .i64 y.fLoc, .int .i64 y.fT.fEpoch, .int .i64 y.fT.fRound]] w fun e w' => e = .returned (.bool (decide (x = y))) ∧ Below w.heap.size w w' := by
  have hs := fun W => same_any x.fT.fEpoch x.fT.fRound y.fT.fEpoch y.fT.fRound W
  have hd : decide (x = y) = (decide (x.fLoc = y.fLoc) && sameT ⟨x.fT.fEpoch, x.fT.fRound⟩ ⟨y.fT.fEpoch, y.fT.fRound⟩) := by
    cases x; rename_i l t; cases t; rename_i e r; cases y; rename_i l2 t2; cases t2; rename_i e2 r2
    by_cases h1 : l = l2 <;> by_cases h2 : e = e2 <;> by_cases h3 : r = r2 <;> simp [sameT, h1, h2, h3]
  rw [hd]
  generalize sameT ⟨x.fT.fEpoch, x.fT.fRound⟩ ⟨y.fT.fEpoch, y.fT.fRound⟩ = b at hs ⊢
  clear hd
  by_cases h1 : x.fLoc = y.fLoc
  · have d1 : (x.fLoc == y.fLoc) = true := by simpa using h1
    rw [show decide (x.fLoc = y.fLoc) = true by simpa using h1, Bool.true_and]
    clear h1
    go_enter Tryz.func22, Tryz.ntmps22
    go_wp2_with fail
    refine (hs _).mono ?_
    rintro e w3 ⟨rfl, b3⟩
    have hbel : Below w.heap.size w w3 := (by repeat (first | exact Below.refl _ _ | assumption | refine below_drewN ?_ _ | refine Below.drew ?_ | (refine Below.setCell ?_ (by first | omega | (simp; omega) | simp) _) | (refine Below.alloc ?_ (by first | omega | (simp; omega) | simp) _) | (refine Below.trans ?_ (Below.mono (by assumption) (by first | omega | (simp; omega) | simp)))))
    go_wp2_with fail
    go_ret
    exact ⟨rfl, hbel⟩
  · have d1 : (x.fLoc == y.fLoc) = false := by simpa using h1
    rw [show decide (x.fLoc = y.fLoc) = false by simpa using h1, Bool.false_and]
    clear h1
    go_enter Tryz.func22, Tryz.ntmps22
    go_wp2_with fail
    go_ret
    exact ⟨rfl, (by repeat (first | exact Below.refl _ _ | assumption | refine below_drewN ?_ _ | refine Below.drew ?_ | (refine Below.setCell ?_ (by first | omega | (simp; omega) | simp) _) | (refine Below.alloc ?_ (by first | omega | (simp; omega) | simp) _) | (refine Below.trans ?_ (Below.mono (by assumption) (by first | omega | (simp; omega) | simp)))))⟩
end Go.Proofs.YtjmbafcpbagpdaaGreat
