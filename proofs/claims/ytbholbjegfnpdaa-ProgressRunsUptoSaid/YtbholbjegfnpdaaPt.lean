/- Progress: the reference's Alive; a tracker told beside its model. -/
import Derived.Test.YtbholbjegfnpdaaPs
import Derived.Test.YtbholbjegfnpdaaRB
namespace Go.Proofs.Ytbholbjegfnpdaa
open Go.RowKit Go.Shelf Go.Maps
attribute [local go_sem] Oper.semAt_some
set_option linter.unusedVariables false
set_option linter.unusedSimpArgs false

def aliveL (L : List TCount) : List TStamp := (L.filter fun c => decide (0 < c.fN)).map (·.fS)
theorem aliveL_snoc (L : List TCount) (c : TCount) : aliveL (L ++ [c]) = aliveL L ++ if 0 < c.fN then [c.fS] else [] := by
  unfold aliveL
  rw [List.filter_append, List.map_append]
  by_cases h : 0 < c.fN <;> simp [h]
theorem aliveL_len (L : List TCount) : (aliveL L).length ≤ L.length := by
  unfold aliveL
  rw [List.length_map]
  exact List.length_filter_le _ _
theorem IsAll.alive {cs : List (TStamp × Int)} {L : List TCount} (h : IsAll cs L) (hn : (cs.map Prod.fst).Nodup) (s : TStamp) : s ∈ aliveL L ↔ s ∈ aliveC cs := by
  rw [alive_mem hn]
  unfold aliveL
  simp only [List.mem_map, List.mem_filter, decide_eq_true_eq]
  constructor
  · rintro ⟨c, ⟨h1, h2⟩, rfl⟩
    rw [← h.val c h1]
    exact h2
  · intro hp
    have hm : s ∈ L.map (·.fS) := h.perm.mem_iff.2 (by
      unfold cntC at hp
      cases hg : getC cs s with
      | none => rw [hg] at hp; simp at hp
      | some k => exact List.mem_map.2 ⟨(s, k), getC_mem hg, rfl⟩)
    obtain ⟨c, h1, h2⟩ := List.mem_map.1 hm
    exact ⟨c, ⟨h1, by rw [h.val c h1, h2]; exact hp⟩, h2⟩

set_option maxRecDepth 100000 in
set_option maxHeartbeats 2000000 in
theorem ralive_any (mk : Nat) (gv : Value) (L : List TCount) (aL : Option Addr) (cL : Nat) (w : World) (hB : Blk w mk #[gv, .slice aL L.length cL] 59) (hs : SlA w.heap.size 4 (RCount w.heap.size) w aL cL L) (hz : (L.length + 1) * 24 ≤ 140737488355328) :
    Calls Try.prog 38 #[.pointer (some ⟨mk, 0, none⟩)] w fun e w' => ∃ v, e = .returned v ∧ OwnL encS w' w.heap.size 37 3 v (aliveL L) ∧ Below w.heap.size w w' := by
  obtain ⟨jS, hiS, hS0, hS1, hS2⟩ := info_parts infoS
  obtain ⟨n, hn⟩ : ∃ n, n = L.length := ⟨_, rfl⟩
  rw [← hn] at hB hz
  replace hn := Lib.hid hn
  have hmk := hB.lt
  go_enter Try.func38, Try.ntmps38
  go_wp2_with fail
  go_loopw [3, 4] (fun x3 x4 wr => ∃ i : Nat, i ≤ n ∧ x4 = .int .i64 i ∧ Below w.heap.size w wr ∧ OwnL encS wr w.heap.size 37 3 x3 (aliveL (L.take i))) (fun _ x4 _ => n - (intOf x4).toNat)
  case atStart => exact ⟨0, Nat.zero_le _, rfl, Below.refl _ _, OwnL.nil _ _ _ _ _⟩
  case round =>
    obtain ⟨i, hi, rfl, hbr, hown⟩ := hrel
    have hBr := hB.below hbr hmk
    have c1 := hBr.cellAt (i := 1) (v := .slice aL n cL) rfl
    have hszr := hbr.size
    by_cases hin : i < n
    · have hiL : i < L.length := by rw [← hn.out]; exact hin
      have hsr := hs.imp hbr (Nat.le_refl _) (fun _ _ _ h => h.imp hbr (Nat.le_refl _))
      obtain ⟨b2, off2, rfl, hb2l, _⟩ := hsr.addr (by omega)
      obtain ⟨c, hc⟩ : ∃ c, L[i] = c := ⟨_, rfl⟩
      obtain ⟨e0, e1, e2, e3, _⟩ := RCount.at hsr hiL hc
      have htk : aliveL (L.take (i + 1)) = aliveL (L.take i) ++ if 0 < c.fN then [c.fS] else [] := by rw [List.take_succ_eq_append_getElem hiL, hc, aliveL_snoc]
      have hal : (aliveL (L.take i)).length ≤ i := Nat.le_trans (aliveL_len _) (by rw [List.length_take]; omega)
      obtain ⟨av, cv, hv3, _, _, _⟩ := hown.slice
      obtain ⟨k, hk⟩ : ∃ k, k = (aliveL (L.take i)).length := ⟨_, rfl⟩
      rw [← hk] at hv3 hal
      subst hv3
      replace hk := Lib.hid hk
      clear hc hsr
      by_cases hp : 0 < c.fN
      · rw [if_pos hp] at htk
        replace htk := Lib.hid htk
        have d1 : decide ((0 : Int) < c.fN) = true := by simpa using hp
        have hsf : (#[.int .i64 c.fS.fLoc, .int .i64 c.fS.fT.fEpoch, .int .i64 c.fS.fT.fRound] : Array Value) = (encS c.fS).toArray := rfl
        replace hsf := Lib.hid hsf
        clear hp
        go_wp2_with (at_builtin; refine Shut.out ?kap)
        unfold Shut
        rw [hsf.out]
        refine wpList_app1 rfl _ _ 32 rfl Try.underlying32 hiS hS0 hS1 hS2 rfl (by decide) (enc := encS) c.fS rfl hown rfl (encS_len _) (encS_one _) (by rw [← hk.out]; omega) (by rw [← hk.out]; unfold maxLen; omega) hszr ?_
        intro a3 cp3 w7 hown7 hb7 hgr7
        have hb8 := hbr.trans hb7
        rw [← htk.out] at hown7
        rw [← hk.out]
        clear hgr7 hown c1 hBr
        rw [← hk.out] at hown7
        go_wp2_with fail
        go_roundw
        case rel => exact ⟨i + 1, by omega, by go_num, hb8, hown7⟩
        case measure => simp [intOf]; omega
      · rw [if_neg hp, List.append_nil] at htk
        replace htk := Lib.hid htk
        have d1 : decide ((0 : Int) < c.fN) = false := by simpa using hp
        clear hp
        go_wp2_with fail
        go_roundw
        case rel => exact ⟨i + 1, by omega, by go_num, hbr, by rw [htk.out]; exact hown⟩
        case measure => simp [intOf]; omega
    · obtain rfl : n = i := by omega
      rw [List.take_of_length_le (Nat.le_of_eq hn.out.symm)] at hown
      go_wp2_with fail
      go_ret
      exact ⟨_, rfl, hown, hbr⟩
theorem rsame_any (x y : TStamp) (w : World) :
    Calls Try.prog 23 #[.agg #[.int .i64 x.fLoc, .int .i64 x.fT.fEpoch, .int .i64 x.fT.fRound], .agg #[.int .i64 y.fLoc, .int .i64 y.fT.fEpoch, .int .i64 y.fT.fRound]] w fun e w' => e = .returned (.bool (decide (x = y))) ∧ Below w.heap.size w w' := by
  have hs := fun W => same_any x.fT.fEpoch x.fT.fRound y.fT.fEpoch y.fT.fRound W
  have hd : decide (x = y) = (decide (x.fLoc = y.fLoc) && sameT ⟨x.fT.fEpoch, x.fT.fRound⟩ ⟨y.fT.fEpoch, y.fT.fRound⟩) := by
    cases x; rename_i l t; cases t; rename_i e r; cases y; rename_i l2 t2; cases t2; rename_i e2 r2
    by_cases h1 : l = l2 <;> by_cases h2 : e = e2 <;> by_cases h3 : r = r2 <;> simp [sameT, h1, h2, h3]
  rw [hd]
  generalize sameT ⟨x.fT.fEpoch, x.fT.fRound⟩ ⟨y.fT.fEpoch, y.fT.fRound⟩ = b at hs ⊢
  clear hd
  by_cases h1 : x.fLoc = y.fLoc
  · have d1 : (x.fLoc == y.fLoc) = true := by simpa using h1
    rw [show decide (x.fLoc = y.fLoc) = true by simpa using h1, Bool.true_and]
    clear h1
    go_enter Try.func23, Try.ntmps23
    go_wp2_with fail
    refine (hs _).mono ?_
    rintro e w3 ⟨rfl, b3⟩
    have hbel : Below w.heap.size w w3 := (by repeat (first | exact Below.refl _ _ | assumption | refine below_drewN ?_ _ | refine Below.drew ?_ | (refine Below.setCell ?_ (by first | omega | (simp; omega) | simp) _) | (refine Below.alloc ?_ (by first | omega | (simp; omega) | simp) _) | (refine Below.trans ?_ (Below.mono (by assumption) (by first | omega | (simp; omega) | simp)))))
    go_wp2_with fail
    go_ret
    exact ⟨rfl, hbel⟩
  · have d1 : (x.fLoc == y.fLoc) = false := by simpa using h1
    rw [show decide (x.fLoc = y.fLoc) = false by simpa using h1, Bool.false_and]
    clear h1
    go_enter Try.func23, Try.ntmps23
    go_wp2_with fail
    go_ret
    exact ⟨rfl, (by repeat (first | exact Below.refl _ _ | assumption | refine below_drewN ?_ _ | refine Below.drew ?_ | (refine Below.setCell ?_ (by first | omega | (simp; omega) | simp) _) | (refine Below.alloc ?_ (by first | omega | (simp; omega) | simp) _) | (refine Below.trans ?_ (Below.mono (by assumption) (by first | omega | (simp; omega) | simp)))))⟩
end Go.Proofs.Ytbholbjegfnpdaa
