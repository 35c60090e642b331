/- Model: when states are the same. -/
import Derived.Test.YtbianedgogdeeaaMs
namespace Go.Proofs.Ytbianedgogdeeaa
open Go.RowKit Go.Maps Fold Go.Lib
attribute [local go_sem] Oper.semAt_some
set_option linter.unusedVariables false
set_option linter.unusedSimpArgs false

def stEq (s t : ST) : Bool := (List.range (max s.length t.length)).all fun i => decide (keptAt s i = keptAt t i)
theorem stEq_self (s : ST) : stEq s s = true := by
  unfold stEq
  rw [List.all_eq_true]
  exact fun i _ => decide_eq_true rfl
theorem keptAt_out {s : ST} {i : Nat} (h : s.length ≤ i) : keptAt s i = [] := by
  unfold keptAt
  rw [List.getElem?_eq_none h]
  rfl
/-- A list of a state, wherever it is asked for. -/
theorem StA.kept {w : World} {B : Nat} {so : Option Addr} {cap : Nat} {s : ST} (h : StA w B so cap s) {i : Nat} (hi : i < s.length) : ∃ b off ao c, so = some ⟨b, off, none⟩ ∧ b < B ∧ w.cell? ⟨b, off + i, none⟩ = some (.slice ao (keptAt s i).length c) ∧ PrA B w ao c (keptAt s i) := by
  obtain ⟨b, off, rfl, hb, _⟩ := h.addr (by omega)
  obtain ⟨ao, c, h1, h2⟩ := StA.at h hi
  rw [keptAt_eq hi]
  exact ⟨b, off, ao, c, rfl, hb, h1, h2⟩

set_option maxRecDepth 100000 in
set_option maxHeartbeats 4000000 in
theorem sameSt_any (s t : ST) (so tt : Option Addr) (sc tc B : Nat) (w : World) (hB : B ≤ w.heap.size) (hs : StA w B so sc s) (ht : StA w B tt tc t) :
    Calls Try.prog 14 #[.agg #[.slice so s.length sc], .agg #[.slice tt t.length tc]] w fun e w' => e = .returned (.bool (stEq s t)) ∧ Below w.heap.size w w' := by
  have hls := hs.len
  have hlt := ht.len
  obtain ⟨r, hr⟩ : ∃ r, r = stEq s t := ⟨_, rfl⟩
  rw [← hr]
  have hno : ∀ i, i < max s.length t.length → keptAt s i ≠ keptAt t i → r = false := fun i hi h => by
    rw [hr]
    unfold stEq
    rw [List.all_eq_false]
    exact ⟨i, List.mem_range.2 hi, by simpa using h⟩
  have hyes : (∀ i, i < max s.length t.length → keptAt s i = keptAt t i) → r = true := fun h => by
    rw [hr]
    unfold stEq
    rw [List.all_eq_true]
    exact fun i hi => decide_eq_true (h i (List.mem_range.1 hi))
  obtain ⟨n1, hn1⟩ : ∃ n1, n1 = s.length := ⟨_, rfl⟩
  obtain ⟨n2, hn2⟩ : ∃ n2, n2 = t.length := ⟨_, rfl⟩
  rw [← hn1] at hls ⊢
  rw [← hn2] at hlt ⊢
  rw [← hn1, ← hn2] at hno hyes
  replace hn1 := Lib.hid hn1
  replace hn2 := Lib.hid hn2
  replace hr := Lib.hid hr
  replace hno := Lib.hid hno
  replace hyes := Lib.hid hyes
  go_enter Try.func14, Try.ntmps14
  go_upto_region 1 with fail
  refine Code.wp_world ?_
  intro w1 hw1
  have hb1 : Below w.heap.size w w1 := by rw [hw1]; exact (by repeat (first | exact Below.refl _ _ | refine below_drewN ?_ _ | refine Below.drew ?_ | (refine Below.alloc ?_ (by simp; try omega) _)))
  have hA1 : Blk w1 w.heap.size #[.slice so n1 sc] 27 := by rw [hw1]; exact (Blk.new _ _ _).alloc _
  have hZ1 : Blk w1 (w.heap.size + 1) #[.slice tt n2 tc] 27 := by
    rw [hw1]
    have := Blk.new (w.alloc (.cells #[.slice so n1 sc] 27)) #[.slice tt n2 tc] 27
    rwa [World.size_alloc] at this
  obtain ⟨z, hz⟩ : ∃ z, z = w.heap.size := ⟨_, rfl⟩
  rw [← hz] at hA1 hZ1 ⊢
  have a1 := hA1.cellAt (i := 0) (v := .slice so n1 sc) rfl
  have z1 := hZ1.cellAt (i := 0) (v := .slice tt n2 tc) rfl
  have hz1 : z + 1 < w1.heap.size := hZ1.lt
  replace hz := Lib.hid hz
  clear hw1 hA1 hZ1
  go_wp2_with fail
  go_loopw [5] (fun x5 wr => ∃ i : Nat, i ≤ max n1 n2 ∧ x5 = .int .i64 i ∧ Below w1.heap.size w1 wr ∧ Hid (∀ j, j < i → keptAt s j = keptAt t j)) (fun x5 _ => max n1 n2 - (intOf x5).toNat)
  case atStart => exact ⟨0, Nat.zero_le _, rfl, Below.refl _ _, Lib.hid (fun j hj => by omega)⟩
  case round =>
    obtain ⟨i, hi, rfl, hbr, hpre⟩ := hrel
    have a2 := (hbr.cell (p := ⟨z, 0, none⟩) (by simp; omega)).trans a1
    have z2 := (hbr.cell (p := ⟨z + 1, 0, none⟩) hz1).trans z1
    have hbw := hb1.trans (hbr.mono hb1.size)
    have hzw : z + 1 < wr.heap.size := Nat.lt_of_lt_of_le hz1 hbr.size
    have hsr := hs.imp' (hbw.mono hB) (Nat.le_refl _)
    have htr := ht.imp' (hbw.mono hB) (Nat.le_refl _)
    have hBw : B ≤ wr.heap.size := Nat.le_trans hB hbw.size
    clear a1 z1
    by_cases h1 : i < n1
    · have d1 : decide ((i : Int) < (n1 : Int)) = true := by simp; omega
      have d3 : decide ((i : Int) < max (n1 : Int) (n2 : Int)) = true := by simp; omega
      obtain ⟨b1, o1, x1, c1, rfl, hb1l, e1, hP1⟩ := StA.kept hsr (i := i) (by rw [← hn1.out]; exact h1)
      have hbl1 : b1 < wr.heap.size := by omega
      by_cases h2 : i < n2
      · have d2 : decide ((i : Int) < (n2 : Int)) = true := by simp; omega
        obtain ⟨b2, o2, x2, c2, rfl, hb2l, e2, hP2⟩ := StA.kept htr (i := i) (by rw [← hn2.out]; exact h2)
        have hbl2 : b2 < wr.heap.size := by omega
        have hsm := same_any _ _ x1 x2 c1 c2 B wr hBw hP1 hP2
        obtain ⟨ls, hls0⟩ : ∃ ls, ls = (keptAt s i).length := ⟨_, rfl⟩
        obtain ⟨lt, hlt0⟩ : ∃ lt, lt = (keptAt t i).length := ⟨_, rfl⟩
        try rw [← hls0] at e1 
        try rw [← hls0] at hsm
        try rw [← hlt0] at e2 
        try rw [← hlt0] at hsm
        replace hls0 := Lib.hid hls0
        replace hlt0 := Lib.hid hlt0
        clear hsr htr
        by_cases hkq : keptAt s i = keptAt t i
        · rw [decide_eq_true hkq] at hsm
          have hn : Hid (∀ j, j < i + 1 → keptAt s j = keptAt t j) := Lib.hid (fun j hj => by
            by_cases e : j = i
            · subst e; exact hkq
            · exact hpre.out j (by omega))
          replace hsm := Lib.hid hsm
          clear hpre hkq hP1 hP2
          go_wp2_with (go_at_call 13; refine hsm.out.mono ?_; rintro e w7 ⟨rfl, hb7⟩)
          have hb17 := hbr.trans (hb7.mono hbr.size)
          go_roundw
          case rel => exact ⟨i + 1, by omega, by go_num, hb17, hn⟩
          case measure => simp [intOf]; omega
        · rw [decide_eq_false hkq] at hsm
          have hrf := hno.out i (by omega) hkq
          subst hrf
          replace hsm := Lib.hid hsm
          clear hpre hkq hP1 hP2
          go_wp2_with (go_at_call 13; refine hsm.out.mono ?_; rintro e w7 ⟨rfl, hb7⟩)
          have hb17 := hbw.trans (hb7.mono hbw.size)
          go_ret
          exact ⟨rfl, hb17⟩
      · have d2 : decide ((i : Int) < (n2 : Int)) = false := by simp; omega
        have hke : keptAt t i = [] := keptAt_out (by have := hn2.out; omega)
        have hP2 : PrA B wr none 0 (keptAt t i) := by rw [hke]; exact SlA.nil _ _ _ _
        have hkl : (keptAt t i).length = 0 := by rw [hke]; rfl
        have hsm := same_any _ _ x1 none c1 0 B wr hBw hP1 hP2
        rw [hkl] at hsm
        clear hke hkl
        obtain ⟨ls, hls0⟩ : ∃ ls, ls = (keptAt s i).length := ⟨_, rfl⟩
        obtain ⟨lt, hlt0⟩ : ∃ lt, lt = (keptAt t i).length := ⟨_, rfl⟩
        try rw [← hls0] at e1 
        try rw [← hls0] at hsm
        try rw [← hlt0] at e2 
        try rw [← hlt0] at hsm
        replace hls0 := Lib.hid hls0
        replace hlt0 := Lib.hid hlt0
        clear hsr htr
        by_cases hkq : keptAt s i = keptAt t i
        · rw [decide_eq_true hkq] at hsm
          have hn : Hid (∀ j, j < i + 1 → keptAt s j = keptAt t j) := Lib.hid (fun j hj => by
            by_cases e : j = i
            · subst e; exact hkq
            · exact hpre.out j (by omega))
          replace hsm := Lib.hid hsm
          clear hpre hkq hP1 hP2
          go_wp2_with (go_at_call 13; refine hsm.out.mono ?_; rintro e w7 ⟨rfl, hb7⟩)
          have hb17 := hbr.trans (hb7.mono hbr.size)
          go_roundw
          case rel => exact ⟨i + 1, by omega, by go_num, hb17, hn⟩
          case measure => simp [intOf]; omega
        · rw [decide_eq_false hkq] at hsm
          have hrf := hno.out i (by omega) hkq
          subst hrf
          replace hsm := Lib.hid hsm
          clear hpre hkq hP1 hP2
          go_wp2_with (go_at_call 13; refine hsm.out.mono ?_; rintro e w7 ⟨rfl, hb7⟩)
          have hb17 := hbw.trans (hb7.mono hbw.size)
          go_ret
          exact ⟨rfl, hb17⟩
    · have d1 : decide ((i : Int) < (n1 : Int)) = false := by simp; omega
      have hke : keptAt s i = [] := keptAt_out (by have := hn1.out; omega)
      have hP1 : PrA B wr none 0 (keptAt s i) := by rw [hke]; exact SlA.nil _ _ _ _
      have hkl : (keptAt s i).length = 0 := by rw [hke]; rfl
      by_cases h2 : i < n2
      · have d3 : decide ((i : Int) < max (n1 : Int) (n2 : Int)) = true := by simp; omega
        have d2 : decide ((i : Int) < (n2 : Int)) = true := by simp; omega
        obtain ⟨b2, o2, x2, c2, rfl, hb2l, e2, hP2⟩ := StA.kept htr (i := i) (by rw [← hn2.out]; exact h2)
        have hbl2 : b2 < wr.heap.size := by omega
        have hsm := same_any _ _ none x2 0 c2 B wr hBw hP1 hP2
        rw [hkl] at hsm
        clear hke hkl
        obtain ⟨ls, hls0⟩ : ∃ ls, ls = (keptAt s i).length := ⟨_, rfl⟩
        obtain ⟨lt, hlt0⟩ : ∃ lt, lt = (keptAt t i).length := ⟨_, rfl⟩
        try rw [← hls0] at e1 
        try rw [← hls0] at hsm
        try rw [← hlt0] at e2 
        try rw [← hlt0] at hsm
        replace hls0 := Lib.hid hls0
        replace hlt0 := Lib.hid hlt0
        clear hsr htr
        by_cases hkq : keptAt s i = keptAt t i
        · rw [decide_eq_true hkq] at hsm
          have hn : Hid (∀ j, j < i + 1 → keptAt s j = keptAt t j) := Lib.hid (fun j hj => by
            by_cases e : j = i
            · subst e; exact hkq
            · exact hpre.out j (by omega))
          replace hsm := Lib.hid hsm
          clear hpre hkq hP1 hP2
          go_wp2_with (go_at_call 13; refine hsm.out.mono ?_; rintro e w7 ⟨rfl, hb7⟩)
          have hb17 := hbr.trans (hb7.mono hbr.size)
          go_roundw
          case rel => exact ⟨i + 1, by omega, by go_num, hb17, hn⟩
          case measure => simp [intOf]; omega
        · rw [decide_eq_false hkq] at hsm
          have hrf := hno.out i (by omega) hkq
          subst hrf
          replace hsm := Lib.hid hsm
          clear hpre hkq hP1 hP2
          go_wp2_with (go_at_call 13; refine hsm.out.mono ?_; rintro e w7 ⟨rfl, hb7⟩)
          have hb17 := hbw.trans (hb7.mono hbw.size)
          go_ret
          exact ⟨rfl, hb17⟩
      · have d3 : decide ((i : Int) < max (n1 : Int) (n2 : Int)) = false := by simp; omega
        have hrt : r = true := hyes.out (fun j hj => hpre.out j (by omega))
        subst hrt
        clear hpre hke hkl hP1
        go_wp2_with fail
        go_ret
        exact ⟨rfl, hbw⟩
end Go.Proofs.Ytbianedgogdeeaa
