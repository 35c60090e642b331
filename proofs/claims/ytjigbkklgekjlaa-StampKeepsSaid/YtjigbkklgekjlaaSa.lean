/- Stamp: Good, Le, Join, Meet, Out, Around, and the document's Good, Le, Same. -/
import Derived.Test.YtjigbkklgekjlaaSm
import Derived.Test.YtjigbkklgekjlaaBaseA
import Derived.Test.YtjigbkklgekjlaaBaseJ
import Derived.WalkKit
import Derived.WalkSpells
import Derived.WalkLawsBesides
import Derived.Deep.QuietTactic
import Derived.BigQuiet
namespace Go.Proofs.Ytjigbkklgekjlaa
open Go.RowKit
set_option linter.unusedVariables false

set_option maxHeartbeats 400000 in
theorem good_any (e r : Int) (w : World) :
    Calls Try.prog 18 #[.agg #[.int .i64 e, .int .i64 r]] w fun x w' => x = .returned (.bool (goodT ⟨e, r⟩)) ∧ Below w.heap.size w w' := by
  by_cases h1 : 0 ≤ e
  · by_cases h2 : 0 ≤ r
    · rw [show goodT ⟨e, r⟩ = true by simp [goodT, h1, h2]]
      go_enter Try.func18, Try.ntmps18
      go_wp2
      go_ret
      exact ⟨rfl, (by repeat (first | exact Below.refl _ _ | refine below_drewN ?_ _ | refine Below.drew ?_ | (refine Below.alloc ?_ (by simp; try omega) _)))⟩
    · rw [show goodT ⟨e, r⟩ = false by simp [goodT, h1, h2]]
      go_enter Try.func18, Try.ntmps18
      go_wp2
      go_ret
      exact ⟨rfl, (by repeat (first | exact Below.refl _ _ | refine below_drewN ?_ _ | refine Below.drew ?_ | (refine Below.alloc ?_ (by simp; try omega) _)))⟩
  · rw [show goodT ⟨e, r⟩ = false by simp [goodT, h1]]
    go_enter Try.func18, Try.ntmps18
    go_wp2
    go_ret
    exact ⟨rfl, (by repeat (first | exact Below.refl _ _ | refine below_drewN ?_ _ | refine Below.drew ?_ | (refine Below.alloc ?_ (by simp; try omega) _)))⟩
theorem good_t (x : TTime) (w : World) :
    Calls Try.prog 18 #[.agg #[.int .i64 x.fEpoch, .int .i64 x.fRound]] w fun e w' => e = .returned (.bool (goodT x)) ∧ Below w.heap.size w w' := good_any x.fEpoch x.fRound w

set_option maxHeartbeats 400000 in
theorem rgood_any (e r : Int) (w : World) :
    Calls Try.prog 19 #[.agg #[.int .i64 e, .int .i64 r]] w fun x w' => x = .returned (.bool (goodT ⟨e, r⟩)) ∧ Below w.heap.size w w' := by
  by_cases h1 : 0 ≤ e
  · by_cases h2 : 0 ≤ r
    · rw [show goodT ⟨e, r⟩ = true by simp [goodT, h1, h2]]
      go_enter Try.func19, Try.ntmps19
      go_wp2
      go_ret
      exact ⟨rfl, (by repeat (first | exact Below.refl _ _ | refine below_drewN ?_ _ | refine Below.drew ?_ | (refine Below.alloc ?_ (by simp; try omega) _)))⟩
    · rw [show goodT ⟨e, r⟩ = false by simp [goodT, h1, h2]]
      go_enter Try.func19, Try.ntmps19
      go_wp2
      go_ret
      exact ⟨rfl, (by repeat (first | exact Below.refl _ _ | refine below_drewN ?_ _ | refine Below.drew ?_ | (refine Below.alloc ?_ (by simp; try omega) _)))⟩
  · rw [show goodT ⟨e, r⟩ = false by simp [goodT, h1]]
    go_enter Try.func19, Try.ntmps19
    go_wp2
    go_ret
    exact ⟨rfl, (by repeat (first | exact Below.refl _ _ | refine below_drewN ?_ _ | refine Below.drew ?_ | (refine Below.alloc ?_ (by simp; try omega) _)))⟩
theorem rgood_t (x : TTime) (w : World) :
    Calls Try.prog 19 #[.agg #[.int .i64 x.fEpoch, .int .i64 x.fRound]] w fun e w' => e = .returned (.bool (goodT x)) ∧ Below w.heap.size w w' := rgood_any x.fEpoch x.fRound w

set_option maxHeartbeats 400000 in
theorem le_any (a b c d : Int) (w : World) :
    Calls Try.prog 15 #[.agg #[.int .i64 a, .int .i64 b], .agg #[.int .i64 c, .int .i64 d]] w fun x w' => x = .returned (.bool (leT ⟨a, b⟩ ⟨c, d⟩)) ∧ Below w.heap.size w w' := by
  by_cases h1 : a ≤ c
  · by_cases h2 : b ≤ d
    · rw [show leT ⟨a, b⟩ ⟨c, d⟩ = true by simp [leT, h1, h2]]
      go_enter Try.func15, Try.ntmps15
      go_wp2
      go_ret
      exact ⟨rfl, (by repeat (first | exact Below.refl _ _ | refine below_drewN ?_ _ | refine Below.drew ?_ | (refine Below.alloc ?_ (by simp; try omega) _)))⟩
    · rw [show leT ⟨a, b⟩ ⟨c, d⟩ = false by simp [leT, h1, h2]]
      go_enter Try.func15, Try.ntmps15
      go_wp2
      go_ret
      exact ⟨rfl, (by repeat (first | exact Below.refl _ _ | refine below_drewN ?_ _ | refine Below.drew ?_ | (refine Below.alloc ?_ (by simp; try omega) _)))⟩
  · rw [show leT ⟨a, b⟩ ⟨c, d⟩ = false by simp [leT, h1]]
    go_enter Try.func15, Try.ntmps15
    go_wp2
    go_ret
    exact ⟨rfl, (by repeat (first | exact Below.refl _ _ | refine below_drewN ?_ _ | refine Below.drew ?_ | (refine Below.alloc ?_ (by simp; try omega) _)))⟩
theorem le_t (x y : TTime) (w : World) :
    Calls Try.prog 15 #[.agg #[.int .i64 x.fEpoch, .int .i64 x.fRound], .agg #[.int .i64 y.fEpoch, .int .i64 y.fRound]] w fun e w' => e = .returned (.bool (leT x y)) ∧ Below w.heap.size w w' := le_any x.fEpoch x.fRound y.fEpoch y.fRound w

set_option maxHeartbeats 400000 in
theorem rle_any (a b c d : Int) (w : World) :
    Calls Try.prog 20 #[.agg #[.int .i64 a, .int .i64 b], .agg #[.int .i64 c, .int .i64 d]] w fun x w' => x = .returned (.bool (leT ⟨a, b⟩ ⟨c, d⟩)) ∧ Below w.heap.size w w' := by
  have hh : (!decide (c < a) && !decide (d < b)) = leT ⟨a, b⟩ ⟨c, d⟩ := by
    rw [Bool.eq_iff_iff]; simp [leT]
  replace hh := Lib.hid hh
  go_enter Try.func20, Try.ntmps20
  go_wp2
  all_goals (go_ret; refine ⟨?_, (by repeat (first | exact Below.refl _ _ | refine below_drewN ?_ _ | refine Below.drew ?_ | (refine Below.alloc ?_ (by simp; try omega) _)))⟩; rw [← hh.out])
  all_goals (first | rfl | (simp; omega))
theorem rle_t (x y : TTime) (w : World) :
    Calls Try.prog 20 #[.agg #[.int .i64 x.fEpoch, .int .i64 x.fRound], .agg #[.int .i64 y.fEpoch, .int .i64 y.fRound]] w fun e w' => e = .returned (.bool (leT x y)) ∧ Below w.heap.size w w' := rle_any x.fEpoch x.fRound y.fEpoch y.fRound w

set_option maxHeartbeats 400000 in
theorem same_any (a b c d : Int) (w : World) :
    Calls Try.prog 11 #[.agg #[.int .i64 a, .int .i64 b], .agg #[.int .i64 c, .int .i64 d]] w fun x w' => x = .returned (.bool (sameT ⟨a, b⟩ ⟨c, d⟩)) ∧ Below w.heap.size w w' := by
  by_cases h1 : a = c
  · subst h1
    by_cases h2 : b = d
    · subst h2
      rw [show sameT ⟨a, b⟩ ⟨a, b⟩ = true by simp [sameT]]
      go_enter Try.func11, Try.ntmps11
      go_wp2
      go_ret
      exact ⟨rfl, (by repeat (first | exact Below.refl _ _ | refine below_drewN ?_ _ | refine Below.drew ?_ | (refine Below.alloc ?_ (by simp; try omega) _)))⟩
    · rw [show sameT ⟨a, b⟩ ⟨a, d⟩ = false by simp [sameT, h2]]
      have h3 : (b == d) = false := by simpa using h2
      clear h2
      go_enter Try.func11, Try.ntmps11
      go_wp2
      go_ret
      exact ⟨rfl, (by repeat (first | exact Below.refl _ _ | refine below_drewN ?_ _ | refine Below.drew ?_ | (refine Below.alloc ?_ (by simp; try omega) _)))⟩
  · rw [show sameT ⟨a, b⟩ ⟨c, d⟩ = false by simp [sameT, h1]]
    have h3 : (a == c) = false := by simpa using h1
    clear h1
    go_enter Try.func11, Try.ntmps11
    go_wp2
    go_ret
    exact ⟨rfl, (by repeat (first | exact Below.refl _ _ | refine below_drewN ?_ _ | refine Below.drew ?_ | (refine Below.alloc ?_ (by simp; try omega) _)))⟩
theorem same_t (x y : TTime) (w : World) :
    Calls Try.prog 11 #[.agg #[.int .i64 x.fEpoch, .int .i64 x.fRound], .agg #[.int .i64 y.fEpoch, .int .i64 y.fRound]] w fun e w' => e = .returned (.bool (sameT x y)) ∧ Below w.heap.size w w' := same_any x.fEpoch x.fRound y.fEpoch y.fRound w

set_option maxHeartbeats 400000 in
theorem out_any (a b : Int) (w : World) :
    Calls Try.prog 21 #[.agg #[.int .i64 a, .int .i64 b]] w fun x w' => x = .returned (.agg #[.int .i64 a, .int .i64 0]) ∧ Below w.heap.size w w' := by
  go_enter Try.func21, Try.ntmps21
  go_wp2
  exact bodyPost_ret (v := .agg #[.int .i64 a, .int .i64 0]) (by simp [results, Try.results21, go_sem]) rfl ⟨rfl, (by repeat (first | exact Below.refl _ _ | refine below_drewN ?_ _ | refine Below.drew ?_ | (refine Below.alloc ?_ (by simp; try omega) _)))⟩

def aroundV (a b : Int) : Value := if ¬ (0 ≤ a ∧ 0 ≤ b) then .tuple #[.agg #[.int .i64 0, .int .i64 0], .int .i64 1] else if b = 9223372036854775807 then .tuple #[.agg #[.int .i64 0, .int .i64 0], .int .i64 14] else .tuple #[.agg #[.int .i64 a, .int .i64 (b + 1)], .int .i64 0]
set_option maxHeartbeats 400000 in
theorem around_bad (a b : Int) (w : World) (h : goodT ⟨a, b⟩ = false) :
    Calls Try.prog 22 #[.agg #[.int .i64 a, .int .i64 b]] w fun x w' => x = .returned (.tuple #[.agg #[.int .i64 0, .int .i64 0], .int .i64 1]) ∧ Below w.heap.size w w' := by
  have hg := fun W => good_any a b W
  rw [h] at hg
  clear h
  go_enter Try.func22, Try.ntmps22
  go_wp2_with fail
  refine (hg _).mono ?_
  rintro e w1 ⟨rfl, b1⟩
  obtain ⟨hc, hf⟩ := bcell b1
  have hz : w.heap.size + 1 < w1.heap.size := by have := b1.size; simp at this; omega
  go_wp2
  refine bodyPost_ret (v := .tuple #[.agg #[.int .i64 0, .int .i64 0], .int .i64 1]) (by simp [results, Try.results22, go_sem, hc]) rfl ⟨rfl, (by repeat (first | exact Below.refl _ _ | assumption | refine below_drewN ?_ _ | refine Below.drew ?_ | (refine Below.setCell ?_ (by first | omega | (simp; omega) | simp) _) | (refine Below.alloc ?_ (by first | omega | (simp; omega) | simp) _) | (refine Below.trans ?_ (Below.mono (by assumption) (by first | omega | (simp; omega) | simp)))))⟩

set_option maxHeartbeats 400000 in
theorem around_end (a : Int) (w : World) (h : goodT ⟨a, 9223372036854775807⟩ = true) :
    Calls Try.prog 22 #[.agg #[.int .i64 a, .int .i64 9223372036854775807]] w fun x w' => x = .returned (.tuple #[.agg #[.int .i64 0, .int .i64 0], .int .i64 14]) ∧ Below w.heap.size w w' := by
  have hg := fun W => good_any a 9223372036854775807 W
  rw [h] at hg
  clear h
  go_enter Try.func22, Try.ntmps22
  go_wp2_with fail
  refine (hg _).mono ?_
  rintro e w1 ⟨rfl, b1⟩
  obtain ⟨hc, hf⟩ := bcell b1
  have hz : w.heap.size + 1 < w1.heap.size := by have := b1.size; simp at this; omega
  go_wp2
  refine bodyPost_ret (v := .tuple #[.agg #[.int .i64 0, .int .i64 0], .int .i64 14]) (by simp [results, Try.results22, go_sem, hc]) rfl ⟨rfl, (by repeat (first | exact Below.refl _ _ | assumption | refine below_drewN ?_ _ | refine Below.drew ?_ | (refine Below.setCell ?_ (by first | omega | (simp; omega) | simp) _) | (refine Below.alloc ?_ (by first | omega | (simp; omega) | simp) _) | (refine Below.trans ?_ (Below.mono (by assumption) (by first | omega | (simp; omega) | simp)))))⟩

set_option maxHeartbeats 400000 in
theorem around_ok (a b : Int) (w : World) (h : goodT ⟨a, b⟩ = true) (hb : b < 9223372036854775807) :
    Calls Try.prog 22 #[.agg #[.int .i64 a, .int .i64 b]] w fun x w' => x = .returned (.tuple #[.agg #[.int .i64 a, .int .i64 (b + 1)], .int .i64 0]) ∧ Below w.heap.size w w' := by
  have hg := fun W => good_any a b W
  rw [h] at hg
  have hb0 : 0 ≤ b := by simp [goodT] at h; omega
  have hb1 : (b == 9223372036854775807) = false := by simp; omega
  clear h
  go_enter Try.func22, Try.ntmps22
  go_wp2_with fail
  refine (hg _).mono ?_
  rintro e w1 ⟨rfl, b1⟩
  have hz : w.heap.size + 1 < w1.heap.size := by have := b1.size; simp at this; omega
  have hB1 : Blk w1 w.heap.size #[.int .i64 a, .int .i64 b] 25 := ((Blk.new _ _ _).alloc _).below b1 (by simp; omega)
  have hB2 : Blk w1 (w.heap.size + 1) #[.int .i64 0, .int .i64 0] 25 := by have := Blk.new (w.alloc (.cells #[.int .i64 a, .int .i64 b] 25)) #[.int .i64 0, .int .i64 0] 25; simp at this; exact this.below b1 (by simp)
  have c0 : w1.cell? ⟨w.heap.size, 0, none⟩ = some (.int .i64 a) := hB1.cellAt rfl
  have c1 : w1.cell? ⟨w.heap.size, 1, none⟩ = some (.int .i64 b) := hB1.cellAt rfl
  have f1 := hB1.frozen 1
  have g0 : w1.cell? ⟨w.heap.size + 1, 0, none⟩ = some (.int .i64 0) := hB2.cellAt rfl
  have g1 : w1.cell? ⟨w.heap.size + 1, 1, none⟩ = some (.int .i64 0) := hB2.cellAt rfl
  have k0 := hB2.frozen 0
  have k1 := hB2.frozen 1
  have hB5 := ((hB2.set_other (p := ⟨w.heap.size, 1, none⟩) (by simp) (.int .i64 (b + 1))).set 0 (.int .i64 a)).set 1 (.int .i64 (b + 1))
  have r0 := hB5.cellAt (i := 0) (v := .int .i64 a) rfl
  have r1 := hB5.cellAt (i := 1) (v := .int .i64 (b + 1)) rfl
  replace r0 := Lib.hid r0
  replace r1 := Lib.hid r1
  clear hB1 hB2 hB5
  go_wp2_with fail
  refine bodyPost_ret (v := .tuple #[.agg #[.int .i64 a, .int .i64 (b + 1)], .int .i64 0]) (by simp [results, Try.results22, go_sem, r0.out, r1.out]) rfl ⟨rfl, (by repeat (first | exact Below.refl _ _ | assumption | refine below_drewN ?_ _ | refine Below.drew ?_ | (refine Below.setCell ?_ (by first | omega | (simp; omega) | simp) _) | (refine Below.alloc ?_ (by first | omega | (simp; omega) | simp) _) | (refine Below.trans ?_ (Below.mono (by assumption) (by first | omega | (simp; omega) | simp)))))⟩

end Go.Proofs.Ytjigbkklgekjlaa
