/- Gossip: New. -/
import Derived.Test.YtjmbafcpbagpdaaJ6
namespace Go.Proofs.Ytjmbafcpbagpdaa
open Go.RowKit Go.Shelf Go.Maps
set_option linter.unusedVariables false
set_option linter.unusedSimpArgs false

theorem neg_any (c : TCount) (w : World) : Calls Try.prog 21 #[mkKJ c] w fun e w' => e = .returned (.bool (decide (c.fN < 0))) ∧ Below w.heap.size w w' := by
  obtain ⟨⟨cl, ⟨ce, cr⟩⟩, cn⟩ := c
  unfold mkKJ
  dsimp only
  go_enter Try.func21, Try.ntmps21
  go_wp2_with fail
  go_ret
  exact ⟨rfl, (by repeat (first | exact Below.refl _ _ | refine below_drewN ?_ _ | refine Below.drew ?_ | (refine Below.alloc ?_ (by simp; try omega) _)))⟩
set_option maxRecDepth 100000 in
set_option maxHeartbeats 2000000 in
theorem negi_any (l : List TCount) (ao : Option Addr) (cap : Nat) (w : World) (hl : SlA w.heap.size 4 (RCount w.heap.size) w ao cap l) (hz : l.length * 32 ≤ 140737488355328) :
    Calls Try.prog 35 #[.slice ao l.length cap, .func (.func 21) #[] #[]] w fun e w' =>
      (∃ i : Int, e = .returned (.int .i64 i) ∧ (0 ≤ i ↔ ∃ c ∈ l, c.fN < 0)) ∧ Below w.heap.size w w' := by
  obtain ⟨n, hn⟩ : ∃ n, n = l.length := ⟨_, rfl⟩
  rw [← hn] at hz ⊢
  replace hn := Lib.hid hn
  go_enter Try.func35, Try.ntmps35
  go_wp2_with fail
  go_loopw [8] (fun x8 wr => ∃ i : Nat, i ≤ n ∧ x8 = .int .i64 i ∧ Hid (∀ j (h : j < l.length), j < i → ¬ l[j].fN < 0) ∧ Below w.heap.size w wr) (fun x8 _ => n - (intOf x8).toNat)
  case atStart => exact ⟨0, Nat.zero_le _, rfl, Lib.hid (fun j _ h => by omega), Below.refl _ _⟩
  case round =>
    obtain ⟨i, hi, rfl, hlf, hbr⟩ := hrel
    by_cases hlt : i < n
    · have hil : i < l.length := by rw [← hn.out]; exact hlt
      obtain ⟨b2, off2, rfl, hb2l, _⟩ := hl.addr (by omega)
      obtain ⟨c, hce⟩ : ∃ c, l[i] = c := ⟨_, rfl⟩
      obtain ⟨e0, e1, e2, e3, _⟩ := RCount.at (hl.imp hbr (Nat.le_refl _) (fun _ _ _ h => h.imp hbr (Nat.le_refl _))) hil hce
      have hcall := neg_any c wr
      unfold mkKJ at hcall
      replace hce := Lib.hid hce
      go_wp2_with fail
      refine hcall.mono ?_
      rintro e w2 ⟨rfl, hb2⟩
      have hbw := hbr.trans (hb2.mono hbr.size)
      dsimp only
      by_cases hq : c.fN < 0
      · rw [decide_eq_true hq]
        have hfin : ∃ c ∈ l, c.fN < 0 := ⟨c, by rw [← hce.out]; exact List.getElem_mem hil, hq⟩
        clear hcall hq hce e0 e1 e2 e3 hlf
        replace hfin := Lib.hid hfin
        go_wp2_with fail
        go_ret
        exact ⟨⟨i, rfl, fun _ => hfin.out, fun _ => by omega⟩, hbw⟩
      · rw [decide_eq_false hq]
        have hlf2 : Hid (∀ j (h : j < l.length), j < i + 1 → ¬ l[j].fN < 0) := Lib.hid (fun j h hj => by
          by_cases hji : j = i
          · subst hji; rw [hce.out]; exact hq
          · have := hlf.out j h (by omega)
            omega)
        clear hcall hq hce e0 e1 e2 e3 hlf
        go_wp2_with fail
        go_roundw
        case rel => exact ⟨i + 1, by omega, by go_num, hlf2, hbw⟩
        case measure => simp [intOf]; omega
    · obtain rfl : i = n := by omega
      have hall : ¬ ∃ c ∈ l, c.fN < 0 := by
        rintro ⟨c, hc, h⟩
        obtain ⟨j, hj, rfl⟩ := List.getElem_of_mem hc
        exact hlf.out j hj (by rw [hn.out]; exact hj) h
      have d9 : decide ((i : Int) < (i : Int)) = false := by simp
      replace hall := Lib.hid hall
      clear hlf
      go_wp2_with fail
      go_ret
      exact ⟨⟨-1, rfl, fun h => absurd h (by omega), fun h => absurd h hall.out⟩, hbr⟩
open Classical in
theorem negc_any (l : List TCount) (ao : Option Addr) (cap : Nat) (w : World) (hl : SlA w.heap.size 4 (RCount w.heap.size) w ao cap l) (hz : l.length * 32 ≤ 140737488355328) :
    Calls Try.prog 20 #[.slice ao l.length cap, .func (.func 21) #[] #[]] w fun e w' =>
      e = .returned (.bool (decide (∃ c ∈ l, c.fN < 0))) ∧ Below w.heap.size w w' := by
  have hi := negi_any l ao cap w hl hz
  obtain ⟨n, hn⟩ : ∃ n, n = l.length := ⟨_, rfl⟩
  rw [← hn] at hi ⊢
  clear hn hl hz
  obtain ⟨bR, hbR⟩ : ∃ bR, bR = decide (∃ c ∈ l, c.fN < 0) := ⟨_, rfl⟩
  rw [← hbR]
  replace hbR := Lib.hid hbR
  go_enter Try.func20, Try.ntmps20
  go_wp2_with fail
  refine hi.mono ?_
  rintro e w1 ⟨⟨i, rfl, hq⟩, hb⟩
  by_cases h : 0 ≤ i
  · have d : decide (0 ≤ i) = true := by simpa using h
    have hr : bR = true := by rw [hbR.out]; exact decide_eq_true (hq.1 h)
    subst hr
    clear hq h hi
    dsimp only
    go_wp2_with fail
    go_ret
    exact ⟨rfl, hb⟩
  · have d : decide (0 ≤ i) = false := by simpa using h
    have hr : bR = false := by rw [hbR.out]; exact decide_eq_false (fun h2 => h (hq.2 h2))
    subst hr
    clear hq h hi
    dsimp only
    go_wp2_with fail
    go_ret
    exact ⟨rfl, hb⟩
end Go.Proofs.Ytjmbafcpbagpdaa
