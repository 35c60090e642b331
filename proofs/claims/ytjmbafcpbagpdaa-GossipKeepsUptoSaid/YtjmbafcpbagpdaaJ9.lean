/- Gossip: New: the walk. -/
import Derived.Test.YtjmbafcpbagpdaaJ8
namespace Go.Proofs.Ytjmbafcpbagpdaa
open Go.RowKit Go.Shelf Go.Maps
set_option linter.unusedVariables false
set_option linter.unusedSimpArgs false
attribute [local go_sem] eqlP_nil eqlP_some

open Classical in
/-- What New answers. -/
noncomputable def newGE (ops : List TOp) (k : Int) (l : List TCount) : Int :=
  if (gcheck ops).2 ≠ 0 then 13 else if ¬ (1 ≤ k ∧ k ≤ 8) then 1 else if ∃ c ∈ l, c.fN < 0 then 1 else if updF ops (fun _ => 0) l ≠ 0 then 1 else 0
def newGM (k : Nat) (l : List TCount) : GM := ⟨k, fun _ => addF (fun _ => 0) l, fun _ => []⟩
def NewP (w : World) (ops : List TOp) (k : Int) (l : List TCount) (M : Nat) (e : Ending) (w' : World) : Prop :=
  Below w.heap.size w w' ∧ (newGE ops k l ≠ 0 → e = .returned (.tuple #[.pointer none, .int .i64 (newGE ops k l)])) ∧
    (newGE ops k l = 0 → ∃ gb p, e = .returned (.tuple #[.pointer (some ⟨gb, 0, none⟩), .int .i64 0]) ∧ p.gops = ops ∧ Gos w' w.heap.size w'.heap.size (fun _ => False) gb p ops (newGM k.toNat l) l.length M)
theorem NewP.bad {w w' : World} {ops : List TOp} {k : Int} {l : List TCount} {M : Nat} {e : Int} (hE : newGE ops k l = e) (he : e ≠ 0) (hb : Below w.heap.size w w') : NewP w ops k l M (.returned (.tuple #[.pointer none, .int .i64 e])) w' :=
  ⟨hb, fun _ => by rw [hE], fun h => absurd h (by rw [hE]; exact he)⟩

set_option maxRecDepth 100000 in
set_option maxHeartbeats 1000000 in
theorem gnew_no (k : Int) (v : Value) (l : List TCount) (M : Nat) (ops : List TOp) (ao : Option Addr) (cap : Nat) (w : World) (hx : SlA w.heap.size 7 (ROp w.heap.size) w ao cap ops) (hok : (gcheck ops).2 ≠ 0) :
    Calls Try.prog 7 #[.agg #[.slice ao ops.length cap], .int .i64 k, v] w (NewP w ops k l M) := by
  have hE : newGE ops k l = 13 := by unfold newGE; rw [if_pos hok]
  have hN := fun W hb => new_no ops cap ao W (imp_ops2 hx hb) hok
  obtain ⟨n, hn⟩ : ∃ n, n = ops.length := ⟨_, rfl⟩
  rw [← hn] at hN ⊢
  replace hN := Lib.hid hN
  replace hE := Lib.hid hE
  clear hn hx hok
  go_enter Try.func7, Try.ntmps7
  go_wp2_with fail
  refine (hN.out _ ((Below.refl _ _).alloc (Nat.le_refl _) _)).mono ?_
  rintro e w1 ⟨rfl, hb1⟩
  have hbel : Below w.heap.size w w1 := ((Below.refl w.heap.size w).alloc (Nat.le_refl _) (.cells #[.slice ao n cap] 24)).trans (hb1.mono (by simp))
  dsimp only
  go_wp2_with fail
  go_ret2
  exact NewP.bad hE.out (by decide) hbel
open Classical in
set_option maxRecDepth 100000 in
set_option maxHeartbeats 4000000 in
theorem gnew_arg (k : Int) (l : List TCount) (la : Option Addr) (lc M : Nat) (ops : List TOp) (ao : Option Addr) (cap : Nat) (w : World) (hx : SlA w.heap.size 7 (ROp w.heap.size) w ao cap ops) (hok : (gcheck ops).2 = 0) (hzi : ∀ o ∈ ops, o.fIn.length * 8 ≤ 140737488355328)
    (hl : SlA w.heap.size 4 (RCount w.heap.size) w la lc l) (hz : l.length * 32 ≤ 140737488355328) (hbad : ¬ (1 ≤ k ∧ k ≤ 8) ∨ ∃ c ∈ l, c.fN < 0) :
    Calls Try.prog 7 #[.agg #[.slice ao ops.length cap], .int .i64 k, .slice la l.length lc] w (NewP w ops k l M) := by
  have hE : newGE ops k l = 1 := by
    unfold newGE
    rw [if_neg (by simpa using hok)]
    by_cases h1 : 1 ≤ k ∧ k ≤ 8
    · rw [if_neg (by simpa using h1), if_pos (hbad.resolve_left (by simpa using h1))]
    · rw [if_pos h1]
  have hN := fun W hb => new_ok ops ao cap W (imp_ops2 hx hb) hok hzi
  have hC := fun W (hb : Below w.heap.size w W) => negc_any l la lc W (hl.imp hb hb.size (fun _ _ _ h => h.imp hb hb.size)) hz
  obtain ⟨n, hn⟩ : ∃ n, n = ops.length := ⟨_, rfl⟩
  rw [← hn] at hN ⊢
  obtain ⟨q, hq⟩ : ∃ q, q = l.length := ⟨_, rfl⟩
  rw [← hq] at hC ⊢
  obtain ⟨bR, hbR⟩ : ∃ bR, bR = decide (∃ c ∈ l, c.fN < 0) := ⟨_, rfl⟩
  rw [← hbR] at hC
  have hcase : k < 1 ∨ (1 ≤ k ∧ 8 < k) ∨ (1 ≤ k ∧ k ≤ 8 ∧ bR = true) := by
    by_cases h1 : k < 1
    · exact .inl h1
    · by_cases h2 : 8 < k
      · exact .inr (.inl ⟨by omega, h2⟩)
      · refine .inr (.inr ⟨by omega, by omega, ?_⟩)
        rw [hbR]
        exact decide_eq_true (hbad.resolve_left (by simp; omega))
  replace hN := Lib.hid hN
  replace hC := Lib.hid hC
  replace hE := Lib.hid hE
  clear hn hq hok hbad hbR
  go_enter Try.func7, Try.ntmps7
  go_wp2_with fail
  refine (hN.out _ ((Below.refl _ _).alloc (Nat.le_refl _) _)).mono ?_
  rintro e w1 ⟨hb1, tb, x, rfl, hT⟩
  have hbel : Below w.heap.size w w1 := ((Below.refl w.heap.size w).alloc (Nat.le_refl _) (.cells #[.slice ao n cap] 24)).trans (hb1.mono (by simp))
  clear hT hb1 hN
  dsimp only
  rcases hcase with h1 | ⟨h1, h2⟩ | ⟨h1, h2, rfl⟩
  · have d1 : decide (k < 1) = true := by simpa using h1
    clear h1
    go_wp2_with fail
    go_ret2
    exact NewP.bad hE.out (by decide) hbel
  · have d1 : decide (k < 1) = false := by simp; omega
    have d2 : decide (8 < k) = true := by simpa using h2
    clear h1 h2
    go_wp2_with fail
    go_ret2
    exact NewP.bad hE.out (by decide) hbel
  · have d1 : decide (k < 1) = false := by simp; omega
    have d2 : decide (8 < k) = false := by simp; omega
    clear h1 h2
    go_wp2_with fail
    refine (hC.out _ hbel).mono ?_
    rintro e w2 ⟨rfl, hb2⟩
    have hbel2 := hbel.trans (hb2.mono hbel.size)
    dsimp only
    go_wp2_with fail
    go_ret2
    exact NewP.bad hE.out (by decide) hbel2
end Go.Proofs.Ytjmbafcpbagpdaa
