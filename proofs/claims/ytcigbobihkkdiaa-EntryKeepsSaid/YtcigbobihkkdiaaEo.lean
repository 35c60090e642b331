/- Entry: known; the walk of EntryEncodes. -/
import Derived.Test.YtcigbobihkkdiaaEl
import Derived.Test.YtcigbobihkkdiaaEg
namespace Go.Proofs.Ytcigbobihkkdiaa
open Go.RowKit
set_option linter.unusedVariables false
set_option linter.unusedSimpArgs false

def sealE : TEntry := ⟨2, zRec, ⟨[]⟩, 3⟩
theorem seal_enc : entV sealE = ([0, 4, 0, 6], 0) := by
  have hg : goodB sealE = true := by
    unfold goodB
    refine decide_eq_true ⟨⟨by decide, by decide, by decide, by decide, .inr ⟨rfl, rfl, rfl, rfl, rfl⟩, .inr rfl, ?_⟩, ?_, ⟨by decide, by decide, by decide, by decide, by decide, by decide⟩⟩
    · intro h; revert h; decide
    · intro o ho; simp [sealE] at ho
  rw [entV, if_neg (by rw [hg]; simp), if_neg (by decide)]
  have : entI sealE = [intI 2, intI 3] := by rw [entI, if_neg (by decide), if_neg (by decide)]; rfl
  rw [this]
  have h2 : encV [intI 2, intI 3] = (0, [0, 4, 0, 6]) := by kernel_rfl
  rw [h2]
theorem bad_dec : edV (txtB ⟨#[0, 4, 0, 1]⟩) = (zEnt, 3) := by
  have ht : txtB ⟨#[0, 4, 0, 1]⟩ = [0, 4, 0, 1] := by kernel_rfl
  rw [ht]
  have hd : decV [0, 4, 0, 1] = (0, [intI 2, intI (-1)]) := by kernel_rfl
  unfold edV
  rw [if_neg (by simp), hd, if_neg (by simp)]
  dsimp only
  have hE : edE [intI 2, intI (-1)] = ⟨2, zRec, ⟨[]⟩, -1⟩ := by
    simp [edE, tkN, tkI, intI, Itm.kind, Itm.num]
  have ho : edO [intI 2, intI (-1)] = false := by
    unfold edO
    rw [hE]
    have : goodB ⟨2, zRec, ⟨[]⟩, -1⟩ = false := by
      unfold goodB
      refine decide_eq_false fun h => ?_
      have := h.1.2.2.1
      revert this
      decide
    rw [this, Bool.and_false]
  rw [ho, if_neg (by simp)]

set_option maxRecDepth 100000 in
set_option maxHeartbeats 2000000 in
theorem eknown_any (w : World) : Calls Try.prog 10 #[] w fun e w' => e = .returned (.bool true) ∧ Below w.heap.size w w' := by
  have hE := eencode_any sealE none 0 w 0 (Nat.zero_le _) (SlA.nil _ _ _ _) rfl rfl rfl rfl rfl rfl
  rw [seal_enc] at hE
  have hD := fun (u : World) => edecode_any ⟨#[0, 4, 0, 1]⟩ u (by unfold maxLen; decide)
  rw [bad_dec] at hD
  have hEq : (encE sealE none 0) = #[.int .i64 2, .int .i64 0, .int .i64 0, .int .i64 0, .string ⟨#[]⟩, .int .u32 0, .slice none 0 0, .int .i64 3] := rfl
  rw [hEq] at hE
  clear hEq
  go_enter Try.func10, Try.ntmps10
  go_wp2_with (go_at_call 8; refine Shut.out ?k1)
  unfold Shut
  refine hE.mono ?_
  rintro e w1 ⟨rfl, hb1⟩
  dsimp only
  clear hE
  have ht : toB [0, 4, 0, 6] = ⟨#[0, 4, 0, 6]⟩ := rfl
  rw [ht]
  clear ht
  replace hD := hD w1
  go_wp2_with (go_at_call 13; refine Shut.out ?k2)
  unfold Shut
  refine hD.mono ?_
  rintro e w2 ⟨hb2, v, ps, rfl, hops, hps⟩
  clear hD
  have hv : ∃ ao n cap, v = .slice ao n cap := by
    obtain ⟨ao, cap, h, _⟩ := hops.1.slice
    exact ⟨ao, _, cap, h⟩
  obtain ⟨ao, n, cap, rfl⟩ := hv
  clear hops hps
  unfold encV8 zEnt zRec
  dsimp only
  replace hb2 := Below.trans hb1 (Below.mono hb2 hb1.size)
  have hs2 := hb2.size
  clear hb1
  go_wp2_with fail
  go_ret
  exact ⟨rfl, hb2.alloc hs2 _⟩
end Go.Proofs.Ytcigbobihkkdiaa
