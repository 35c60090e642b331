/- Wire: known; the walk of WireEncodes. -/
import Derived.Test.YthemljefmgphkaaWn0
import Derived.Test.YthemljefmgphkaaWj
namespace Go.Proofs.Ythemljefmgphkaa
open Go.RowKit
set_option linter.unusedVariables false

/-- The known message. -/
def knownL : List Itm := [.mk 0 5 ⟨#[]⟩ [], .mk 0 (-1) ⟨#[]⟩ [], .mk 1 0 ⟨#[97]⟩ [], .mk 2 0 ⟨#[]⟩ [.mk 0 0 ⟨#[]⟩ []]]
theorem knownV : encV knownL = (0, [0, 10, 0, 1, 1, 1, 97, 2, 1, 0, 0]) := by kernel_rfl

set_option maxRecDepth 100000 in
set_option maxHeartbeats 1000000 in
theorem known_any (w : World) : Calls Try.prog 11 #[] w fun e w' => e = .returned (.bool true) ∧ Below w.heap.size w w' := by
  go_enter Try.func11, Try.ntmps11
  go_wp2_with (go_at_call 13; refine (int_any _ _).mono ?k1)
  case k1 =>
  rintro e w1 ⟨rfl, hb1⟩
  go_wp2_with (go_at_call 13; refine (int_any _ _).mono ?k2)
  case k2 =>
  rintro e w2 ⟨rfl, hb2⟩
  replace hb2 := hb1.trans (hb2.mono hb1.size)
  go_wp2_with (go_at_call 14; refine (text_any _ _).mono ?k3)
  case k3 =>
  rintro e w3 ⟨rfl, hb3⟩
  replace hb3 := hb2.trans (hb3.mono hb2.size)
  go_wp2_with (go_at_call 13; refine (int_any _ _).mono ?k4)
  rintro e w4 ⟨rfl, hb4⟩
  replace hb4 := hb3.trans (hb4.mono hb3.size)
  clear hb1 hb2 hb3
  have hw5 : ∀ w5 : World, w5 = w4.alloc (Obj.cells #[.int .i64 0, .int .i64 0, .string ⟨#[]⟩, .slice none 0 0] 33) → RIts 1 w5.heap.size w5 (some ⟨w4.heap.size, 0, none⟩) 1 [.mk 0 0 ⟨#[]⟩ []] ∧ Below w.heap.size w w5 := by
    rintro w5 rfl
    refine ⟨RIts.of_cells (ps := [⟨.mk 0 0 ⟨#[]⟩ [], none, 0⟩]) (Blk.new _ _ _) rfl ?_ (by decide), Below.alloc hb4 hb4.size _⟩
    intro p hp
    simp only [List.mem_cons, List.not_mem_nil, or_false] at hp
    subst hp
    exact RIt.mk' (d := 0) rfl rfl (by decide) (RIts.nil _ _ _)
  go_wp2_with (go_at_call 15; refine Shut.out ?k5)
  unfold Shut
  generalize hg5 : w4.alloc (Obj.cells #[.int .i64 0, .int .i64 0, .string ⟨#[]⟩, .slice none 0 0] 33) = w5
  obtain ⟨hl5, hb5⟩ := hw5 w5 hg5.symm
  clear hw5 hg5
  refine (list_any 1 _ _ _ _ _ hl5 (Nat.le_refl _)).mono ?_
  rintro e w6 ⟨ao6, cap6, rfl, hl6, hb6⟩
  replace hb6 := hb5.trans (hb6.mono hb5.size)
  dsimp only
  have hw7 : ∀ w7 : World, w7 = w6.alloc (Obj.cells #[.int .i64 0, .int .i64 5, .string ⟨#[]⟩, .slice none 0 0, .int .i64 0, .int .i64 (-1), .string ⟨#[]⟩, .slice none 0 0, .int .i64 1, .int .i64 0, .string ⟨#[97]⟩, .slice none 0 0,
      .int .i64 2, .int .i64 0, .string ⟨#[]⟩, .slice ao6 1 cap6] 33) → RIts 2 w7.heap.size w7 (some ⟨w6.heap.size, 0, none⟩) 4 knownL ∧ Below w.heap.size w w7 := by
    rintro w7 rfl
    refine ⟨RIts.of_cells (ps := [⟨.mk 0 5 ⟨#[]⟩ [], none, 0⟩, ⟨.mk 0 (-1) ⟨#[]⟩ [], none, 0⟩, ⟨.mk 1 0 ⟨#[97]⟩ [], none, 0⟩, ⟨.mk 2 0 ⟨#[]⟩ [.mk 0 0 ⟨#[]⟩ []], ao6, cap6⟩]) (Blk.new _ _ _) rfl ?_ (by simp), Below.alloc hb6 hb6.size _⟩
    intro p hp
    simp only [List.mem_cons, List.not_mem_nil, or_false] at hp
    rcases hp with rfl | rfl | rfl | rfl
    · exact RIt.mk' (d := 1) rfl rfl (by decide) (RIts.nil _ _ _)
    · exact RIt.mk' (d := 1) rfl rfl (by decide) (RIts.nil _ _ _)
    · exact RIt.mk' (d := 1) rfl rfl (by decide) (RIts.nil _ _ _)
    · exact RIt.mk' (d := 1) rfl rfl (by decide) (hl6.imp (Below.alloc (Below.refl _ _) (Nat.le_refl _) _) (by simp))
  go_wp2_with (go_at_call 9; refine Shut.out ?k6)
  unfold Shut
  generalize hg7 : w6.alloc (Obj.cells #[.int .i64 0, .int .i64 5, .string ⟨#[]⟩, .slice none 0 0, .int .i64 0, .int .i64 (-1), .string ⟨#[]⟩, .slice none 0 0, .int .i64 1, .int .i64 0, .string ⟨#[97]⟩, .slice none 0 0,
      .int .i64 2, .int .i64 0, .string ⟨#[]⟩, .slice ao6 1 cap6] 33) = w7
  obtain ⟨hl7, hb7⟩ := hw7 w7 hg7.symm
  clear hw7 hg7
  refine (encode_any 2 knownL _ _ _ _ hl7 (Nat.le_refl _)).mono ?_
  rw [knownV]
  rintro e w8 ⟨hb8, v8, rfl, hown8⟩
  replace hb8 := hb7.trans (hb8.mono hb7.size)
  have c8 := own_text hown8 (by decide)
  rw [show toB [0, 10, 0, 1, 1, 1, 97, 2, 1, 0, 0] = ⟨#[0, 10, 0, 1, 1, 1, 97, 2, 1, 0, 0]⟩ from rfl] at c8
  dsimp only
  clear hl5 hl6 hl7 hown8
  go_wp2_with fail
  go_ret
  exact ⟨rfl, hb8⟩

set_option maxRecDepth 100000 in
set_option maxHeartbeats 1000000 in
theorem encodes_walk (d : Nat) (l : List Itm) (ao : Option Addr) (cap : Nat) (w : World) (h : RIts d w.heap.size w ao cap l) :
    Calls Try.prog 3 #[.slice ao l.length cap] w fun e w' => e = .returned (.bool true) ∧ Below w.heap.size w w' := by
  have hlt := encV_lt l
  obtain ⟨⟨n, bs⟩, hr⟩ : ∃ r, r = encV l := ⟨_, rfl⟩
  have h1 := encode_any d l ao cap w w.heap.size h (Nat.le_refl _)
  have h2 := fun (u : World) (hb : Below w.heap.size w u) => refEncode_any d l ao cap u u.heap.size (h.imp hb hb.size) (Nat.le_refl _)
  rw [← hr] at h1 h2 hlt
  simp only at hlt
  replace hr := Lib.hid hr
  go_enter Try.func3, Try.ntmps3
  go_wp2_with (go_at_call 9; refine h1.mono ?k1)
  case k1 =>
  rintro e w1 ⟨hb1, v1, rfl, hown1⟩
  dsimp only at hown1 ⊢
  clear h1
  go_wp2_with (go_at_call 10; refine (h2 _ hb1).mono ?k2)
  case k2 =>
  rintro e w2 ⟨hb2, v2, rfl, hown2⟩
  dsimp only at hown2 ⊢
  replace hown1 := hown1.below hb2 (Nat.le_refl _)
  have hbw2 := hb1.trans (hb2.mono hb1.size)
  go_wp2_with (go_at_call 11; refine (known_any _).mono ?k3)
  case k3 =>
  rintro e w3 ⟨rfl, hb3⟩
  replace hown1 := hown1.below hb3 (Nat.le_refl _)
  replace hown2 := hown2.below hb3 (Nat.le_refl _)
  have hbw3 := hbw2.trans (hb3.mono hbw2.size)
  dsimp only
  go_wp2_with fail
  refine (same_any _ hown1 hown2 hlt hlt).mono ?_
  rintro e w4 ⟨rfl, rfl⟩
  rw [decide_eq_true rfl]
  go_wp2_with fail
  go_ret
  exact ⟨by simp, hbw3⟩
theorem encodes_row {d : Nat} {l : List Itm} {ao : Option Addr} {cap : Nat} {w : World} (h : RIts d w.heap.size w ao cap l) (_ : l.length * 56 ≤ 140737488351232) :
    Calls Try.prog 3 #[.slice ao l.length cap] w fun e w' => e = .returned (.bool true) ∧ Below w.heap.size w w' := encodes_walk d l ao cap w h
end Go.Proofs.Ythemljefmgphkaa
