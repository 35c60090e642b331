/- Wire: alike, and the walk of WireApart. -/
import Derived.Test.YthemljefmgphkaaWba
namespace Go.Proofs.Ythemljefmgphkaa
open Go.RowKit
set_option linter.unusedVariables false

theorem encV_err {l : List Itm} (h : (encV l).1 ≠ 0) : (encV l).2 = [] := by
  unfold encV at h ⊢
  split
  · rfl
  · split
    · rfl
    · rename_i h1 h2
      rw [if_neg h1, if_neg h2] at h
      exact absurd rfl h
theorem enc_inj {a b : List Itm} (ha : wfL a) (hb : wfL b) (h1 : (encV a).1 = 0) (h2 : (encV b).1 = 0) : (encV a).2 = (encV b).2 ↔ a = b := by
  constructor
  · intro h
    have e1 := dec_enc ha h1
    have e2 := dec_enc hb h2
    rw [h, e2] at e1
    simp only [Prod.mk.injEq, true_and] at e1
    exact e1.symm
  · rintro rfl; rfl

set_option maxRecDepth 100000 in
set_option maxHeartbeats 4000000 in
theorem alike_any (d1 d2 : Nat) (l1 l2 : List Itm) (ao1 ao2 : Option Addr) (cap1 cap2 : Nat) (w : World) (h1 : RIts d1 w.heap.size w ao1 cap1 l1) (h2 : RIts d2 w.heap.size w ao2 cap2 l2) (hz1 : (encV l1).1 = 0) (hz2 : (encV l2).1 = 0) :
    Calls Try.prog 17 #[.slice ao1 l1.length cap1, .slice ao2 l2.length cap2] w fun e w' => e = .returned (.bool (sameB l1 l2)) ∧ Below w.heap.size w w' := by
  have hd1 := dec_enc h1.wf hz1
  have hd2 := dec_enc h2.wf hz2
  have hl1 := encV_lt l1
  have hl2 := encV_lt l2
  have hE1 := refEncode_any d1 l1 ao1 cap1 w w.heap.size h1 (Nat.le_refl _)
  have hE2 := fun (u : World) (hb : Below w.heap.size w u) => refEncode_any d2 l2 ao2 cap2 u u.heap.size (h2.imp hb hb.size) (Nat.le_refl _)
  obtain ⟨⟨a, xs⟩, hr⟩ : ∃ r, r = encV l1 := ⟨_, rfl⟩
  obtain ⟨⟨b, ys⟩, hr2⟩ : ∃ r, r = encV l2 := ⟨_, rfl⟩
  rw [← hr] at hE1 hl1 hd1 hz1
  rw [← hr2] at hE2 hl2 hd2 hz2
  dsimp only at hl1 hl2 hd1 hd2 hz1 hz2
  subst hz1 hz2
  obtain ⟨n1, hn1⟩ : ∃ k, k = l1.length := ⟨_, rfl⟩
  obtain ⟨n2, hn2⟩ : ∃ k, k = l2.length := ⟨_, rfl⟩
  rw [← hn1] at hE1 ⊢
  rw [← hn2] at hE2 ⊢
  replace hn1 := Lib.hid hn1
  replace hn2 := Lib.hid hn2
  clear hr hr2
  obtain ⟨sb, hsb⟩ : ∃ s, s = sameB l1 l2 := ⟨_, rfl⟩
  rw [← hsb]
  replace hsb := Lib.hid hsb
  go_enter Try.func17, Try.ntmps17
  go_wp2_with (go_at_call 10; refine hE1.mono ?k1)
  case k1 =>
  intro e w1 hR
  obtain ⟨hb1, v1, he, hown1⟩ := hR
  subst he
  dsimp only at hown1 ⊢
  go_wp2_with (go_at_call 10; refine (hE2 _ hb1).mono ?k2)
  case k2 =>
  intro e w2 hR
  obtain ⟨hb2, v2, he, hown2⟩ := hR
  subst he
  dsimp only at hown2 ⊢
  replace hown1 := hown1.below hb2 (Nat.le_refl _)
  replace hb2 := hb1.trans (hb2.mono hb1.size)
  obtain ⟨ao3, cap3, rfl, hby3⟩ := RBy.of_own hown1
  obtain ⟨ao4, cap4, rfl, hby4⟩ := RBy.of_own hown2
  clear hE1 hE2 hb1 hown1 hown2
  have hD1 := refDecode_any xs hl1 ao3 cap3 w2 hby3
  have hD2 := fun (u : World) (hb : Below w2.heap.size w2 u) => refDecode_any ys hl2 ao4 cap4 u (hby4.imp hb hb.size)
  rw [hd1] at hD1
  rw [hd2] at hD2
  obtain ⟨q1, hq1⟩ : ∃ k, k = xs.length := ⟨_, rfl⟩
  obtain ⟨q2, hq2⟩ : ∃ k, k = ys.length := ⟨_, rfl⟩
  rw [← hq1] at hD1 ⊢
  rw [← hq2] at hD2 ⊢
  clear hq1 hq2 hby3 hby4 hd1 hd2
  go_wp2_with (go_at_call 19; refine hD1.mono ?k3)
  case k3 =>
  intro e w3 hR3
  obtain ⟨hb3, ao5, cap5, he, hl5⟩ := hR3.mk'
  subst he
  dsimp only at hl5 ⊢
  rw [← hn1.out]
  go_wp2_with (go_at_call 19; refine (hD2 _ hb3).mono ?k4)
  case k4 =>
  intro e w4 hR4
  obtain ⟨hb4, ao6, cap6, he, hl6⟩ := hR4.mk'
  subst he
  dsimp only at hl6 ⊢
  rw [← hn2.out]
  replace hl5 := hl5.imp hb4 hb4.size
  replace hb4 := (hb2.trans (hb3.mono hb2.size)).trans (hb4.mono (Nat.le_trans hb2.size hb3.size))
  have hS := same_its 8 l1 l2 ao5 ao6 cap5 cap6 8 w4 w4.heap.size hl5 hl6 (Nat.le_refl _)
  rw [← hn1.out, ← hn2.out] at hS
  rw [← hsb.out] at hS
  clear hD1 hD2 hl5 hl6 hR3 hR4 hb3 hb2
  go_wp2_with (go_at_call 16; refine Shut.out ?k5)
  unfold Shut
  refine hS.mono ?_
  rintro e w5 ⟨rfl, hb5⟩
  dsimp only
  go_wp2_with fail
  go_ret
  exact ⟨by simp, hb4.trans (hb5.mono hb4.size)⟩

theorem toB_beq {a b : List Nat} (ha : ∀ x ∈ a, x < 256) (hb : ∀ x ∈ b, x < 256) : ((toB a).toList == (toB b).toList) = decide (a = b) := by
  have he := toB_eq ha hb
  by_cases h : a = b
  · rw [he.2 h]; simp [h]
  · have : ¬ ((toB a).toList == (toB b).toList) = true := fun hh => h (he.1 hh)
    simp [h]
    simpa using this

set_option maxRecDepth 100000 in
set_option maxHeartbeats 4000000 in
theorem apart_walk (d1 d2 : Nat) (l1 l2 : List Itm) (ao1 ao2 : Option Addr) (cap1 cap2 : Nat) (w : World) (h1 : RIts d1 w.heap.size w ao1 cap1 l1) (h2 : RIts d2 w.heap.size w ao2 cap2 l2) :
    Calls Try.prog 5 #[.slice ao1 l1.length cap1, .slice ao2 l2.length cap2] w fun e w' => e = .returned (.bool true) ∧ Below w.heap.size w w' := by
  have hinj := @enc_inj l1 l2 h1.wf h2.wf
  have hl1 := encV_lt l1
  have hl2 := encV_lt l2
  have he1 := @encV_err l1
  have he2 := @encV_err l2
  have hE1 := encode_any d1 l1 ao1 cap1 w w.heap.size h1 (Nat.le_refl _)
  have hE2 := fun (u : World) (hb : Below w.heap.size w u) => encode_any d2 l2 ao2 cap2 u u.heap.size (h2.imp hb hb.size) (Nat.le_refl _)
  have hA := fun (hz1 : (encV l1).1 = 0) (hz2 : (encV l2).1 = 0) (u : World) (hb : Below w.heap.size w u) => alike_any d1 d2 l1 l2 ao1 ao2 cap1 cap2 u (h1.imp hb hb.size) (h2.imp hb hb.size) hz1 hz2
  obtain ⟨⟨a, xs⟩, hr⟩ : ∃ r, r = encV l1 := ⟨_, rfl⟩
  obtain ⟨⟨b, ys⟩, hr2⟩ : ∃ r, r = encV l2 := ⟨_, rfl⟩
  rw [← hr] at hE1 hl1 hinj hA he1
  rw [← hr2] at hE2 hl2 hinj hA he2
  dsimp only at hl1 hl2 hinj hA he1 he2
  obtain ⟨sb, hsb⟩ : ∃ s, s = sameB l1 l2 := ⟨_, rfl⟩
  rw [← hsb] at hA
  obtain ⟨n1, hn1⟩ : ∃ k, k = l1.length := ⟨_, rfl⟩
  obtain ⟨n2, hn2⟩ : ∃ k, k = l2.length := ⟨_, rfl⟩
  rw [← hn1] at hE1 hA ⊢
  rw [← hn2] at hE2 hA ⊢
  have hbe : a = 0 → b = 0 → ((toB xs).toList == (toB ys).toList) = sb := fun ha hb => by
    rw [toB_beq hl1 hl2, hsb]
    have := hinj ha hb
    by_cases h : l1 = l2
    · rw [sameB_true h, decide_eq_true (this.2 h)]
    · rw [sameB_false h, decide_eq_false (fun hh => h (this.1 hh))]
  clear hr hr2 hn1 hn2 hsb hinj
  replace hbe := Lib.hid hbe
  replace hA := Lib.hid hA
  replace he1 := Lib.hid he1
  replace he2 := Lib.hid he2
  go_enter Try.func5, Try.ntmps5
  go_wp2_with (go_at_call 9; refine hE1.mono ?k1)
  case k1 =>
  intro e w1 hR
  obtain ⟨hb1, v1, he, hown1⟩ := hR
  subst he
  dsimp only at hown1 ⊢
  go_wp2_with (go_at_call 9; refine (hE2 _ hb1).mono ?k2)
  case k2 =>
  intro e w2 hR
  obtain ⟨hb2, v2, he, hown2⟩ := hR
  subst he
  dsimp only at hown2 ⊢
  replace hown1 := hown1.below hb2 (Nat.le_refl _)
  replace hb2 := hb1.trans (hb2.mono hb1.size)
  clear hE1 hE2 hb1
  by_cases ha : a = 0
  · by_cases hb : b = 0
    · subst ha hb
      have hbe := hbe.out rfl rfl
      have hA := hA.out rfl rfl
      have hT1 : ∀ u : Wd w2, (convert 23 9 v1).run Try.prog u.v = .ok (.string (toB xs)) u.v := fun u => own_text (hown1.below u.h (Nat.le_refl _)) hl1
      have hT2 : ∀ u : Wd w2, (convert 23 9 v2).run Try.prog u.v = .ok (.string (toB ys)) u.v := fun u => own_text (hown2.below u.h (Nat.le_refl _)) hl2
      obtain ⟨T1, hT1e⟩ : ∃ t, t = toB xs := ⟨_, rfl⟩
      obtain ⟨T2, hT2e⟩ : ∃ t, t = toB ys := ⟨_, rfl⟩
      rw [← hT1e] at hT1 hbe
      rw [← hT2e] at hT2 hbe
      have hAu : ∀ u : Wd w2, Calls Try.prog 17 #[.slice ao1 n1 cap1, .slice ao2 n2 cap2] u.v fun e w' => e = .returned (.bool sb) ∧ Below u.v.heap.size u.v w' := fun u => hA u.v (hb2.trans (u.h.mono hb2.size))
      clear hA hT1e hT2e hown1 hown2 hl1 hl2
      go_wp2_with fail
      refine wp_region_below (by kernel_rfl) (by kernel_rfl) ?_
      repeat (go_big_quiet_step ((first | (go_at_call 11; exact (known_any _).quiet_below) | (go_at_call 17; exact (hAu _).quiet_below))))
      refine wpQuiet_nil ?_
      rintro _ ⟨u, rfl⟩
      go_wp2_with fail
      go_ret
      exact ⟨by simp, hb2.trans (u.h.mono hb2.size)⟩
    · have hbd : ((b : Int) != 0) = true := by simpa using hb
      have hbd2 : ((b : Int) == 0) = false := by simpa using hb
      have hy := he2.out hb
      subst hy
      obtain ⟨ao4, cap4, rfl, _, _, _⟩ := hown2.slice
      subst ha
      obtain ⟨kk, hkk⟩ : ∃ k, k = xs.length := ⟨_, rfl⟩
      obtain ⟨ao3, cap3, rfl, _, _, _⟩ := hown1.slice
      rw [← hkk]
      clear hkk hown1 hown2 hbe hA he1 he2
      go_wp2_with fail
      refine (known_any _).mono ?_
      rintro e w3 ⟨rfl, hb3⟩
      dsimp only
      go_wp2_with fail
      go_ret
      exact ⟨by simp, hb2.trans (hb3.mono hb2.size)⟩
  · have had : ((a : Int) != 0) = true := by simpa using ha
    have had2 : ((a : Int) == 0) = false := by simpa using ha
    have hx := he1.out ha
    subst hx
    obtain ⟨ao3, cap3, rfl, _, _, _⟩ := hown1.slice
    obtain ⟨ao4, cap4, rfl, _, _, _⟩ := hown2.slice
    by_cases hb : b = 0
    · subst hb
      obtain ⟨kk, hkk⟩ : ∃ k, k = ys.length := ⟨_, rfl⟩
      rw [← hkk]
      clear hkk hown1 hown2 hbe hA he1 he2
      go_wp2_with fail
      refine (known_any _).mono ?_
      rintro e w3 ⟨rfl, hb3⟩
      dsimp only
      go_wp2_with fail
      go_ret
      exact ⟨by simp, hb2.trans (hb3.mono hb2.size)⟩
    · have hbd2 : ((b : Int) == 0) = false := by simpa using hb
      have hy := he2.out hb
      subst hy
      clear hown1 hown2 hbe hA he1 he2
      go_wp2_with fail
      refine (known_any _).mono ?_
      rintro e w3 ⟨rfl, hb3⟩
      dsimp only
      go_wp2_with fail
      go_ret
      exact ⟨by simp, hb2.trans (hb3.mono hb2.size)⟩

theorem apart_row {w : World} {d1 : Nat} {l1 : List Itm} {ao1 : Option Addr} {cap1 : Nat} (h1 : RIts d1 w.heap.size w ao1 cap1 l1) (_ : l1.length * 56 ≤ 140737488351232) {d2 : Nat} {l2 : List Itm} {ao2 : Option Addr} {cap2 : Nat} (h2 : RIts d2 w.heap.size w ao2 cap2 l2) (_ : l2.length * 56 ≤ 140737488351232) :
    Calls Try.prog 5 #[.slice ao1 l1.length cap1, .slice ao2 l2.length cap2] w fun e w' => e = .returned (.bool true) ∧ Below w.heap.size w w' := apart_walk d1 d2 l1 l2 ao1 ao2 cap1 cap2 w h1 h2
end Go.Proofs.Ythemljefmgphkaa
