/- Wire: Room, Kept. -/
import Derived.Test.YthemljefmgphkaaWcp
import Derived.OwnWalk
namespace Go.Proofs.Ythemljefmgphkaa
open Go.RowKit
set_option linter.unusedVariables false

def mark3 : List Nat := [171, 172, 173]
set_option maxRecDepth 100000 in
set_option maxHeartbeats 4000000 in
theorem room_any (v : Value) (bs : List Nat) (w : World) (base : Nat) (h : OwnB w base v bs) (hl : bs.length ≤ 65536) :
    Calls Try.prog 21 #[v] w fun e w' => ∃ g cap, e = .returned (.slice (some ⟨g, 0, none⟩) bs.length cap) ∧ OwnB w' w.heap.size (.slice (some ⟨g, 0, none⟩) (bs.length + 3) cap) (bs ++ mark3) ∧ Below w.heap.size w w' := by
  obtain ⟨i0, hi, hz0, hz1, hz2⟩ := info_parts infoB
  obtain ⟨ao, cap, rfl, _, _, _⟩ := h.slice
  obtain ⟨n, hn⟩ : ∃ n, n = bs.length := ⟨_, rfl⟩
  rw [← hn] at h hl ⊢
  replace hn := Lib.hid hn
  go_enter Try.func21, Try.ntmps21
  go_wp2_with (at_make; refine Shut.out ?s1)
  unfold Shut
  refine wpList_make_own _ rfl _ _ 23 rfl w.heap.size 5 i0 _ 1 Try.underlying23 hi hz0 hz1 .i64 .i64 ((n : Int) + 3) (n + 3) rfl rfl rfl (by rw [hz2]; omega) (by unfold maxLen; omega) (Nat.le_refl _) (fun w1 hown1 hgr1 => ?_)
  have hown1 : OwnB w1 w.heap.size (.slice (some ⟨w.heap.size, 0, none⟩) 0 (n + 3)) [] := hown1
  have hb1 : Below w.heap.size w w1 := (Below.refl _ _).grown hgr1 (Nat.le_refl _) (fun k hk => by cases hk)
  have hu1 := h.below hb1 (Nat.le_refl _)
  have hs1 := hb1.size
  clear hgr1
  go_wp2_with (at_builtin; refine Shut.out ?s2)
  unfold Shut
  refine wpList_app_rows _ rfl _ _ 23 rfl Try.underlying23 hi hz0 hz1 hz2 rfl (by decide) (enc := encB) (xs := []) rfl hown1 rfl hu1 encB_len encB_one (by have := hn.out; unfold maxLen; simp; omega) (by have := hn.out; simp; omega) hs1 (fun v2 w2 hown2 hgr2 => ?_)
  rw [List.nil_append] at hown2
  have hb2 : Below w.heap.size w w2 := hb1.grown hgr2 hs1 (fun k hk => (hown1.lt k hk).1)
  have hs2 := hb2.size
  clear hgr2 hown1 hu1
  go_wp2_with (at_builtin; refine Shut.out ?s3)
  unfold Shut
  refine wpList_world ?_
  intro w3 hw3
  have hb23 : Below w2.heap.size w2 w3 := by rw [hw3]; exact below_alloc1 _ _
  have hk3 : Blk w3 w2.heap.size #[.int .u8 171, .int .u8 172, .int .u8 173] 5 := by rw [hw3]; exact Blk.new _ _ _
  have hown3 := hown2.below hb23 (Nat.le_refl _)
  have hm3 : OwnB w3 w2.heap.size (.slice (some ⟨w2.heap.size, 0, none⟩) 3 3) mark3 := OwnL.of_blk (cap := 3) (xs := mark3) hk3 (Nat.le_refl _) (by decide) (by decide) rfl rfl rfl
  have hb3 := hb2.trans (hb23.mono hs2)
  clear hw3
  refine wpList_app_rows _ rfl _ _ 23 rfl Try.underlying23 hi hz0 hz1 hz2 rfl (by decide) (enc := encB) rfl hown3 rfl hm3 encB_len encB_one (by have := hn.out; unfold maxLen mark3; simp; omega) (by have := hn.out; unfold mark3; simp; omega) hb3.size (fun v4 w4 hown4 hgr4 => ?_)
  have hb4 : Below w.heap.size w w4 := hb3.grown hgr4 hb3.size (fun k hk => (hown3.lt k hk).1)
  have hl4 : (bs ++ mark3).length = n + 3 := by rw [List.length_append, ← hn.out]; rfl
  rcases hown4.form with ⟨_, h0⟩ | ⟨g, cap4, cells, hv4, _, hc4, _, _, hg4, _⟩
  · rw [h0] at hl4; simp at hl4
  rw [hl4] at hv4 hc4
  subst hv4
  clear hgr4 hown3 hm3 hk3 hown2
  have hcz : ¬ cap4 = 0 := by omega
  go_wp2_with fail
  go_ret
  exact ⟨g, cap4, rfl, hown4, hb4⟩

set_option maxRecDepth 100000 in
set_option maxHeartbeats 4000000 in
theorem kept_any (g cap : Nat) (v : Value) (bs : List Nat) (w : World) (base base2 : Nat) (h : OwnB w base (.slice (some ⟨g, 0, none⟩) (bs.length + 3) cap) (bs ++ mark3)) (h2 : OwnB w base2 v bs) (hb : ∀ x ∈ bs, x < 256) (hl : bs.length ≤ 65536) :
    Calls Try.prog 22 #[.slice (some ⟨g, 0, none⟩) bs.length cap, v] w fun e w' => e = .returned (.bool true) ∧ w' = w := by
  have hs : OwnB w base (.slice (some ⟨g, 0, none⟩) bs.length cap) bs := by
    rcases h.form with ⟨_, h0⟩ | ⟨g', cap', cells, hv, hk, h3, h4, h5, h6, h7, h8⟩
    · simp [mark3] at h0
    · obtain ⟨rfl, rfl⟩ : g = g' ∧ cap = cap' := by simp at hv; exact ⟨hv.1, hv.2.2⟩
      refine OwnL.of_blk hk h6 (by simp [mark3] at h3; omega) h4 h5 ?_ (flat_len encB_len bs)
      have := congrArg (List.take (bs.length * 1)) h8
      rw [List.take_take, List.flatMap_append, List.length_append, List.take_left' (flat_len encB_len bs)] at this
      rw [← this]
      congr 1
      omega
  have hSm := same_any w hs h2 hb hb
  rw [decide_eq_true rfl] at hSm
  have hc : ∀ i, i < 3 → w.cell? ⟨g, bs.length + i, none⟩ = some (.int .u8 (mark3.getD i 0 : Nat)) := by
    intro i hi3
    rcases h.form with ⟨_, h0⟩ | ⟨g', cap', cells, hv, hk, h3, h4, h5, h6, h7, h8⟩
    · simp [mark3] at h0
    · obtain ⟨rfl, rfl⟩ : g = g' ∧ cap = cap' := by simp at hv; exact ⟨hv.1, hv.2.2⟩
      rw [hk.cell]
      have hlt : bs.length + i < (bs ++ mark3).length := by simp [mark3]; omega
      have h9 := flat_at (enc := encB) (size := 1) encB_len (bs ++ mark3) (bs.length + i) 0 hlt (by omega)
      rw [← h8, List.getElem?_take, if_pos (by omega), Nat.mul_one, Nat.add_zero] at h9
      rw [← Array.getElem?_toList, h9]
      rw [List.getElem_append_right (by omega)]
      have : bs.length + i - bs.length = i := by omega
      simp only [this]
      match i, hi3 with
      | 0, _ => rfl
      | 1, _ => rfl
      | 2, _ => rfl
  have c0 : w.cell? ⟨g, bs.length, none⟩ = some (.int .u8 171) := hc 0 (by omega)
  have c1 : w.cell? ⟨g, bs.length + 1, none⟩ = some (.int .u8 172) := hc 1 (by omega)
  have c2 : w.cell? ⟨g, bs.length + 2, none⟩ = some (.int .u8 173) := hc 2 (by omega)
  have hcap : bs.length + 3 ≤ cap := by
    rcases h.form with ⟨_, h0⟩ | ⟨g', cap', cells, hv, hk, h3, _⟩
    · simp [mark3] at h0
    · obtain ⟨rfl, rfl⟩ : g = g' ∧ cap = cap' := by simp at hv; exact ⟨hv.1, hv.2.2⟩
      simpa [mark3] using h3
  clear hc hs h h2
  obtain ⟨n, hn⟩ : ∃ n, n = bs.length := ⟨_, rfl⟩
  rw [← hn] at c0 c1 c2 hcap hSm hl ⊢
  clear hn
  have hcz : ¬ cap = 0 := by omega
  go_enter Try.func22, Try.ntmps22
  go_wp2_with (go_at_call 12; refine Shut.out ?k1)
  unfold Shut
  refine hSm.mono ?_
  rintro e w2 ⟨rfl, rfl⟩
  dsimp only
  go_wp2_with fail
  go_ret
  exact ⟨by simp, rfl⟩
end Go.Proofs.Ythemljefmgphkaa
