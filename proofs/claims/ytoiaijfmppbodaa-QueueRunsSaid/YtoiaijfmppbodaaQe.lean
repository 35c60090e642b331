/- Queue: the document's queue: Put and Take on a row of ints. -/
import Derived.Test.YtoiaijfmppbodaaQd
import Derived.Test.YtoiaijfmppbodaaL8
namespace Go.Proofs.Ytoiaijfmppbodaa
open Go.RowKit Go.Shelf
attribute [local go_sem] Oper.semAt_some
set_option linter.unusedVariables false

theorem partsN : ∃ i, Try.prog.info? 3 = some i ∧ i.zero = some (.int .i64 0) ∧ i.size = 1 ∧ i.bytes = 8 := infoParts infoN

/-- The document's queue as it lies. -/
structure MQ (w : World) (mb base most : Nat) (v : Value) (zs : List Int) : Prop where
  blk : Blk w mb #[.int .i64 most, v] 40
  row : OwnL encN w base 3 1 v zs

set_option maxRecDepth 100000 in
set_option maxHeartbeats 1000000 in
theorem rput_full (x : Int) (mb base most : Nat) (v : Value) (zs : List Int) (w : World) (h : MQ w mb base most v zs) (hl : zs.length = most) :
    Calls Try.prog 17 #[.pointer (some ⟨mb, 0, none⟩), .int .i64 x] w fun e w' => e = .returned (.int .i64 10) ∧ ∃ q, w' = w.drewN q := by
  obtain ⟨ao, cap, rfl, _, _, _⟩ := h.row.slice
  have c0 := h.blk.cellAt (i := 0) (v := .int .i64 most) rfl
  have c1 := h.blk.cellAt (i := 1) (v := .slice ao zs.length cap) rfl
  rw [hl] at c1
  clear h hl
  go_enter Try.func17, Try.ntmps17
  go_wp2_with fail
  go_quiet (fail)
  go_wp2_with fail
  go_ret
  exact ⟨rfl, _, rfl⟩

set_option maxRecDepth 100000 in
set_option maxHeartbeats 1000000 in
theorem rput_room (x : Int) (mb base most : Nat) (v : Value) (zs : List Int) (w : World) (hb : base ≤ w.heap.size) (h : MQ w mb base most v zs) (hl : zs.length ≠ most) (h64 : zs.length ≤ 1000) :
    Calls Try.prog 17 #[.pointer (some ⟨mb, 0, none⟩), .int .i64 x] w fun e w' => e = .returned (.int .i64 0) ∧ ∃ v', MQ w' mb base most v' (zs ++ [x]) ∧ Chg (fun k => k = mb) w w' := by
  obtain ⟨ii, hiN, hi0, hi1, hi2⟩ := partsN
  obtain ⟨ao, cap, hv, hS⟩ := h.row.sla (E := fun _ cs x => cs = encN x) encN_len (fun _ _ => rfl)
  subst hv
  have hblk := h.blk
  obtain ⟨m, hm⟩ : ∃ m, m = zs.length := ⟨_, rfl⟩
  rw [← hm] at hl h64 hblk
  have c0 := hblk.cellAt (i := 0) (v := .int .i64 most) rfl
  have c1 := hblk.cellAt (i := 1) (v := .slice ao m cap) rfl
  have d1 : ((m : Int) == (most : Int)) = false := by simp; omega
  replace hm := Lib.hid hm
  clear h
  go_enter Try.func17, Try.ntmps17
  go_wp2_with fail
  go_quiet (fail)
  go_upto_region 3 with fail
  refine Code.wp_world ?_
  intro w1 hw1
  have hblk1 : Blk w1 mb #[.int .i64 most, .slice ao m cap] 40 := by rw [hw1]; exact hblk.drewN _
  have hb1 : Below w.heap.size w w1 := by rw [hw1]; exact below_drewN (Below.refl _ _) _
  clear hw1 c0 c1
  have c1 := hblk1.cellAt (i := 1) (v := .slice ao m cap) rfl
  have hmb := hblk1.lt
  go_wp2_with (at_builtin; refine Shut.out ?ka)
  unfold Shut
  have hii2 : SlA w.heap.size 1 (fun _ cs x => cs = encN x) (w1.alloc (.cells #[] 3)) ao cap zs := hS.imp (hb1.trans ((belowAlloc w1 (.cells #[] 3)).mono hb1.size)) (Nat.le_refl _) (fun cs x _ h => h)
  refine wpList_app_sla (xs := []) (ys := zs) (enc := encN) (base := w1.heap.size) _ rfl _ _ 34 rfl Try.underlying34 hiN hi0 hi1 hi2 rfl (by decide) rfl (ownEmpty w1 1 3) (by show Value.slice ao m cap = _; rw [hm.out]) hii2 encN_len encN_one (by rw [← hm.out]; unfold maxLen; simp; omega) (by rw [← hm.out]; simp; omega) (by simp) (fun v3 w3 hown3 hgr3 => ?_)
  rw [List.nil_append] at hown3
  have hb23 : Below w1.heap.size w1 w3 := (belowAlloc w1 (.cells #[] 3)).grown hgr3 (by simp) (fun g hg => by simp [Act.eval, Value.ownBlock] at hg; omega)
  have hblk3 := hblk1.below hb23 hmb
  clear hii2 hgr3 c1
  go_wp2_with (at_builtin; refine Shut.out ?kb)
  unfold Shut
  change wpList _ _ _ _ _ (w3.alloc (.cells (encN x).toArray 3))
  refine wpList_app1g rfl _ _ 34 rfl Try.underlying34 hiN hi0 hi1 hi2 rfl (by decide) (enc := encN) x rfl hown3 rfl rfl (encN_one _) (by rw [← hm.out]; omega) (by rw [← hm.out]; unfold maxLen; omega) hb23.size (fun g cap4 w4 hown4 hgr4 => ?_)
  have hb34 : Below w1.heap.size w3 w4 := hgr4.below hb23.size (fun k hk => (hown3.lt k hk).1)
  have hblk4 := hblk3.below hb34 hmb
  have hb4 := hb1.trans ((hb23.trans hb34).mono hb1.size)
  have hmb4 := hblk4.lt
  have cf := hblk4.frozen 1
  have c1 := hblk4.cellAt (i := 1) (v := .slice ao m cap) rfl
  rw [← hm.out] at hown4 ⊢
  go_wp2_with fail
  go_ret
  refine ⟨rfl, _, ⟨by simpa using hblk4.set 1 _, ?_⟩, ((Chg.of_below hb4).mono (fun k h1 h2 => by omega)).setCell ⟨mb, 1, none⟩ _ (fun _ => rfl)⟩
  exact (hown4.base_le (Nat.le_trans hb hb1.size)).chg ((Chg.refl (fun k => k = mb) w4).setCell ⟨mb, 1, none⟩ _ (fun _ => rfl)) (fun g e h => hown4.ne_blk hblk4 (by decide) (by rw [e, h]))

set_option maxRecDepth 100000 in
set_option maxHeartbeats 1000000 in
theorem rtake_none (mb base most : Nat) (v : Value) (w : World) (h : MQ w mb base most v []) :
    Calls Try.prog 15 #[.pointer (some ⟨mb, 0, none⟩)] w fun e w' => e = .returned (.tuple #[.int .i64 0, .int .i64 7]) ∧ w' = w := by
  obtain ⟨ao, cap, hv, _, _, _⟩ := h.row.slice
  subst hv
  have c1 := h.blk.cellAt (i := 1) (v := .slice ao 0 cap) rfl
  clear h
  go_enter Try.func15, Try.ntmps15
  go_wp2_with fail
  go_ret2
  exact ⟨rfl, rfl⟩

set_option maxRecDepth 100000 in
set_option maxHeartbeats 1000000 in
theorem rtake_some (mb base most : Nat) (v : Value) (z : Int) (zs : List Int) (w : World) (hb : base ≤ w.heap.size) (h : MQ w mb base most v (z :: zs)) (h64 : zs.length ≤ 1000) :
    Calls Try.prog 15 #[.pointer (some ⟨mb, 0, none⟩)] w fun e w' => e = .returned (.tuple #[.int .i64 z, .int .i64 0]) ∧ ∃ v', MQ w' mb base most v' zs ∧ Chg (fun k => k = mb) w w' := by
  obtain ⟨ii, hiN, hi0, hi1, hi2⟩ := partsN
  obtain ⟨ao, cap, hv, hS⟩ := h.row.sla (E := fun _ cs x => cs = encN x) encN_len (fun _ _ => rfl)
  subst hv
  obtain ⟨b0, o0, rfl, hb0, _⟩ := hS.addr (by simp)
  have cz : w.cell? ⟨b0, o0, none⟩ = some (.int .i64 z) := by
    obtain ⟨cs, _, h6, h7⟩ := hS.get 0 (by simp)
    have h8 := h6 0 (by omega)
    rw [h7] at h8
    simpa [encN] using h8
  have hblk := h.blk
  have hcap := hS.1
  rw [List.length_cons] at hcap
  obtain ⟨m, hm⟩ : ∃ m, m = zs.length := ⟨_, rfl⟩
  rw [List.length_cons, ← hm] at hblk
  rw [← hm] at h64 hcap
  have c1 := hblk.cellAt (i := 1) (v := .slice (some ⟨b0, o0, none⟩) (m + 1) cap) rfl
  have hmb := hblk.lt
  have hc0 : (cap != 0) = true := by simp; omega
  replace hm := Lib.hid hm
  clear h
  go_enter Try.func15, Try.ntmps15
  go_wp2_with (at_builtin; refine Shut.out ?ka)
  all_goals (try unfold Shut)
  all_goals (have hii2 : ∀ x cap', ((x = some ⟨b0, o0 + 1, none⟩ ∧ cap' = cap - 1) ∨ (cap = 1 ∧ cap' = 0)) → SlA w.heap.size 1 (fun _ cs x => cs = encN x) (w.alloc (.cells #[] 3)) x cap' zs := fun x cap' h => (slaDrop hS 1 (by simp) x cap' (by simpa using h)).imp (belowAlloc w _) (Nat.le_refl _) (fun cs x _ h => h))
  all_goals refine wpList_app_sla (xs := []) (ys := zs) (enc := encN) (base := w.heap.size) _ rfl _ _ 34 rfl Try.underlying34 hiN hi0 hi1 hi2 rfl (by decide) rfl (ownEmpty w 1 3) (by show Value.slice _ m _ = _; rw [hm.out]) (hii2 _ _ (by first | exact .inl ⟨rfl, rfl⟩ | exact .inr ⟨by assumption, rfl⟩)) encN_len encN_one (by rw [← hm.out]; unfold maxLen; simp; omega) (by rw [← hm.out]; simp; omega) (by simp) (fun v3 w3 hown3 hgr3 => ?_)
  all_goals (rw [List.nil_append] at hown3; have hb23 : Below w.heap.size w w3 := (belowAlloc w (.cells #[] 3)).grown hgr3 (by simp) (fun g hg => by simp [Act.eval, Value.ownBlock] at hg; omega))
  all_goals (have hblk3 := hblk.below hb23 hmb; have cf := hblk3.frozen 1; have c3 := hblk3.cellAt (i := 1) (v := .slice (some ⟨b0, o0, none⟩) (m + 1) cap) rfl; clear hii2 hgr3 c1 cz)
  all_goals (obtain ⟨a3, cap3, hv3, _, _, _⟩ := hown3.slice; rw [← hm.out] at hv3; subst hv3)
  all_goals go_wp2_with fail
  all_goals go_ret2
  all_goals refine ⟨rfl, _, ⟨by simpa using hblk3.set 1 _, ?_⟩, ((Chg.of_below hb23).mono (fun k h1 h2 => by omega)).setCell ⟨mb, 1, none⟩ _ (fun _ => rfl)⟩
  all_goals exact (hown3.base_le hb).chg ((Chg.refl (fun k => k = mb) w3).setCell ⟨mb, 1, none⟩ _ (fun _ => rfl)) (fun g e h => hown3.ne_blk hblk3 (by decide) (by rw [e, h]))
end Go.Proofs.Ytoiaijfmppbodaa
