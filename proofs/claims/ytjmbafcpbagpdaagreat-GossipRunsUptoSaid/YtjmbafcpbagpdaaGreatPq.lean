/- Progress: the order of pointstamps, and the sort by it. -/
import Derived.Test.YtjmbafcpbagpdaaGreatPm
import Derived.Test.YtjmbafcpbagpdaaGreatL5
import Derived.Test.YtjmbafcpbagpdaaGreatLayS
namespace Go.Proofs.YtjmbafcpbagpdaaGreat
open Go.RowKit Go.Shelf Go.Lib Go.Sort Go.Maps
set_option linter.unusedVariables false
set_option linter.unusedSimpArgs false

instance : Inhabited TStamp := ⟨⟨0, ⟨0, 0⟩⟩⟩

/-- cmp.Or of three numbers. -/
def or3 (a b c : Int) : Int := if a ≠ 0 then a else if b ≠ 0 then b else c
set_option maxRecDepth 100000 in
set_option maxHeartbeats 1000000 in
theorem or_any (a b c : Int) (gb : Nat) (W : World) (h : Blk W gb #[.int .i64 a, .int .i64 b, .int .i64 c] 3) : Calls Tryz.prog 66 #[.slice (some ⟨gb, 0, none⟩) 3 3] W fun e w' => e = .returned (.int .i64 (or3 a b c)) ∧ w' = W := by
  have c0 : W.cell? ⟨gb, 0, none⟩ = some (.int .i64 a) := h.cellAt rfl
  have c1 : W.cell? ⟨gb, 1, none⟩ = some (.int .i64 b) := h.cellAt rfl
  have c2 : W.cell? ⟨gb, 2, none⟩ = some (.int .i64 c) := h.cellAt rfl
  obtain ⟨r, hr⟩ : ∃ r, r = or3 a b c := ⟨_, rfl⟩
  rw [← hr]
  unfold or3 at hr
  replace hr := Lib.hid hr
  go_enter Tryz.func66, Tryz.ntmps66
  go_wp2_with fail
  go_loopw [8] (fun x8 wr => ∃ i : Nat, i ≤ 3 ∧ x8 = .int .i64 i ∧ wr = W ∧ Hid ((0 < i → a = 0) ∧ (1 < i → b = 0) ∧ (2 < i → c = 0))) (fun x8 _ => 3 - (intOf x8).toNat)
  case atStart => exact ⟨0, by omega, rfl, rfl, Lib.hid ⟨by omega, by omega, by omega⟩⟩
  case round =>
    obtain ⟨i, hi, rfl, rfl, hz⟩ := hrel
    have hcase : i = 0 ∨ i = 1 ∨ i = 2 ∨ i = 3 := by omega
    rcases hcase with rfl | rfl | rfl | rfl
    · by_cases h0 : a = 0
      · have d0 : (a == 0) = true := by simpa using h0
        have d1 : (a != 0) = false := by simp [h0]
        go_wp2_with fail
        go_roundw
        case rel => exact ⟨1, by omega, rfl, trivial, Lib.hid ⟨fun _ => h0, by omega, by omega⟩⟩
        case measure => simp [intOf]
      · have d0 : (a == 0) = false := by simpa using h0
        have d1 : (a != 0) = true := by simp [h0]
        have hr2 := hr.out
        rw [if_pos h0] at hr2
        go_wp2_with fail
        go_ret
        exact ⟨by rw [hr2]; rfl, rfl⟩
    · by_cases h0 : b = 0
      · have d1 : (b != 0) = false := by simp [h0]
        go_wp2_with fail
        go_roundw
        case rel => exact ⟨2, by omega, rfl, trivial, Lib.hid ⟨fun _ => hz.out.1 (by omega), fun _ => h0, by omega⟩⟩
        case measure => simp [intOf]
      · have d1 : (b != 0) = true := by simp [h0]
        have hr2 := hr.out
        rw [if_neg (by rw [hz.out.1 (by omega)]; simp), if_pos h0] at hr2
        go_wp2_with fail
        go_ret
        exact ⟨by rw [hr2]; rfl, rfl⟩
    · have hr2 := hr.out
      rw [if_neg (by rw [hz.out.1 (by omega)]; simp), if_neg (by rw [hz.out.2.1 (by omega)]; simp)] at hr2
      by_cases h0 : c = 0
      · have d1 : (c != 0) = false := by simp [h0]
        go_wp2_with fail
        go_roundw
        case rel => exact ⟨3, by omega, rfl, trivial, Lib.hid ⟨fun _ => hz.out.1 (by omega), fun _ => hz.out.2.1 (by omega), fun _ => h0⟩⟩
        case measure => simp [intOf]
      · have d1 : (c != 0) = true := by simp [h0]
        go_wp2_with fail
        go_ret
        exact ⟨by rw [hr2]; rfl, rfl⟩
    · have hr2 := hr.out
      rw [if_neg (by rw [hz.out.1 (by omega)]; simp), if_neg (by rw [hz.out.2.1 (by omega)]; simp), hz.out.2.2 (by omega)] at hr2
      go_wp2_with fail
      go_ret
      exact ⟨by rw [hr2]; rfl, rfl⟩

def cmpS (x y : TStamp) : Int := or3 (Lib.compareInt x.fLoc y.fLoc) (Lib.compareInt x.fT.fEpoch y.fT.fEpoch) (Lib.compareInt x.fT.fRound y.fT.fRound)
set_option maxRecDepth 100000 in
set_option maxHeartbeats 2000000 in
theorem order_any (x y : TStamp) (W : World) : Calls Tryz.prog 47 #[.agg #[.int .i64 x.fLoc, .int .i64 x.fT.fEpoch, .int .i64 x.fT.fRound], .agg #[.int .i64 y.fLoc, .int .i64 y.fT.fEpoch, .int .i64 y.fT.fRound]] W fun e w' =>
    e = .returned (.int .i64 (cmpS x y)) ∧ ∃ q os', w' = grow (W.drewN q) os' := by
  have hcon := fun a b W' => AnyG.cmp_Compare_int layCmp a b W'
  change ∀ a b W', Calls Tryz.prog 67 _ _ _ at hcon
  unfold cmpS
  obtain ⟨r1, hr1⟩ : ∃ r, r = Lib.compareInt x.fLoc y.fLoc := ⟨_, rfl⟩
  obtain ⟨r2, hr2⟩ : ∃ r, r = Lib.compareInt x.fT.fEpoch y.fT.fEpoch := ⟨_, rfl⟩
  obtain ⟨r3, hr3⟩ : ∃ r, r = Lib.compareInt x.fT.fRound y.fT.fRound := ⟨_, rfl⟩
  have h1 := hcon x.fLoc y.fLoc
  have h2 := hcon x.fT.fEpoch y.fT.fEpoch
  have h3 := hcon x.fT.fRound y.fT.fRound
  rw [← hr1] at h1 ⊢
  rw [← hr2] at h2 ⊢
  rw [← hr3] at h3 ⊢
  clear hcon hr1 hr2 hr3
  replace h1 := Lib.hid h1
  replace h2 := Lib.hid h2
  replace h3 := Lib.hid h3
  go_enter Tryz.func47, Tryz.ntmps47
  go_upto_region 1 with fail
  refine Code.wp_world ?_
  intro w1 hw1
  have hg1 : ∃ q os', w1 = grow (W.drewN q) os' := ⟨0, _, by rw [hw1, alloc_eq_grow, alloc_eq_grow, grow_grow]; rfl⟩
  have hB1 : Blk w1 W.heap.size #[.int .i64 x.fLoc, .int .i64 x.fT.fEpoch, .int .i64 x.fT.fRound] 59 := by rw [hw1]; exact (Blk.new _ _ _).alloc _
  have hB2 : Blk w1 (W.heap.size + 1) #[.int .i64 y.fLoc, .int .i64 y.fT.fEpoch, .int .i64 y.fT.fRound] 59 := by
    rw [hw1]
    have := Blk.new (W.alloc (.cells #[.int .i64 x.fLoc, .int .i64 x.fT.fEpoch, .int .i64 x.fT.fRound] 59)) #[.int .i64 y.fLoc, .int .i64 y.fT.fEpoch, .int .i64 y.fT.fRound] 59
    rwa [World.size_alloc] at this
  obtain ⟨z, hz⟩ : ∃ z, z = W.heap.size := ⟨_, rfl⟩
  rw [← hz] at hB1 hB2 ⊢
  clear hw1 hz
  have a0 := hB1.cellAt (i := 0) (v := .int .i64 x.fLoc) rfl
  have a1 := hB1.cellAt (i := 1) (v := .int .i64 x.fT.fEpoch) rfl
  have a2 := hB1.cellAt (i := 2) (v := .int .i64 x.fT.fRound) rfl
  have b0 := hB2.cellAt (i := 0) (v := .int .i64 y.fLoc) rfl
  have b1 := hB2.cellAt (i := 1) (v := .int .i64 y.fT.fEpoch) rfl
  have b2 := hB2.cellAt (i := 2) (v := .int .i64 y.fT.fRound) rfl
  refine wp_region_quiet_tail 19 (by kernel_rfl) (by kernel_rfl) ?_
  simp only [List.take_succ_cons, List.take_zero, List.drop_succ_cons, List.drop_zero]
  repeat (go_big_quiet_step (first | (go_at_call 67; with_reducible exact Calls.quiet_of_same (h1.out _)) | (go_at_call 67; with_reducible exact Calls.quiet_of_same (h2.out _)) | (go_at_call 67; with_reducible exact Calls.quiet_of_same (h3.out _))))
  refine wpQuiet_nil ?_
  rintro w2 ⟨m, hm⟩
  have hg2 : ∃ q os', w2 = grow (W.drewN q) os' := by
    obtain ⟨q, os, h⟩ := hg1
    exact ⟨q + m, os, by rw [hm, h]; simp [grow, World.drewN, Nat.add_assoc]⟩
  clear hm hg1 hB1 hB2 a0 a1 a2 b0 b1 b2 h1 h2 h3
  have hor := or_any r1 r2 r3 w2.heap.size _ (Blk.new w2 #[.int .i64 r1, .int .i64 r2, .int .i64 r3] 3)
  replace hor := Lib.hid hor
  go_wp2_with fail
  refine hor.out.mono ?_
  rintro e w3 ⟨rfl, rfl⟩
  dsimp only
  go_wp2_with fail
  go_ret
  obtain ⟨q, os, h⟩ := hg2
  exact ⟨rfl, q, _, by rw [h, alloc_eq_grow, grow_grow]⟩

theorem or3_pos (a b c : Int) : decide (or3 a b c < 0) = (decide (a < 0) || (decide (a = 0) && (decide (b < 0) || (decide (b = 0) && decide (c < 0))))) := by
  unfold or3
  by_cases h1 : a = 0
  · by_cases h2 : b = 0
    · simp [h1, h2]
    · simp [h1, h2]
  · simp [h1]
theorem cmpI (x y : Int) : (Lib.compareInt x y < 0 ↔ x < y) ∧ (Lib.compareInt x y = 0 ↔ x = y) := by
  unfold Lib.compareInt
  by_cases h1 : x < y
  · rw [if_pos h1]; omega
  · rw [if_neg h1]
    by_cases h2 : y < x
    · rw [if_pos h2]; omega
    · rw [if_neg h2]; omega
/-- The order of pointstamps. -/
def ltS (x y : TStamp) : Prop := x.fLoc < y.fLoc ∨ (x.fLoc = y.fLoc ∧ (x.fT.fEpoch < y.fT.fEpoch ∨ (x.fT.fEpoch = y.fT.fEpoch ∧ x.fT.fRound < y.fT.fRound)))
theorem ltS_iff (x y : TStamp) : ltOf cmpS x y = true ↔ ltS x y := by
  unfold ltOf cmpS ltS
  rw [or3_pos]
  obtain ⟨h1, h2⟩ := cmpI x.fLoc y.fLoc
  obtain ⟨h3, h4⟩ := cmpI x.fT.fEpoch y.fT.fEpoch
  obtain ⟨h5, h6⟩ := cmpI x.fT.fRound y.fT.fRound
  simp only [Bool.or_eq_true, Bool.and_eq_true, decide_eq_true_eq, h1, h2, h3, h4, h5]
theorem ltS_irrefl (x : TStamp) : ¬ ltS x x := by unfold ltS; omega
theorem ltS_trans {x y z : TStamp} (h1 : ltS x y) (h2 : ltS y z) : ltS x z := by unfold ltS at *; omega
theorem ltS_total {x y : TStamp} (h : x ≠ y) : ltS x y ∨ ltS y x := by
  unfold ltS
  by_cases h1 : x.fLoc = y.fLoc
  · by_cases h2 : x.fT.fEpoch = y.fT.fEpoch
    · by_cases h3 : x.fT.fRound = y.fT.fRound
      · exact absurd (by cases x; rename_i l t; cases t; cases y; rename_i l2 t2; cases t2; simp_all) h
      · omega
    · omega
  · omega
theorem swoS : SWO (ltOf cmpS) where
  irrefl x := by
    have := ltS_irrefl x
    rw [← ltS_iff] at this
    simpa using this
  trans x y z h1 h2 := by
    rw [ltS_iff] at *
    exact ltS_trans h1 h2
  ntrans x y z h1 h2 := by
    have e1 : ¬ ltS x y := by rw [← ltS_iff, h1]; simp
    have e2 : ¬ ltS y z := by rw [← ltS_iff, h2]; simp
    have : ¬ ltS x z := by unfold ltS at *; omega
    rw [← ltS_iff] at this
    simpa using this

theorem sortS_any (xs : List TStamp) (v : Value) (w : World) (base : Nat) (h : OwnL encS w base 59 3 v xs) (hl : xs.length < 4611686018427387904) (hnd : xs.Nodup) :
    Calls Tryz.prog 64 #[v, .func (.func 47) #[] #[]] w fun e w' => e = .returned (.tuple #[]) ∧
      ∃ ys : List TStamp, ys.length = xs.length ∧ ys.Perm xs ∧ ys.Pairwise ltS ∧ OwnL encS w' base 59 3 v ys ∧ w.grownBy w' v.ownBlock := by
  rcases h.form with ⟨rfl, rfl⟩ | ⟨g, cap, cells, rfl, _, _, _, _, _, hlt, _⟩
  · have hcon := AnyF.slices_SortFunc_none { laySortS with } none 0 (.func (.func 47) #[] #[]) w
    change Calls Tryz.prog 64 _ _ _ at hcon
    refine hcon.mono ?_
    rintro e w' ⟨rfl, rfl⟩
    exact ⟨rfl, [], rfl, List.Perm.refl _, List.Pairwise.nil, OwnL.nil _ _ _ _ _, World.grownBy.refl _ _⟩
  · have eg : ∀ args w, (callFunc 47 args).run Tryz.prog w = .ok (.enter 47 args) w := enters_of Tryz.func47 (by kernel_rfl) rfl
    have hcon := AnyQ.slices_SortFunc laySortS 3 Tryz.isAgg59 Tryz.sizeOf59 encS encS_len encS_one cmpS swoS 47 #[] g 0 cap xs.toArray w eg
      (fun _ _ _ _ x y => order_any x y _) (h.holds encS_len (by decide)) hlt (by simpa using hl)
    change Calls Tryz.prog 64 _ _ _ at hcon
    simp only [List.size_toArray] at hcon
    refine hcon.mono ?_
    rintro e w' ⟨rfl, d', n, os, hp, hs, rfl⟩
    have hp2 := perm_of_permIn (d := xs.toArray) (by simpa using hp)
    have hd : d'.size = xs.length := by simpa using hp.1
    rw [← hd] at hs
    have hs2 := pairwise_of_sortedIn hs
    have hnd2 : d'.toList.Nodup := hp2.nodup_iff.2 hnd
    obtain ⟨h1, h2⟩ := h.sorted (n := n) (os := os) encS_len (by decide) hd
    refine ⟨rfl, d'.toList, by simpa using hd, hp2, (List.pairwise_and_iff.2 ⟨hs2, hnd2⟩).imp (fun {a b} hab => ?_), h1, h2⟩
    rcases ltS_total hab.2 with h | h
    · exact h
    · rw [← ltS_iff, hab.1] at h
      cases h
end Go.Proofs.YtjmbafcpbagpdaaGreat
