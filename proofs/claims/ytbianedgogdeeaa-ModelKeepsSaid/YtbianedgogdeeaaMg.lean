/- Model: Order. -/
import Derived.Test.YtbianedgogdeeaaMf
import Derived.Test.YtbianedgogdeeaaBaseK
namespace Go.Proofs.Ytbianedgogdeeaa
open Go.RowKit Go.Maps Fold Go.Sort Go.Shelf Go.Lib
attribute [local go_sem] Oper.semAt_some
set_option linter.unusedVariables false
set_option linter.unusedSimpArgs false

theorem strGeq (t : TypeId) (a b : ByteArray) : binOp .geq t (.string a) (.string b) = pure (.bool !(Op.bytesLess a.toList b.toList)) := by simp [binOp, Op.stringOp]
theorem strGtr (t : TypeId) (a b : ByteArray) : binOp .gtr t (.string a) (.string b) = pure (.bool !(Op.bytesLess a.toList b.toList || a.toList == b.toList)) := by simp [binOp, Op.stringOp]
attribute [local go_sem] strGeq strGtr
def cmpT (a b : ByteArray) : Int := if Op.bytesLess a.toList b.toList = true then -1 else if a = b then 0 else 1
def or2 (a b : Int) : Int := if a ≠ 0 then a else b
def cmpR (p q : PR) : Int := or2 (cmpT p.1 q.1) (Lib.compareInt p.2 q.2)
theorem nanS (a : ByteArray) (w : World) : Calls Try.prog 60 #[.string a] w fun e w' => e = .returned (.bool false) ∧ w' = w := by
  go_enter Try.func60, Try.ntmps60
  go_wp2
  go_ret
  exact ⟨by simp, rfl⟩
theorem nanU (a : Int) (w : World) : Calls Try.prog 61 #[.int .u32 a] w fun e w' => e = .returned (.bool false) ∧ w' = w := by
  go_enter Try.func61, Try.ntmps61
  go_wp2
  go_ret
  exact ⟨by simp, rfl⟩
set_option maxRecDepth 100000 in
theorem cmpT_any (a b : ByteArray) (w : World) : Calls Try.prog 41 #[.string a, .string b] w fun e w' => e = .returned (.int .i64 (cmpT a b)) ∧ w' = w := by
  have h1 := fun w => nanS a w
  have h2 := fun w => nanS b w
  have he := str_eq a b
  unfold cmpT
  cases hl : Op.bytesLess a.toList b.toList with
  | true =>
    rw [if_pos rfl]
    clear he
    go_enter Try.func41, Try.ntmps41
    go_wp2_with (first | (go_at_call 60; with_reducible refine (h1 _).mono ?_; rintro e w' ⟨rfl, rfl⟩) | (go_at_call 60; with_reducible refine (h2 _).mono ?_; rintro e w' ⟨rfl, rfl⟩))
    go_ret
    exact ⟨rfl, rfl⟩
  | false =>
    rw [if_neg (by simp)]
    by_cases hab : a = b
    · rw [decide_eq_true hab] at he
      rw [if_pos hab]
      clear hab
      go_enter Try.func41, Try.ntmps41
      go_wp2_with (first | (go_at_call 60; with_reducible refine (h1 _).mono ?_; rintro e w' ⟨rfl, rfl⟩) | (go_at_call 60; with_reducible refine (h2 _).mono ?_; rintro e w' ⟨rfl, rfl⟩))
      go_ret
      exact ⟨rfl, rfl⟩
    · rw [decide_eq_false hab] at he
      rw [if_neg hab]
      clear hab
      go_enter Try.func41, Try.ntmps41
      go_wp2_with (first | (go_at_call 60; with_reducible refine (h1 _).mono ?_; rintro e w' ⟨rfl, rfl⟩) | (go_at_call 60; with_reducible refine (h2 _).mono ?_; rintro e w' ⟨rfl, rfl⟩))
      go_ret
      exact ⟨rfl, rfl⟩
set_option maxRecDepth 100000 in
theorem cmpU_any (a b : Int) (w : World) : Calls Try.prog 42 #[.int .u32 a, .int .u32 b] w fun e w' => e = .returned (.int .i64 (Lib.compareInt a b)) ∧ w' = w := by
  have h1 := fun w => nanU a w
  have h2 := fun w => nanU b w
  unfold Lib.compareInt
  by_cases hl : a < b
  · rw [if_pos hl]
    go_enter Try.func42, Try.ntmps42
    go_wp2_with (first | (go_at_call 61; with_reducible refine (h1 _).mono ?_; rintro e w' ⟨rfl, rfl⟩) | (go_at_call 61; with_reducible refine (h2 _).mono ?_; rintro e w' ⟨rfl, rfl⟩))
    go_ret
    exact ⟨rfl, rfl⟩
  · rw [if_neg hl]
    by_cases hg : b < a
    · rw [if_pos hg]
      go_enter Try.func42, Try.ntmps42
      go_wp2_with (first | (go_at_call 61; with_reducible refine (h1 _).mono ?_; rintro e w' ⟨rfl, rfl⟩) | (go_at_call 61; with_reducible refine (h2 _).mono ?_; rintro e w' ⟨rfl, rfl⟩))
      go_ret
      exact ⟨rfl, rfl⟩
    · rw [if_neg hg]
      go_enter Try.func42, Try.ntmps42
      go_wp2_with (first | (go_at_call 61; with_reducible refine (h1 _).mono ?_; rintro e w' ⟨rfl, rfl⟩) | (go_at_call 61; with_reducible refine (h2 _).mono ?_; rintro e w' ⟨rfl, rfl⟩))
      go_ret
      exact ⟨rfl, rfl⟩
set_option maxRecDepth 100000 in
set_option maxHeartbeats 1000000 in
theorem or2_any (a b : Int) (gb : Nat) (W : World) (h : Blk W gb #[.int .i64 a, .int .i64 b] 3) : Calls Try.prog 40 #[.slice (some ⟨gb, 0, none⟩) 2 2] W fun e w' => e = .returned (.int .i64 (or2 a b)) ∧ w' = W := by
  have c0 : W.cell? ⟨gb, 0, none⟩ = some (.int .i64 a) := h.cellAt rfl
  have c1 : W.cell? ⟨gb, 1, none⟩ = some (.int .i64 b) := h.cellAt rfl
  obtain ⟨r, hr⟩ : ∃ r, r = or2 a b := ⟨_, rfl⟩
  rw [← hr]
  unfold or2 at hr
  replace hr := Lib.hid hr
  go_enter Try.func40, Try.ntmps40
  go_wp2_with fail
  go_loopw [8] (fun x8 wr => ∃ i : Nat, i ≤ 2 ∧ x8 = .int .i64 i ∧ wr = W ∧ Hid ((0 < i → a = 0) ∧ (1 < i → b = 0))) (fun x8 _ => 2 - (intOf x8).toNat)
  case atStart => exact ⟨0, by omega, rfl, rfl, Lib.hid ⟨by omega, by omega⟩⟩
  case round =>
    obtain ⟨i, hi, rfl, rfl, hz⟩ := hrel
    have hcase : i = 0 ∨ i = 1 ∨ i = 2 := by omega
    rcases hcase with rfl | rfl | rfl
    · by_cases h0 : a = 0
      · have d0 : (a == 0) = true := by simpa using h0
        have d1 : (a != 0) = false := by simp [h0]
        go_wp2_with fail
        go_roundw
        case rel => exact ⟨1, by omega, rfl, trivial, Lib.hid ⟨fun _ => h0, by omega⟩⟩
        case measure => simp [intOf]
      · have d0 : (a == 0) = false := by simpa using h0
        have d1 : (a != 0) = true := by simp [h0]
        have hr2 := hr.out
        rw [if_pos h0] at hr2
        go_wp2_with fail
        go_ret
        exact ⟨by rw [hr2]; rfl, rfl⟩
    · have hr2 := hr.out
      rw [if_neg (by rw [hz.out.1 (by omega)]; simp)] at hr2
      by_cases h0 : b = 0
      · have d1 : (b != 0) = false := by simp [h0]
        go_wp2_with fail
        go_roundw
        case rel => exact ⟨2, by omega, rfl, trivial, Lib.hid ⟨fun _ => hz.out.1 (by omega), fun _ => h0⟩⟩
        case measure => simp [intOf]
      · have d1 : (b != 0) = true := by simp [h0]
        go_wp2_with fail
        go_ret
        exact ⟨by rw [hr2]; rfl, rfl⟩
    · have hr2 := hr.out
      rw [if_neg (by rw [hz.out.1 (by omega)]; simp), hz.out.2 (by omega)] at hr2
      go_wp2_with fail
      go_ret
      exact ⟨by rw [hr2]; rfl, rfl⟩
set_option maxRecDepth 100000 in
set_option maxHeartbeats 2000000 in
theorem order1_any (x y : PR) (W : World) : Calls Try.prog 39 #[.agg #[.string x.1, .int .u32 (x.2 : Nat)], .agg #[.string y.1, .int .u32 (y.2 : Nat)]] W fun e w' =>
    e = .returned (.int .i64 (cmpR x y)) ∧ ∃ q os', w' = grow (W.drewN q) os' := by
  unfold cmpR
  obtain ⟨r1, hr1⟩ : ∃ r, r = cmpT x.1 y.1 := ⟨_, rfl⟩
  obtain ⟨r2, hr2⟩ : ∃ r, r = Lib.compareInt x.2 y.2 := ⟨_, rfl⟩
  have h1 := fun w => cmpT_any x.1 y.1 w
  have h2 := fun w => cmpU_any x.2 y.2 w
  rw [← hr1] at h1 ⊢
  rw [← hr2] at h2 ⊢
  clear hr1 hr2
  replace h1 := Lib.hid h1
  replace h2 := Lib.hid h2
  obtain ⟨xk, xv⟩ := x
  obtain ⟨yk, yv⟩ := y
  dsimp only at h1 h2 ⊢
  go_enter Try.func39, Try.ntmps39
  go_upto_region 1 with fail
  refine Code.wp_world ?_
  intro w1 hw1
  have hg1 : ∃ q os', w1 = grow (W.drewN q) os' := ⟨0, _, by rw [hw1, alloc_eq_grow, alloc_eq_grow, grow_grow]; rfl⟩
  have hB1 : Blk w1 W.heap.size #[.string xk, .int .u32 (xv : Nat)] 53 := by rw [hw1]; exact (Blk.new _ _ _).alloc _
  have hB2 : Blk w1 (W.heap.size + 1) #[.string yk, .int .u32 (yv : Nat)] 53 := by
    rw [hw1]
    have := Blk.new (W.alloc (.cells #[.string xk, .int .u32 (xv : Nat)] 53)) #[.string yk, .int .u32 (yv : Nat)] 53
    rwa [World.size_alloc] at this
  obtain ⟨z, hz⟩ : ∃ z, z = W.heap.size := ⟨_, rfl⟩
  rw [← hz] at hB1 hB2 ⊢
  clear hw1 hz
  have a0 := hB1.cellAt (i := 0) (v := .string xk) rfl
  have a1 := hB1.cellAt (i := 1) (v := .int .u32 (xv : Nat)) rfl
  have b0 := hB2.cellAt (i := 0) (v := .string yk) rfl
  have b1 := hB2.cellAt (i := 1) (v := .int .u32 (yv : Nat)) rfl
  refine wp_region_quiet_tail 10 (by kernel_rfl) (by kernel_rfl) ?_
  simp only [List.take_succ_cons, List.take_zero, List.drop_succ_cons, List.drop_zero]
  repeat (go_big_quiet_step (first | (go_at_call 41; with_reducible exact Calls.quiet_of_same (h1.out _)) | (go_at_call 42; with_reducible exact Calls.quiet_of_same (h2.out _))))
  refine wpQuiet_nil ?_
  rintro w2 ⟨m, hm⟩
  have hg2 : ∃ q os', w2 = grow (W.drewN q) os' := by
    obtain ⟨q, os, h⟩ := hg1
    exact ⟨q + m, os, by rw [hm, h]; simp [grow, World.drewN, Nat.add_assoc]⟩
  clear hm hg1 hB1 hB2 a0 a1 b0 b1 h1 h2
  have hor := or2_any r1 r2 w2.heap.size _ (Blk.new w2 #[.int .i64 r1, .int .i64 r2] 3)
  replace hor := Lib.hid hor
  go_wp2_with fail
  refine hor.out.mono ?_
  rintro e w3 ⟨rfl, rfl⟩
  dsimp only
  go_wp2_with fail
  go_ret
  obtain ⟨q, os, h⟩ := hg2
  exact ⟨rfl, q, _, by rw [h, alloc_eq_grow, grow_grow]⟩

theorem cmpR_lt (x y : PR) : ltOf cmpR x y = decide (ltP x y) := by
  unfold ltOf cmpR
  have h2 : (Lib.compareInt (x.2 : Int) y.2 < 0) ↔ x.2 < y.2 := by
    unfold Lib.compareInt
    by_cases h1 : (x.2 : Int) < y.2
    · rw [if_pos h1]; omega
    · rw [if_neg h1]
      by_cases h2 : (y.2 : Int) < x.2
      · rw [if_pos h2]; omega
      · rw [if_neg h2]; omega
  have h1 : or2 (cmpT x.1 y.1) (Lib.compareInt (x.2 : Int) y.2) < 0 ↔ ltP x y := by
    unfold or2 cmpT ltP
    by_cases hl : Op.bytesLess x.1.toList y.1.toList = true
    · simp [hl]
    · rw [if_neg hl]
      by_cases he : x.1 = y.1
      · rw [if_pos he]
        simp only [ne_eq, not_true, if_false, he, true_and, less_irr, Bool.false_eq_true, false_or]
        exact h2
      · rw [if_neg he]
        simp [hl, he]
  rw [decide_eq_decide.2 h1]
theorem swoR : SWO (ltOf cmpR) where
  irrefl x := by
    rw [cmpR_lt]
    simpa using ltP_irr x
  trans x y z h1 h2 := by
    rw [cmpR_lt, decide_eq_true_eq] at *
    exact ltP_trans h1 h2
  ntrans x y z h1 h2 := by
    rw [cmpR_lt, decide_eq_false_iff_not] at *
    intro h
    by_cases e : x = y
    · subst e; exact h2 h
    · rcases ltP_total e with h3 | h3
      · exact h1 h3
      · exact h2 (ltP_trans h3 h)
theorem sort_cmpR (l : PRS) : (l.mergeSort fun x y => !(ltOf cmpR) y x) = sortP l := by
  have : (fun x y => !(ltOf cmpR) y x) = leP := by
    funext x y
    rw [cmpR_lt]
    rfl
  rw [this]
  rfl
theorem sortR_any (xs : PRS) (v : Value) (w : World) (base : Nat) (h : OwnR w base v xs) (hl : xs.length < 4611686018427387904) :
    Calls Try.prog 38 #[v, .func (.func 39) #[] #[]] w fun e w' => e = .returned (.tuple #[]) ∧ OwnR w' base v (sortP xs) ∧ w.grownBy w' v.ownBlock := by
  rcases h.form with ⟨rfl, rfl⟩ | ⟨g, cap, cells, rfl, _, _, _, _, _, hlt, _⟩
  · have hcon := AnyF.slices_SortFunc_none { laySortP with } none 0 (.func (.func 39) #[] #[]) w
    change Calls Try.prog 38 _ _ _ at hcon
    refine hcon.mono ?_
    rintro e w' ⟨rfl, rfl⟩
    exact ⟨rfl, by rw [show sortP ([] : PRS) = [] from List.Perm.nil_eq (sortP_perm []).symm |>.symm]; exact OwnL.nil _ _ _ _ _, World.grownBy.refl _ _⟩
  · have eg : ∀ args w, (callFunc 39 args).run Try.prog w = .ok (.enter 39 args) w := enters_of Try.func39 (by kernel_rfl) rfl
    have hcon := AnyQ.slices_SortFunc_total laySortP 2 Try.isAgg53 Try.sizeOf53 encR encR_len encR_one cmpR swoR 39 #[] g 0 cap xs.toArray w eg
      (fun _ _ _ _ x y => order1_any x y _) (h.holds encR_len (by decide)) hlt (by simpa using hl) (fun x y h1 h2 => by
        rw [cmpR_lt, decide_eq_false_iff_not] at h1 h2
        refine Decidable.byContradiction fun e => ?_
        rcases ltP_total e with h | h
        · exact h1 h
        · exact h2 h)
    change Calls Try.prog 38 _ _ _ at hcon
    simp only [List.size_toArray] at hcon
    refine hcon.mono ?_
    rintro e w' ⟨rfl, n, os, rfl⟩
    rw [sort_cmpR]
    obtain ⟨h1, h2⟩ := h.sorted (n := n) (os := os) (d' := (sortP xs).toArray) encR_len (by decide) (by simpa using (sortP_perm xs).length_eq)
    exact ⟨rfl, h1, h2⟩
end Go.Proofs.Ytbianedgogdeeaa
