/- Entry: the reference's bare, Good. -/
import Derived.Test.YtcigbobihkkdiaaEa
namespace Go.Proofs.Ytcigbobihkkdiaa
open Go.RowKit
set_option linter.unusedVariables false
set_option linter.unusedSimpArgs false

theorem blk5 {w : World} {b : Nat} {v0 v1 v2 v3 v4 : Value} {T : TypeId} (h : Blk w b #[v0, v1, v2, v3, v4] T) :
    w.cell? ⟨b, 0, none⟩ = some v0 ∧ w.cell? ⟨b, 1, none⟩ = some v1 ∧ w.cell? ⟨b, 2, none⟩ = some v2 ∧ w.cell? ⟨b, 3, none⟩ = some v3 ∧ w.cell? ⟨b, 4, none⟩ = some v4 :=
  ⟨h.cellAt rfl, h.cellAt rfl, h.cellAt rfl, h.cellAt rfl, h.cellAt rfl⟩

set_option maxHeartbeats 1000000 in
theorem bare_any (r : TRecord) (w : World) :
    Calls Try.prog 23 #[.agg #[.int .i64 r.fProducer, .int .i64 r.fSeq, .int .i64 r.fPart, .string r.fKey, .int .u32 r.fVal]] w fun e w' => e = .returned (.bool (decide (bareP r))) ∧ Below w.heap.size w w' := by
  obtain ⟨g, hg⟩ : ∃ g, g = decide (bareP r) := ⟨_, rfl⟩
  rw [← hg]
  have hg' : g = true ↔ bareP r := by rw [hg]; simp
  clear hg
  replace hg' := Lib.hid hg'
  go_enter Try.func23, Try.ntmps23
  go_wp2
  all_goals (
    go_ret
    refine ⟨?_, (Below.refl _ _).alloc (Nat.le_refl _) _⟩
    refine congrArg (fun b => Ending.returned (Value.bool b)) ?_
    rw [Bool.eq_iff_iff, hg'.out]
    unfold bareP
    simp only [hkey, bne_iff_ne, ne_eq, bne_eq_false_iff_eq, beq_iff_eq, beq_eq_false_iff_ne, Bool.false_eq_true, false_iff, decide_eq_true_eq] at *
    omega)

set_option maxRecDepth 100000 in
set_option maxHeartbeats 2000000 in
theorem rgood_rest (x : TEntry) (ao : Option Addr) (cap : Nat) (w : World) (hlen : x.fGraph.fOps.length ≤ 9223372036854775807) (hk3 : x.fKind ≠ 3) :
    Calls Try.prog 12 #[.agg (encE x ao cap)] w fun e w' => e = .returned (.bool (goodB x)) ∧ Below w.heap.size w w' := by
  unfold encE
  obtain ⟨g, hg⟩ : ∃ g, g = goodB x := ⟨_, rfl⟩
  have hg' : g = true ↔ preP x ∧ insP x ∧ rngP x.fRec := by rw [hg]; simp [goodB]
  rw [← hg]
  clear hg
  have hin : x.fGraph.fOps.length = 0 → insP x := by
    intro h o ho
    rw [List.length_eq_zero_iff.1 h] at ho
    simp at ho
  obtain ⟨n, hn⟩ : ∃ n, n = x.fGraph.fOps.length := ⟨_, rfl⟩
  have hbare : bareP x.fRec → rngP x.fRec := by unfold bareP rngP; omega
  rw [← hn] at hlen hin ⊢
  replace hn := Lib.hid hn
  replace hg' := Lib.hid hg'
  replace hin := Lib.hid hin
  replace hbare := Lib.hid hbare
  go_enter Try.func12, Try.ntmps12
  go_upto_region 1 with fail
  refine Code.wp_world ?_
  intro w1 hw1
  have hL : Blk w1 w.heap.size #[.int .i64 x.fKind, .int .i64 x.fRec.fProducer, .int .i64 x.fRec.fSeq, .int .i64 x.fRec.fPart, .string x.fRec.fKey, .int .u32 x.fRec.fVal, .slice ao n cap, .int .i64 x.fN] 29 := by rw [hw1]; exact Blk.new _ _ _
  have hb1 : Below w.heap.size w w1 := by rw [hw1]; exact below_alloc1 w _
  clear hw1
  obtain ⟨c0, c1, c2, c3, c4, c5, c6, c7⟩ := blk8 hL
  by_cases h0 : x.fKind = 0
  · rw [h0] at c0
    go_wp2_with (go_at_call 23; refine Shut.out ?b0)
    unfold Shut
    refine (bare_any _ _).mono ?_
    rintro e w2 ⟨rfl, hb2⟩
    dsimp only
    have hb12 := hb1.trans (hb2.mono hb1.size)
    obtain ⟨d0, d1, d2, d3, d4, d5, d6, d7⟩ := blk8 (hL.below hb2 hL.lt)
    clear hL c0 c1 c2 c3 c4 c5 c6 c7
    obtain ⟨br, hbr⟩ : ∃ b, b = decide (bareP x.fRec) := ⟨_, rfl⟩
    rw [← hbr]
    replace hbr : br = true ↔ bareP x.fRec := by rw [hbr]; simp
    replace hbr := Lib.hid hbr
    cases br with
    | true =>
      have hbb : bareP x.fRec := hbr.out.1 rfl
      clear hbr
      go_wp2_with fail
      all_goals (
        go_ret
        refine ⟨?_, hb12⟩
        refine congrArg (fun b => Ending.returned (Value.bool b)) ?_
        rw [Bool.eq_iff_iff, hg'.out]
        unfold preP
        rw [← hn.out]
        have hbare' := hbare.out
        have hin' := hin.out
        simp only [decide_eq_true_eq, Bool.false_eq_true, false_iff, beq_iff_eq] at *
        grind)
    | false =>
      have hbb : ¬ bareP x.fRec := fun h => by have := hbr.out.2 h; simp at this
      clear hbr
      go_wp2_with fail
      go_ret
      refine ⟨?_, hb12⟩
      refine congrArg (fun b => Ending.returned (Value.bool b)) ?_
      rw [Bool.eq_iff_iff, hg'.out]
      unfold preP
      rw [← hn.out]
      have hbare' := hbare.out
      have hin' := hin.out
      simp only [decide_eq_true_eq, Bool.false_eq_true, false_iff, beq_iff_eq] at *
      grind
  by_cases h2 : x.fKind = 2
  · rw [h2] at c0
    go_wp2_with (go_at_call 23; refine Shut.out ?b2)
    unfold Shut
    refine (bare_any _ _).mono ?_
    rintro e w2 ⟨rfl, hb2⟩
    dsimp only
    have hb12 := hb1.trans (hb2.mono hb1.size)
    obtain ⟨d0, d1, d2, d3, d4, d5, d6, d7⟩ := blk8 (hL.below hb2 hL.lt)
    clear hL c0 c1 c2 c3 c4 c5 c6 c7
    obtain ⟨br, hbr⟩ : ∃ b, b = decide (bareP x.fRec) := ⟨_, rfl⟩
    rw [← hbr]
    replace hbr : br = true ↔ bareP x.fRec := by rw [hbr]; simp
    replace hbr := Lib.hid hbr
    cases br with
    | true =>
      have hbb : bareP x.fRec := hbr.out.1 rfl
      clear hbr
      go_wp2_with fail
      all_goals (
        go_ret
        refine ⟨?_, hb12⟩
        refine congrArg (fun b => Ending.returned (Value.bool b)) ?_
        rw [Bool.eq_iff_iff, hg'.out]
        unfold preP
        rw [← hn.out]
        have hbare' := hbare.out
        have hin' := hin.out
        simp only [decide_eq_true_eq, Bool.false_eq_true, false_iff, beq_iff_eq] at *
        grind)
    | false =>
      have hbb : ¬ bareP x.fRec := fun h => by have := hbr.out.2 h; simp at this
      clear hbr
      go_wp2_with fail
      go_ret
      refine ⟨?_, hb12⟩
      refine congrArg (fun b => Ending.returned (Value.bool b)) ?_
      rw [Bool.eq_iff_iff, hg'.out]
      unfold preP
      rw [← hn.out]
      have hbare' := hbare.out
      have hin' := hin.out
      simp only [decide_eq_true_eq, Bool.false_eq_true, false_iff, beq_iff_eq] at *
      grind
  by_cases h4 : x.fKind = 4
  · rw [h4] at c0
    go_wp2_with (go_at_call 23; refine Shut.out ?b4)
    unfold Shut
    refine (bare_any _ _).mono ?_
    rintro e w2 ⟨rfl, hb2⟩
    dsimp only
    have hb12 := hb1.trans (hb2.mono hb1.size)
    obtain ⟨d0, d1, d2, d3, d4, d5, d6, d7⟩ := blk8 (hL.below hb2 hL.lt)
    clear hL c0 c1 c2 c3 c4 c5 c6 c7
    obtain ⟨br, hbr⟩ : ∃ b, b = decide (bareP x.fRec) := ⟨_, rfl⟩
    rw [← hbr]
    replace hbr : br = true ↔ bareP x.fRec := by rw [hbr]; simp
    replace hbr := Lib.hid hbr
    cases br with
    | true =>
      have hbb : bareP x.fRec := hbr.out.1 rfl
      clear hbr
      go_wp2_with fail
      all_goals (
        go_ret
        refine ⟨?_, hb12⟩
        refine congrArg (fun b => Ending.returned (Value.bool b)) ?_
        rw [Bool.eq_iff_iff, hg'.out]
        unfold preP
        rw [← hn.out]
        have hbare' := hbare.out
        have hin' := hin.out
        simp only [decide_eq_true_eq, Bool.false_eq_true, false_iff, beq_iff_eq] at *
        grind)
    | false =>
      have hbb : ¬ bareP x.fRec := fun h => by have := hbr.out.2 h; simp at this
      clear hbr
      go_wp2_with fail
      go_ret
      refine ⟨?_, hb12⟩
      refine congrArg (fun b => Ending.returned (Value.bool b)) ?_
      rw [Bool.eq_iff_iff, hg'.out]
      unfold preP
      rw [← hn.out]
      have hbare' := hbare.out
      have hin' := hin.out
      simp only [decide_eq_true_eq, Bool.false_eq_true, false_iff, beq_iff_eq] at *
      grind
  by_cases h5 : x.fKind = 5
  · rw [h5] at c0
    go_wp2_with (go_at_call 23; refine Shut.out ?b5)
    unfold Shut
    refine (bare_any _ _).mono ?_
    rintro e w2 ⟨rfl, hb2⟩
    dsimp only
    have hb12 := hb1.trans (hb2.mono hb1.size)
    obtain ⟨d0, d1, d2, d3, d4, d5, d6, d7⟩ := blk8 (hL.below hb2 hL.lt)
    clear hL c0 c1 c2 c3 c4 c5 c6 c7
    obtain ⟨br, hbr⟩ : ∃ b, b = decide (bareP x.fRec) := ⟨_, rfl⟩
    rw [← hbr]
    replace hbr : br = true ↔ bareP x.fRec := by rw [hbr]; simp
    replace hbr := Lib.hid hbr
    cases br with
    | true =>
      have hbb : bareP x.fRec := hbr.out.1 rfl
      clear hbr
      go_wp2_with fail
      all_goals (
        go_ret
        refine ⟨?_, hb12⟩
        refine congrArg (fun b => Ending.returned (Value.bool b)) ?_
        rw [Bool.eq_iff_iff, hg'.out]
        unfold preP
        rw [← hn.out]
        have hbare' := hbare.out
        have hin' := hin.out
        simp only [decide_eq_true_eq, Bool.false_eq_true, false_iff, beq_iff_eq] at *
        grind)
    | false =>
      have hbb : ¬ bareP x.fRec := fun h => by have := hbr.out.2 h; simp at this
      clear hbr
      go_wp2_with fail
      go_ret
      refine ⟨?_, hb12⟩
      refine congrArg (fun b => Ending.returned (Value.bool b)) ?_
      rw [Bool.eq_iff_iff, hg'.out]
      unfold preP
      rw [← hn.out]
      have hbare' := hbare.out
      have hin' := hin.out
      simp only [decide_eq_true_eq, Bool.false_eq_true, false_iff, beq_iff_eq] at *
      grind
  by_cases h1 : x.fKind = 1
  · rw [h1] at c0
    go_upto_region 6 with fail
    refine Code.wp_world ?_
    intro w2 hw2
    have hs1 := hb1.size
    have hb12 : Below w.heap.size w w2 := by rw [hw2]; exact hb1.alloc (by omega) _
    have hb2 : Below w1.heap.size w1 w2 := by rw [hw2]; exact below_alloc1 w1 _
    have hR : Blk w2 w1.heap.size #[.int .i64 x.fRec.fProducer, .int .i64 x.fRec.fSeq, .int .i64 x.fRec.fPart, .string x.fRec.fKey, .int .u32 x.fRec.fVal] 24 := by rw [hw2]; exact Blk.new _ _ _
    obtain ⟨d0, d1, d2, d3, d4, d5, d6, d7⟩ := blk8 (hL.below hb2 hL.lt)
    obtain ⟨r0, r1, r2, r3, r4⟩ := blk5 hR
    clear hw2 hR hL c0 c1 c2 c3 c4 c5 c6 c7
    go_wp2_with fail
    all_goals (
      go_ret
      refine ⟨?_, hb12⟩
      refine congrArg (fun b => Ending.returned (Value.bool b)) ?_
      rw [Bool.eq_iff_iff, hg'.out]
      unfold preP rngP
      rw [← hn.out]
      have hbare' := hbare.out
      have hin' := hin.out
      simp only [decide_eq_true_eq, Bool.false_eq_true, false_iff, beq_iff_eq] at *
      grind)
  have e0 : (x.fKind == 0) = false := by simpa using h0
  have e1 : (x.fKind == 1) = false := by simpa using h1
  have e2 : (x.fKind == 2) = false := by simpa using h2
  have e3 : (x.fKind == 3) = false := by simpa using hk3
  have e4 : (x.fKind == 4) = false := by simpa using h4
  have e5 : (x.fKind == 5) = false := by simpa using h5
  have hb12 := hb1
  go_wp2_with fail
  go_ret
  refine ⟨?_, hb12⟩
  refine congrArg (fun b => Ending.returned (Value.bool b)) ?_
  rw [Bool.eq_iff_iff, hg'.out]
  unfold preP
  rw [← hn.out]
  have hbare' := hbare.out
  have hin' := hin.out
  simp only [decide_eq_true_eq, Bool.false_eq_true, false_iff, beq_iff_eq] at *
  grind
set_option maxRecDepth 100000 in
set_option maxHeartbeats 2000000 in
theorem rgood_ops (x : TEntry) (ao : Option Addr) (cap : Nat) (w : World) (B : Nat) (hB : B ≤ w.heap.size) (hx : SlA B 7 (ROp B) w ao cap x.fGraph.fOps) (hk3 : x.fKind = 3) :
    Calls Try.prog 12 #[.agg (encE x ao cap)] w fun e w' => e = .returned (.bool (goodB x)) ∧ Below w.heap.size w w' := by
  unfold encE
  obtain ⟨g, hg⟩ : ∃ g, g = goodB x := ⟨_, rfl⟩
  have hg' : g = true ↔ preP x ∧ insP x ∧ rngP x.fRec := by rw [hg]; simp [goodB]
  rw [← hg]
  clear hg
  have hlen := hx.len
  obtain ⟨n, hn⟩ : ∃ n, n = x.fGraph.fOps.length := ⟨_, rfl⟩
  have hbare : bareP x.fRec → rngP x.fRec := by unfold bareP rngP; omega
  rw [← hn] at hlen ⊢
  replace hn := Lib.hid hn
  replace hg' := Lib.hid hg'
  replace hbare := Lib.hid hbare
  go_enter Try.func12, Try.ntmps12
  go_upto_region 1 with fail
  refine Code.wp_world ?_
  intro w1 hw1
  have hL : Blk w1 w.heap.size #[.int .i64 3, .int .i64 x.fRec.fProducer, .int .i64 x.fRec.fSeq, .int .i64 x.fRec.fPart, .string x.fRec.fKey, .int .u32 x.fRec.fVal, .slice ao n cap, .int .i64 x.fN] 29 := by rw [hw1]; exact Blk.new _ _ _
  have hb1 : Below w.heap.size w w1 := by rw [hw1]; exact below_alloc1 w _
  clear hw1
  obtain ⟨c0, c1, c2, c3, c4, c5, c6, c7⟩ := blk8 hL
  have hs1 := hb1.size
  go_wp2_with fail
  go_loopw [4] (fun x4 wr => ∃ k : Nat, k ≤ n ∧ x4 = .int .i64 k ∧ (∀ i (h : i < x.fGraph.fOps.length), i < k → x.fGraph.fOps[i].fIn.length ≤ 2) ∧ wr = w1) (fun x4 _ => n - (intOf x4).toNat)
  case atStart => exact ⟨0, Nat.zero_le _, rfl, fun i _ h => absurd h (by omega), rfl⟩
  case round =>
    obtain ⟨k, hk, rfl, hall, rfl⟩ := hrel
    by_cases hkn : k < n
    · have hkx : k < x.fGraph.fOps.length := by rw [← hn.out]; exact hkn
      obtain ⟨b, off, rfl, hb, _⟩ := hx.addr (by omega)
      obtain ⟨o, hxo⟩ : ∃ o, x.fGraph.fOps[k] = o := ⟨_, rfl⟩
      obtain ⟨ao1, cap1, e0, e1, e2, e3, e4, e5, e6, _⟩ := ROp.at (ops_imp hx (hb1.mono hB)) hkx hxo
      obtain ⟨m, hm⟩ : ∃ m, m = o.fIn.length := ⟨_, rfl⟩
      rw [← hm] at e1
      replace hxo := Lib.hid hxo
      replace hm := Lib.hid hm
      have hb3 : b < wr.heap.size := by omega
      replace hall := Lib.hid hall
      by_cases hm2 : 2 < m
      · go_wp2_with fail
        go_ret
        refine ⟨?_, hb1⟩
        have hgf : g = false := by
          have hni : ¬ insP x := fun hi => by
            have := hi _ (List.getElem_mem hkx)
            rw [hxo.out, ← hm.out] at this
            omega
          cases g with
          | false => rfl
          | true => exact absurd (hg'.out.1 rfl).2.1 hni
        rw [hgf]
        rfl
      · go_wp2_with fail
        go_roundw
        case rel =>
          refine ⟨k + 1, by omega, by go_num, fun i h hi => ?_, trivial⟩
          by_cases hik : i < k
          · exact hall.out i h hik
          · obtain rfl : i = k := by omega
            rw [hxo.out, ← hm.out]
            omega
        case measure => simp [intOf]; omega
    · obtain rfl : k = n := by omega
      have hins : insP x := by
        intro o ho
        obtain ⟨i, hi, rfl⟩ := List.mem_iff_getElem.1 ho
        exact hall i hi (by rw [hn.out]; exact hi)
      replace hall := Lib.hid hall
      replace hins := Lib.hid hins
      clear hx
      go_wp2_with (go_at_call 23; refine Shut.out ?b0)
      unfold Shut
      refine (bare_any _ _).mono ?_
      rintro e w2 ⟨rfl, hb2⟩
      dsimp only
      have hb12 := hb1.trans (hb2.mono hb1.size)
      obtain ⟨d0, d1, d2, d3, d4, d5, d6, d7⟩ := blk8 (hL.below hb2 hL.lt)
      clear hL c0 c1 c2 c3 c4 c5 c6 c7
      obtain ⟨br, hbr⟩ : ∃ b, b = decide (bareP x.fRec) := ⟨_, rfl⟩
      rw [← hbr]
      replace hbr : br = true ↔ bareP x.fRec := by rw [hbr]; simp
      replace hbr := Lib.hid hbr
      cases br with
      | true =>
        have hbb : bareP x.fRec := hbr.out.1 rfl
        clear hbr
        go_wp2_with fail
        all_goals (
          go_ret
          refine ⟨?_, hb12⟩
          refine congrArg (fun b => Ending.returned (Value.bool b)) ?_
          rw [Bool.eq_iff_iff, hg'.out]
          unfold preP
          rw [← hn.out]
          have hbare' := hbare.out
          have hin' := hins.out
          simp only [decide_eq_true_eq, Bool.false_eq_true, false_iff, beq_iff_eq] at *
          grind)
      | false =>
        have hbb : ¬ bareP x.fRec := fun h => by have := hbr.out.2 h; simp at this
        clear hbr
        go_wp2_with fail
        go_ret
        refine ⟨?_, hb12⟩
        refine congrArg (fun b => Ending.returned (Value.bool b)) ?_
        rw [Bool.eq_iff_iff, hg'.out]
        unfold preP
        rw [← hn.out]
        simp only [decide_eq_true_eq, Bool.false_eq_true, false_iff, beq_iff_eq] at *
        grind

theorem rgood_any (x : TEntry) (ao : Option Addr) (cap : Nat) (w : World) (B : Nat) (hB : B ≤ w.heap.size) (hx : SlA B 7 (ROp B) w ao cap x.fGraph.fOps) :
    Calls Try.prog 12 #[.agg (encE x ao cap)] w fun e w' => e = .returned (.bool (goodB x)) ∧ Below w.heap.size w w' := by
  by_cases hk3 : x.fKind = 3
  · exact rgood_ops x ao cap w B hB hx hk3
  · exact rgood_rest x ao cap w hx.len hk3
end Go.Proofs.Ytcigbobihkkdiaa
