/- Graph: the reference's Check. -/
import Derived.Test.YtmoengfpbgpnfaaGref
import Derived.Test.YtmoengfpbgpnfaaBaseA
import Derived.Deep.DeepCutAuto
namespace Go.Proofs.Ytmoengfpbgpnfaa
open Go.RowKit
set_option linter.unusedVariables false

def goodTo (x : TOp) (i k : Nat) : Bool := (x.fIn.take k).all fun v => decide (0 ≤ v ∧ v < i)
theorem goodTo_zero (x : TOp) (i : Nat) : goodTo x i 0 = true := by simp [goodTo]
theorem goodTo_succ (x : TOp) (i k : Nat) (h : k < x.fIn.length) : goodTo x i (k + 1) = (goodTo x i k && decide (0 ≤ x.fIn[k] ∧ x.fIn[k] < i)) := by
  unfold goodTo
  rw [List.take_succ_eq_append_getElem h, List.all_append]
  simp
theorem goodTo_all (x : TOp) (i : Nat) : goodTo x i x.fIn.length = insB x i := by simp [goodTo, insB]

/-- The three tests ahead of the inputs. -/
def preB (x : TOp) (i n : Nat) : Bool := formB x && decide (x.fIn.length = wantN x.fKind) && decide ((i + 1 = n) ↔ (x.fKind = 8))

set_option maxHeartbeats 4000000 in
theorem rcheck_any (ops : List TOp) (cap : Nat) (ao : Option Addr) (w : World) (B : Nat) (hB : B ≤ w.heap.size) (hx : SlA B 7 (ROp B) w ao cap ops) (h1 : 1 ≤ ops.length) (h2 : ops.length ≤ 16)
    (m : Nat) (hm : m ≤ ops.length) (hbad : ∀ h : m < ops.length, okB ops[m] m ops.length = false) (hgood : ∀ k (h : k < ops.length), k < m → okB ops[k] k ops.length = true) :
    Calls Try.prog 9 #[.agg #[.slice ao ops.length cap]] w fun e w' => e = .returned (if m < ops.length then .tuple #[.int .i64 m, .int .i64 13] else .tuple #[.int .i64 0, .int .i64 0]) ∧ Below w.heap.size w w' := by
  obtain ⟨b, off, rfl, hb, _⟩ := hx.addr (by omega)
  obtain ⟨len, hlen'⟩ : ∃ len, len = ops.length := ⟨_, rfl⟩
  have Hm := Lib.hid hlen'
  have hb2 : b < w.heap.size := by omega
  rw [← hlen'] at h1 h2 ⊢
  clear hlen'
  go_enter Try.func9, Try.ntmps9
  go_wp2_with fail
  go_loopw [5] (fun k wr => ∃ kk : Nat, kk ≤ m ∧ k = .int .i64 kk ∧ wr.cell? ⟨w.heap.size, 0, none⟩ = some (.slice (some ⟨b, off, none⟩) len cap) ∧ w.heap.size < wr.heap.size ∧ Below w.heap.size w wr) (fun k _ => m + 1 - (intOf k).toNat)
  case atStart => exact ⟨0, by omega, rfl, by simp, by simp, (Below.refl _ _).alloc (Nat.le_refl _) _⟩
  case round =>
    obtain ⟨kk, hk, rfl, hc0, hsz, hbel⟩ := hrel
    by_cases hkl : kk < len
    · have hkx : kk < ops.length := by rw [← Hm.out]; exact hkl
      obtain ⟨x, hxx⟩ : ∃ x, ops[kk] = x := ⟨_, rfl⟩
      obtain ⟨ao1, cap1, e0, e1, e2, e3, e4, e5, e6, _, hin, _⟩ := ROp.at (imp_ops hx (hbel.mono hB)) hkx hxx
      replace hxx := Lib.hid hxx
      have hb3 : b < wr.heap.size := by omega
      have hmx := hin.len
      obtain ⟨il, hil⟩ : ∃ il, il = x.fIn.length := ⟨_, rfl⟩
      rw [← hil] at e1 hmx
      replace hil := Lib.hid hil
      go_upto_region 8 with fail
      have hb1 : Below w.heap.size w (wr.alloc (.cells #[.int .i64 x.fKind, .slice ao1 il cap1, .int .i64 x.fArg, .int .u32 x.fNum, .int .i64 x.fRounds, .int .i64 x.fTest, .int .u32 x.fLim] 49)) := hbel.alloc (by omega) _
      have hB1 : Blk (wr.alloc (.cells #[.int .i64 x.fKind, .slice ao1 il cap1, .int .i64 x.fArg, .int .u32 x.fNum, .int .i64 x.fRounds, .int .i64 x.fTest, .int .u32 x.fLim] 49)) wr.heap.size #[.int .i64 x.fKind, .slice ao1 il cap1, .int .i64 x.fArg, .int .u32 x.fNum, .int .i64 x.fRounds, .int .i64 x.fTest, .int .u32 x.fLim] 49 := Blk.new _ _ _
      have hin1 := imp_in hin ((Below.refl B wr).alloc (by omega) (.cells #[.int .i64 x.fKind, .slice ao1 il cap1, .int .i64 x.fArg, .int .u32 x.fNum, .int .i64 x.fRounds, .int .i64 x.fTest, .int .u32 x.fLim] 49))
      have hc1 : (wr.alloc (.cells #[.int .i64 x.fKind, .slice ao1 il cap1, .int .i64 x.fArg, .int .u32 x.fNum, .int .i64 x.fRounds, .int .i64 x.fTest, .int .u32 x.fLim] 49)).cell? ⟨w.heap.size, 0, none⟩ = some (.slice (some ⟨b, off, none⟩) len cap) := by rw [World.cell?_alloc_lt _ _ _ hsz]; exact hc0
      have hs1 : wr.heap.size < (wr.alloc (.cells #[.int .i64 x.fKind, .slice ao1 il cap1, .int .i64 x.fArg, .int .u32 x.fNum, .int .i64 x.fRounds, .int .i64 x.fTest, .int .u32 x.fLim] 49)).heap.size := by simp
      obtain ⟨w1, hw1⟩ : ∃ w1, w1 = wr.alloc (.cells #[.int .i64 x.fKind, .slice ao1 il cap1, .int .i64 x.fArg, .int .u32 x.fNum, .int .i64 x.fRounds, .int .i64 x.fTest, .int .u32 x.fLim] 49) := ⟨_, rfl⟩
      rw [← hw1] at hb1 hB1 hin1 hc1 hs1 ⊢
      clear hw1 hc0 hbel hin e0 e1 e2 e3 e4 e5 e6
      obtain ⟨ob, hob⟩ : ∃ ob, ob = wr.heap.size := ⟨_, rfl⟩
      rw [← hob] at hB1 hs1 ⊢
      clear hob hsz
      obtain ⟨pb, hpb⟩ : ∃ pb, pb = preB x kk len := ⟨_, rfl⟩
      go_cut [7] (fun s wx => s = .bool pb ∧ Below w1.heap.size w1 wx)
      case first =>
        have q0 := Wd.cell (hB1.cellAt (i := 0) rfl) hs1
        have q1 := Wd.cell (hB1.cellAt (i := 1) rfl) hs1
        have q2 := Wd.cell (hB1.cellAt (i := 2) rfl) hs1
        have q3 := Wd.cell (hB1.cellAt (i := 3) rfl) hs1
        have q4 := Wd.cell (hB1.cellAt (i := 4) rfl) hs1
        have q5 := Wd.cell (hB1.cellAt (i := 5) rfl) hs1
        have q6 := Wd.cell (hB1.cellAt (i := 6) rfl) hs1
        have hform := fun w => form_any x il cap1 ao1 w
        clear hB1 hx hin1 hb1 hbad hgood
        cases hf : formB x with
        | false =>
          obtain rfl : pb = false := by rw [hpb]; simp [preB, hf]
          rw [hf] at hform
          clear hf hpb
          refine wp_region_below (by kernel_rfl) (by kernel_rfl) ?_
          repeat (go_big_quiet_step ((go_at_call 19; exact Calls.quiet_below (hform _))))
          refine wpQuiet_nil ?_
          rintro _ ⟨u, rfl⟩
          go_wp2_with fail
          go_meet
          exact ⟨rfl, u.h⟩
        | true =>
          rw [hf] at hform
          by_cases hl : il = wantN x.fKind
          · have hl' : ((il : Int) == (wantN x.fKind : Nat)) = true := by simp; omega
            by_cases hs : kk + 1 = len ↔ x.fKind = 8
            · obtain ⟨sb, hsb1, hsb2⟩ := sink_bools hs
              obtain rfl : pb = true := by rw [hpb]; simp [preB, hf, hs, ← hil.out, hl]
              clear hf hpb hl hs
              cases sb
              all_goals
                refine wp_region_below (by kernel_rfl) (by kernel_rfl) ?_
                repeat (go_big_quiet_step (first | (go_at_call 19; exact Calls.quiet_below (hform _)) | (go_at_call 20; exact Calls.quiet_below_same (want_any _ _))))
                refine wpQuiet_nil ?_
                rintro _ ⟨u, rfl⟩
                go_wp2_with fail
                go_meet
                exact ⟨rfl, u.h⟩
            · obtain rfl : pb = false := by rw [hpb]; simp [preB, hs]
              obtain ⟨sb, hsb1, hsb2⟩ : ∃ sb, (x.fKind == 8) = sb ∧ ((kk : Int) == (len : Int) - 1) = !sb := by
                by_cases hk8 : x.fKind = 8
                · exact ⟨true, by simpa using hk8, by simp; omega⟩
                · exact ⟨false, by simpa using hk8, by simp; omega⟩
              clear hf hpb hl hs
              cases sb
              all_goals
                simp only [Bool.not_true, Bool.not_false] at hsb2
                refine wp_region_below (by kernel_rfl) (by kernel_rfl) ?_
                repeat (go_big_quiet_step (first | (go_at_call 19; exact Calls.quiet_below (hform _)) | (go_at_call 20; exact Calls.quiet_below_same (want_any _ _))))
                refine wpQuiet_nil ?_
                rintro _ ⟨u, rfl⟩
                go_wp2_with fail
                go_meet
                exact ⟨rfl, u.h⟩
          · have hl' : ((il : Int) == (wantN x.fKind : Nat)) = false := by simp; omega
            obtain rfl : pb = false := by rw [hpb]; simp [preB, ← hil.out, hl]
            clear hf hpb hl
            refine wp_region_below (by kernel_rfl) (by kernel_rfl) ?_
            repeat (go_big_quiet_step (first | (go_at_call 19; exact Calls.quiet_below (hform _)) | (go_at_call 20; exact Calls.quiet_below_same (want_any _ _))))
            refine wpQuiet_nil ?_
            rintro _ ⟨u, rfl⟩
            go_wp2_with fail
            go_meet
            exact ⟨rfl, u.h⟩
      case rest =>
        obtain ⟨rfl, hbc⟩ := hcut
        have hin2 := imp_in hin1 (hbc.mono (by have := hb1.size; omega))
        have hBc := hB1.below hbc hs1
        have p0 := hBc.cellAt (i := 0) rfl
        have p1 := hBc.cellAt (i := 1) rfl
        have hbw := hb1.trans (hbc.mono hb1.size)
        have hcc : wc.cell? ⟨w.heap.size, 0, none⟩ = some (.slice (some ⟨b, off, none⟩) len cap) := by
          rw [hbc.cell (p := ⟨w.heap.size, 0, none⟩) (World.lt_of_cell hc1)]
          exact hc1
        have hsc : w.heap.size < wc.heap.size := World.lt_of_cell hcc
        clear hc1 hs1 hbc hin1 hb1 hB1
        obtain ⟨gk, hgk⟩ : ∃ gk, gk = (pb && insB x kk) := ⟨_, rfl⟩
        have hok : okB x kk len = gk := by
          rw [hgk, hpb]
          rfl
        replace hpb := Lib.hid hpb
        replace hgk := Lib.hid hgk
        go_wp2_with fail
        go_loop [7, 8] (fun o k => ∃ j : Nat, j ≤ il ∧ k = .int .i64 j ∧ o = .bool (pb && goodTo x kk j)) (fun _ k => il - (intOf k).toNat)
        case atStart => exact ⟨0, by omega, rfl, by rw [goodTo_zero]; simp⟩
        case round =>
          obtain ⟨j, hj, rfl, rfl⟩ := hrel
          by_cases hjl : j < il
          · have hjx : j < x.fIn.length := by rw [← hil.out]; exact hjl
            obtain ⟨b2, off2, rfl, hb4, hcs⟩ := hin2.addr (by omega)
            obtain ⟨cs, _, hcell, hv, _⟩ := hcs j hjx
            have hcj := hcell 0 (by omega)
            rw [hv, Nat.mul_one, Nat.add_zero] at hcj
            have hsucc := goodTo_succ x kk j hjx
            obtain ⟨v, hv⟩ : ∃ v, v = x.fIn[j] := ⟨_, rfl⟩
            rw [← hv] at hcj hsucc
            replace hcj : wc.cell? ⟨b2, off2 + j, none⟩ = some (.int .i64 v) := hcj
            clear hv hcs hcell
            obtain ⟨g, hg⟩ : ∃ g, g = (pb && goodTo x kk j) := ⟨_, rfl⟩
            rw [← hg]
            have hnew : (pb && goodTo x kk (j + 1)) = (g && decide (0 ≤ v ∧ v < (kk : Int))) := by rw [hsucc, hg, Bool.and_assoc]
            replace hnew := Lib.hid hnew
            clear hg hsucc hbad hgood hok hx
            cases g with
            | false =>
              go_wp2_with fail
              go_round
              case rel => exact ⟨j + 1, by omega, by go_num, by rw [hnew.out]; rfl⟩
              case measure => simp [intOf]; omega
            | true =>
              by_cases hv0 : 0 ≤ v
              · have e0 : decide (0 ≤ v) = true := by simpa using hv0
                go_wp2_with fail
                go_round
                case rel => exact ⟨j + 1, by omega, by go_num, by rw [hnew.out]; simp [hv0]⟩
                case measure => simp [intOf]; omega
              · have e0 : decide (0 ≤ v) = false := by simpa using hv0
                go_wp2_with fail
                go_round
                case rel => exact ⟨j + 1, by omega, by go_num, by rw [hnew.out]; simp [hv0]⟩
                case measure => simp [intOf]; omega
          · obtain rfl : j = il := by omega
            have hg2 : (pb && goodTo x kk j) = gk := by rw [hgk.out, hil.out, goodTo_all]
            rw [hg2]
            clear hg2 hjl
            by_cases hkm : kk = m
            · have hok2 : okB x kk len = false := by
                rw [← hxx.out, Hm.out]
                subst hkm
                exact hbad hkx
              obtain rfl : gk = false := hok.symm.trans hok2
              clear hok hok2 hbad hgood hx
              subst hkm
              go_wp2_with fail
              go_ret2
              exact ⟨rfl, hbw⟩
            · have hok2 : okB x kk len = true := by
                rw [← hxx.out, Hm.out]
                exact hgood kk hkx (by omega)
              obtain rfl : gk = true := hok.symm.trans hok2
              clear hok hok2
              go_wp2_with fail
              go_roundw
              case rel => exact ⟨kk + 1, by omega, by go_num, hcc, hsc, hbw⟩
              case measure => simp [intOf]; omega
    · obtain rfl : kk = m := by have := Hm.out; omega
      go_wp2_with fail
      go_ret2
      exact ⟨rfl, hbel⟩
end Go.Proofs.Ytmoengfpbgpnfaa
