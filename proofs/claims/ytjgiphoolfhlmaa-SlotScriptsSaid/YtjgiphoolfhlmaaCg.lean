/- Frames: plain law; the program's and the document's four bytes. -/
import Derived.Test.YtjgiphoolfhlmaaCe
import Derived.Test.YtjgiphoolfhlmaaDd
namespace Go.Proofs.Ytjgiphoolfhlmaa
open Go.RowKit
attribute [local go_sem] Oper.semAt_some
set_option linter.unusedVariables false
set_option linter.unusedSimpArgs false

def b8 (n : Nat) : UInt8 := UInt8.ofNat n
theorem b8_nat (n : Nat) : (b8 n).toNat = n % 256 := UInt8.toNat_ofNat'
/-- A number's bytes, the lowest first. -/
def fourC (n : Nat) : List UInt8 := [b8 n, b8 (n / 256), b8 (n / 65536), b8 (n / 16777216)]
theorem fourC_len (n : Nat) : (fourC n).length = 4 := rfl
/-- A payload as a frame. -/
def frameC (p : List UInt8) : List UInt8 := fourC p.length ++ fourC (sumC (fourC p.length)) ++ p ++ fourC (sumC p)
theorem frameC_len (p : List UInt8) : (frameC p).length = p.length + 12 := by
  unfold frameC
  simp only [List.length_append, fourC_len]
  omega
def numC (b : List UInt8) : Nat := (b.getD 0 0).toNat + 256 * (b.getD 1 0).toNat + 65536 * (b.getD 2 0).toNat + 16777216 * (b.getD 3 0).toNat
theorem numC_four {n : Nat} (h : n < 4294967296) (r : List UInt8) : numC (fourC n ++ r) = n := by
  unfold numC fourC
  simp [b8_nat]
  omega

set_option maxRecDepth 100000 in
set_option maxHeartbeats 2000000 in
theorem four_any (n : Nat) (hn : n < 4294967296) (w : World) :
    Calls Try.prog 37 #[.int .u32 n] w fun e w' => ∃ v, e = .returned v ∧ OwnL encU w' w.heap.size 5 1 v (fourC n) ∧ Below w.heap.size w w' := by
  have e1 : (n : Int) % 256 = ((b8 n).toNat : Int) := by rw [b8_nat]; omega
  have e2 : (n : Int) / 256 % 256 = ((b8 (n / 256)).toNat : Int) := by rw [b8_nat]; omega
  have e3 : (n : Int) / 65536 % 256 = ((b8 (n / 65536)).toNat : Int) := by rw [b8_nat]; omega
  have e4 : (n : Int) / 16777216 = ((b8 (n / 16777216)).toNat : Int) := by rw [b8_nat]; omega
  have hcs : (#[.int .u8 ((n : Int) % 256), .int .u8 ((n : Int) / 256 % 256), .int .u8 ((n : Int) / 65536 % 256), .int .u8 ((n : Int) / 16777216)] : Array Value) = ((fourC n).flatMap encU).toArray := by rw [e1, e2, e3, e4]; rfl
  have hfin : OwnL encU (w.alloc (.cells #[.int .u8 ((n : Int) % 256), .int .u8 ((n : Int) / 256 % 256), .int .u8 ((n : Int) / 65536 % 256), .int .u8 ((n : Int) / 16777216)] 5)) w.heap.size 5 1 (.slice (some ⟨w.heap.size, 0, none⟩) 4 4) (fourC n) := by
    rw [hcs]
    exact ownBlk (enc := encU) (xs := fourC n) (cap := 4) (size := 1) (Blk.new w _ _) (Nat.le_refl _) (Nat.le_refl 4) (by unfold maxLen; omega) rfl rfl rfl
  have hb := belowAlloc w (.cells #[.int .u8 ((n : Int) % 256), .int .u8 ((n : Int) / 256 % 256), .int .u8 ((n : Int) / 65536 % 256), .int .u8 ((n : Int) / 16777216)] 5)
  replace hfin := Lib.hid hfin
  replace hb := Lib.hid hb
  clear e1 e2 e3 e4 hcs
  go_enter Try.func37, Try.ntmps37
  go_wp2_with fail
  go_ret
  exact ⟨_, rfl, hfin.out, hb.out⟩

theorem fourC_take (n : Nat) {i : Nat} (hi : i < 4) : (fourC n).take (i + 1) = (fourC n).take i ++ [b8 (n / 256 ^ i)] := by
  unfold fourC
  rcases (by omega : i = 0 ∨ i = 1 ∨ i = 2 ∨ i = 3) with rfl | rfl | rfl | rfl
  · simp
  · simp
  · simp
  · simp
set_option maxRecDepth 100000 in
set_option maxHeartbeats 2000000 in
theorem rfour_any (n : Nat) (hn : n < 4294967296) (w : World) :
    Calls Try.prog 53 #[.int .u32 n] w fun e w' => ∃ v, e = .returned v ∧ OwnL encU w' w.heap.size 5 1 v (fourC n) ∧ Below w.heap.size w w' := by
  obtain ⟨iu, hiu, hu0, hu1, hu2⟩ := partsU
  obtain ⟨F, hF⟩ : ∃ F, F = fourC n := ⟨_, rfl⟩
  rw [← hF]
  replace hF := Lib.hid hF
  go_enter Try.func53, Try.ntmps53
  go_wp2_with fail
  go_loopw [0, 3, 4] (fun x0 x3 x4 wr => ∃ (i m : Nat), i ≤ 4 ∧ x4 = .int .i64 i ∧ x0 = .int .u32 (m : Nat) ∧ m < 4294967296 ∧ Hid (m = n / 256 ^ i) ∧ OwnL encU wr w.heap.size 5 1 x3 (F.take i) ∧ Below w.heap.size w wr) (fun _ _ x4 _ => 4 - (intOf x4).toNat)
  case atStart => exact ⟨0, n, by omega, rfl, rfl, hn, Lib.hid (by simp), OwnL.nil _ _ _ _ _, Below.refl _ _⟩
  case round =>
    obtain ⟨i, m, hi, rfl, rfl, hm32, hm, hO, hbr⟩ := hrel
    by_cases hlt : i < 4
    · have d1 : decide ((i : Int) < 4) = true := by simp; omega
      have htk : F.take (i + 1) = F.take i ++ [b8 m] := by rw [hF.out, hm.out]; exact fourC_take n hlt
      have hl : (F.take i).length = i := by rw [hF.out, List.length_take, fourC_len]; omega
      obtain ⟨a5, c5, hv5, _, _, _⟩ := hO.slice
      rw [hl] at hv5
      subst hv5
      have e1 : (m : Int) % 256 = ((b8 m).toNat : Int) := by rw [b8_nat]; omega
      have e2 : (m : Int) / 256 = ((m / 256 : Nat) : Int) := by omega
      have hm2 : Hid (m / 256 = n / 256 ^ (i + 1)) := Lib.hid (by rw [hm.out, Nat.div_div_eq_div_mul, Nat.pow_succ])
      have hm3 : m / 256 < 4294967296 := by omega
      obtain ⟨b, hb⟩ : ∃ b, b = b8 m := ⟨_, rfl⟩
      rw [← hb] at e1 htk
      obtain ⟨m2, hm2e⟩ : ∃ m2, m2 = m / 256 := ⟨_, rfl⟩
      rw [← hm2e] at e2 hm2 hm3
      have hwr := hbr.size
      replace htk := Lib.hid htk
      replace hl := Lib.hid hl
      replace hb := Lib.hid hb
      replace hm2e := Lib.hid hm2e
      clear hm
      go_wp2_with (at_builtin; refine Shut.out ?kk1)
      unfold Shut
      change wpList _ _ _ _ _ (World.alloc _ (.cells (encU b).toArray 5))
      refine wpList_app1g rfl _ _ 44 rfl Try.underlying44 hiu hu0 hu1 hu2 rfl (by decide) (enc := encU) b rfl hO (by first | rfl | (show Value.slice _ _ _ = _; rfl)) (encU_len _) (encU_one _) (by have := hl.out; omega) (by have := hl.out; unfold maxLen; omega) hwr (fun g3 cap3 w3 hO3 hgr3 => ?_)
      rw [hl.out] at hO3 hgr3 ⊢
      rw [← htk.out] at hO3
      have hb3 : Below w.heap.size w w3 := hbr.trans (hgr3.below hwr (fun k hk => (hO.lt k hk).1))
      clear hgr3 hO
      go_wp2_with fail
      go_roundw
      case rel => exact ⟨i + 1, m2, by omega, by go_num, rfl, hm3, hm2, hO3, hb3⟩
      case measure => simp [intOf]; omega
    · obtain rfl : i = 4 := by omega
      rw [show F.take 4 = F by rw [hF.out]; rfl] at hO
      obtain ⟨a5, c5, hv5, _, _, _⟩ := hO.slice
      rw [show F.length = 4 by rw [hF.out]; rfl] at hv5
      subst hv5
      go_wp2_with fail
      go_ret
      exact ⟨_, rfl, hO, hbr⟩
end Go.Proofs.Ytjgiphoolfhlmaa

/- Frames: the program's and the document's Put. -/
namespace Go.Proofs.Ytjgiphoolfhlmaa
open Go.RowKit
attribute [local go_sem] Oper.semAt_some
set_option linter.unusedVariables false
set_option linter.unusedSimpArgs false

theorem rdsOwn {w : World} {base : Nat} {v : Value} {bs : List UInt8} (h : OwnL encU w base 5 1 v bs) : ∃ ao cap, v = .slice ao bs.length cap ∧ SlA w.heap.size 1 EU w ao cap bs := (FileAt.own h).sla

set_option maxRecDepth 100000 in
set_option maxHeartbeats 4000000 in
theorem fput_any (ao : Option Addr) (cap : Nat) (p : List UInt8) (w : World) (hd : SlA w.heap.size 1 EU w ao cap p) (hl : p.length ≤ 65536) :
    Calls Try.prog 23 #[.slice ao p.length cap] w fun e w' => ∃ v, e = .returned (.tuple #[v, .int .i64 0]) ∧ OwnL encU w' w.heap.size 5 1 v (frameC p) ∧ Below w.heap.size w w' := by
  obtain ⟨iu, hiu, hu0, hu1, hu2⟩ := partsU
  have hfo := four_any p.length (by omega)
  obtain ⟨n, hn⟩ : ∃ n, n = p.length := ⟨_, rfl⟩
  obtain ⟨F, hF⟩ : ∃ F, F = frameC p := ⟨_, rfl⟩
  rw [← hn] at hl hfo ⊢
  rw [← hF]
  have d1 : decide ((65536 : Int) < (n : Int)) = false := by simp; omega
  replace hn := Lib.hid hn
  replace hF := Lib.hid hF
  replace hfo := Lib.hid hfo
  go_enter Try.func23, Try.ntmps23
  go_wp2_with fail
  refine (hfo.out w).mono ?_
  rintro e w1 ⟨v1, rfl, hO1, hb1⟩
  dsimp only
  obtain ⟨a1, c1, rfl, hs1⟩ := rdsOwn hO1
  have hsum1 := sum_any a1 c1 (fourC n) w1 hs1
  change Calls Try.prog 38 #[.slice a1 4 c1] w1 _ at hsum1
  rw [show (fourC n).length = 4 from rfl]
  obtain ⟨s1, hs1e⟩ : ∃ s1, s1 = sumC (fourC n) := ⟨_, rfl⟩
  have hs132 : s1 < 4294967296 := by rw [hs1e]; exact sumC_lt _
  rw [← hs1e] at hsum1
  replace hs1e := Lib.hid hs1e
  replace hsum1 := Lib.hid hsum1
  go_wp2_with fail
  refine hsum1.out.mono ?_
  rintro e w2 ⟨rfl, hb2d⟩
  have hb2 : Below w.heap.size w w2 := hb1.trans (hb2d.mono hb1.size)
  have hO2 := hO1.below hb2d (Nat.le_refl _)
  have hfo2 := four_any s1 hs132 w2
  replace hfo2 := Lib.hid hfo2
  clear hsum1 hfo
  dsimp only
  go_wp2_with fail
  refine hfo2.out.mono ?_
  rintro e w3 ⟨v3, rfl, hO3, hb3d⟩
  have hb3 : Below w.heap.size w w3 := hb2.trans (hb3d.mono hb2.size)
  have hO2' := hO2.below hb3d (Nat.le_refl _)
  obtain ⟨a3, c3, rfl, hs3⟩ := rdsOwn hO3
  rw [show (fourC s1).length = 4 from rfl]
  clear hfo2 hO2 hO1 hs1
  dsimp only
  go_wp2_with (at_builtin; refine Shut.out ?ka)
  unfold Shut
  refine wpList_app_sla _ rfl _ _ 44 rfl Try.underlying44 hiu hu0 hu1 hu2 rfl (by decide) (enc := encU) rfl hO2' rfl hs3 encU_len encU_one (by simp only [fourC_len]; unfold maxLen; omega) (by simp only [fourC_len]; omega) hb3.size ?_
  intro v4 w4 hO4 hg4
  have hb4 : Below w.heap.size w w4 := hb3.grown hg4 hb3.size (fun k hk => (hO2'.lt k hk).1)
  have hd4 : SlA w.heap.size 1 EU w4 ao cap p := hd.imp hb4 (Nat.le_refl _) (fun cs x _ h => h)
  have hl4 : (fourC n ++ fourC s1).length = 8 := rfl
  clear hO2' hO3 hs3 hg4
  go_wp2_with (at_builtin; refine Shut.out ?kb)
  unfold Shut
  refine wpList_app_sla _ rfl _ _ 44 rfl Try.underlying44 hiu hu0 hu1 hu2 rfl (by decide) (enc := encU) rfl hO4 (by show Value.slice ao n cap = _; rw [hn.out]) hd4 encU_len encU_one (by rw [hl4, ← hn.out]; unfold maxLen; omega) (by rw [hl4, ← hn.out]; omega) hb4.size ?_
  intro v5 w5 hO5 hg5
  have hb5 : Below w.heap.size w w5 := hb4.grown hg5 hb4.size (fun k hk => (hO4.lt k hk).1)
  have hd5 : SlA w5.heap.size 1 EU w5 ao cap p := hd.imp hb5 hb5.size (fun cs x _ h => h)
  have hsum5 := sum_any ao cap p w5 hd5
  rw [← hn.out] at hsum5
  obtain ⟨s5, hs5e⟩ : ∃ s5, s5 = sumC p := ⟨_, rfl⟩
  have hs532 : s5 < 4294967296 := by rw [hs5e]; exact sumC_lt _
  rw [← hs5e] at hsum5
  have hl5 : (fourC n ++ fourC s1 ++ p).length = n + 8 := by rw [List.length_append, hl4, ← hn.out]; omega
  replace hs5e := Lib.hid hs5e
  replace hsum5 := Lib.hid hsum5
  replace hl5 := Lib.hid hl5
  clear hO4 hg5 hd4 hl4 hb4 hd hd5
  go_wp2_with fail
  refine hsum5.out.mono ?_
  rintro e w6 ⟨rfl, hb6d⟩
  have hb6 : Below w.heap.size w w6 := hb5.trans (hb6d.mono hb5.size)
  have hO6 := hO5.below hb6d (Nat.le_refl _)
  have hfo6 := four_any s5 hs532 w6
  replace hfo6 := Lib.hid hfo6
  clear hsum5 hO5
  dsimp only
  go_wp2_with fail
  refine hfo6.out.mono ?_
  rintro e w7 ⟨v7, rfl, hO7, hb7d⟩
  have hb7 : Below w.heap.size w w7 := hb6.trans (hb7d.mono hb6.size)
  have hO6' := hO6.below hb7d (Nat.le_refl _)
  obtain ⟨a7, c7, rfl, hs7⟩ := rdsOwn hO7
  rw [show (fourC s5).length = 4 from rfl]
  clear hfo6 hO6
  dsimp only
  go_wp2_with (at_builtin; refine Shut.out ?kc)
  unfold Shut
  refine wpList_app_sla _ rfl _ _ 44 rfl Try.underlying44 hiu hu0 hu1 hu2 rfl (by decide) (enc := encU) rfl hO6' rfl hs7 encU_len encU_one (by rw [hl5.out, fourC_len]; unfold maxLen; omega) (by rw [hl5.out, fourC_len]; omega) hb7.size ?_
  intro v8 w8 hO8 hg8
  have hb8 : Below w.heap.size w w8 := hb7.grown hg8 hb7.size (fun k hk => (hO6'.lt k hk).1)
  have hfin : fourC n ++ fourC s1 ++ p ++ fourC s5 = F := by rw [hF.out, hs5e.out, hs1e.out, hn.out]; rfl
  rw [hfin] at hO8
  clear hO6' hO7 hs7 hg8 hfin
  go_wp2_with fail
  go_ret2
  exact ⟨_, rfl, hO8, hb8⟩

set_option maxRecDepth 100000 in
set_option maxHeartbeats 4000000 in
theorem rput_any (ao : Option Addr) (cap : Nat) (p : List UInt8) (w : World) (hd : SlA w.heap.size 1 EU w ao cap p) (hl : p.length ≤ 65536) :
    Calls Try.prog 33 #[.slice ao p.length cap] w fun e w' => ∃ v, e = .returned (.tuple #[v, .int .i64 0]) ∧ OwnL encU w' w.heap.size 5 1 v (frameC p) ∧ Below w.heap.size w w' := by
  obtain ⟨iu, hiu, hu0, hu1, hu2⟩ := partsU
  have hfo := rfour_any p.length (by omega)
  have hre := fun wy (hy : Below w.heap.size w wy) => rextend_any ao cap p wy (hd.imp hy (Nat.le_refl _) (fun cs x _ h => h))
  obtain ⟨n, hn⟩ : ∃ n, n = p.length := ⟨_, rfl⟩
  obtain ⟨F, hF⟩ : ∃ F, F = frameC p := ⟨_, rfl⟩
  obtain ⟨s5, hs5e⟩ : ∃ s5, s5 = sumC p := ⟨_, rfl⟩
  have hs532 : s5 < 4294967296 := by rw [hs5e]; exact sumC_lt _
  rw [← hn] at hl hfo hre ⊢
  rw [← hs5e] at hre
  rw [← hF]
  have d1 : decide ((65536 : Int) < (n : Int)) = false := by simp; omega
  replace hn := Lib.hid hn
  replace hF := Lib.hid hF
  replace hfo := Lib.hid hfo
  replace hre := Lib.hid hre
  replace hs5e := Lib.hid hs5e
  go_enter Try.func33, Try.ntmps33
  go_wp2_with fail
  refine (hfo.out w).mono ?_
  rintro e w1 ⟨v1, rfl, hO1, hb1⟩
  dsimp only
  obtain ⟨a1, c1, rfl, hs1⟩ := rdsOwn hO1
  rw [show (fourC n).length = 4 from rfl]
  have hw1 := hb1.size
  have hOe : OwnL encU (w1.alloc (.cells #[] 5)) w.heap.size 5 1 (.slice (some ⟨w1.heap.size, 0, none⟩) 0 0) [] := (ownEmpty w1 1 5).base_le hw1
  have hse : SlA w1.heap.size 1 EU (w1.alloc (.cells #[] 5)) a1 c1 (fourC n) := hs1.imp (belowAlloc _ _) (Nat.le_refl _) (fun cs x _ h => h)
  have hbe : Below w.heap.size w (w1.alloc (.cells #[] 5)) := hb1.alloc hw1 _
  replace hOe := Lib.hid hOe
  replace hse := Lib.hid hse
  replace hbe := Lib.hid hbe
  clear hfo
  go_wp2_with (at_builtin; refine Shut.out ?ka)
  unfold Shut
  refine wpList_app_sla _ rfl _ _ 44 rfl Try.underlying44 hiu hu0 hu1 hu2 rfl (by decide) (enc := encU) rfl hOe.out rfl hse.out encU_len encU_one (by simp only [fourC_len, List.length_nil]; unfold maxLen; omega) (by simp only [fourC_len, List.length_nil]; omega) hbe.out.size ?_
  intro v2 w2 hO2 hg2
  rw [List.nil_append] at hO2
  have hb2 : Below w.heap.size w w2 := hbe.out.grown hg2 hbe.out.size (fun k hk => (hOe.out.lt k hk).1)
  have hb12 : Below w1.heap.size w1 w2 := (belowAlloc w1 _).grown hg2 (Nat.le_of_lt (by simp)) (fun k hk => by
    have hk' : w1.heap.size = k := by simpa [Act.eval, Value.ownBlock] using hk
    omega)
  have hs12 := hs1.imp hb12 hb12.size (fun cs x _ h => h) (E' := EU)
  have hsum1 := rextend_any a1 c1 (fourC n) w2 hs12
  change Calls Try.prog 54 #[.int .u32 0, .slice a1 4 c1] w2 _ at hsum1
  obtain ⟨s1, hs1e⟩ : ∃ s1, s1 = sumC (fourC n) := ⟨_, rfl⟩
  have hs132 : s1 < 4294967296 := by rw [hs1e]; exact sumC_lt _
  rw [← hs1e] at hsum1
  have hfo2 := rfour_any s1 hs132 w2
  replace hs1e := Lib.hid hs1e
  replace hsum1 := Lib.hid hsum1
  replace hfo2 := Lib.hid hfo2
  clear hOe hse hbe hg2 hs1 hs12 hO1
  go_wp2_with fail
  refine hsum1.out.mono ?_
  rintro e w9 ⟨rfl, hw9⟩
  obtain ⟨w8, hw8⟩ : ∃ w8, w8 = w9 := ⟨_, rfl⟩
  rw [← hw8] at hw9 ⊢
  obtain rfl : w2 = w8 := hw9.symm
  clear hw8 hw9 hsum1
  dsimp only
  go_wp2_with fail
  refine hfo2.out.mono ?_
  rintro e w3 ⟨v3, rfl, hO3, hb3d⟩
  have hb3 : Below w.heap.size w w3 := hb2.trans (hb3d.mono hb2.size)
  have hO2' := hO2.below hb3d (Nat.le_refl _)
  obtain ⟨a3, c3, rfl, hs3⟩ := rdsOwn hO3
  rw [show (fourC s1).length = 4 from rfl]
  clear hfo2 hO2
  dsimp only
  go_wp2_with (at_builtin; refine Shut.out ?kd)
  unfold Shut
  refine wpList_app_sla _ rfl _ _ 44 rfl Try.underlying44 hiu hu0 hu1 hu2 rfl (by decide) (enc := encU) rfl hO2' rfl hs3 encU_len encU_one (by simp only [fourC_len]; unfold maxLen; omega) (by simp only [fourC_len]; omega) hb3.size ?_
  intro v4 w4 hO4 hg4
  have hb4 : Below w.heap.size w w4 := hb3.grown hg4 hb3.size (fun k hk => (hO2'.lt k hk).1)
  have hd4 : SlA w.heap.size 1 EU w4 ao cap p := hd.imp hb4 (Nat.le_refl _) (fun cs x _ h => h)
  have hl4 : (fourC n ++ fourC s1).length = 8 := rfl
  clear hO2' hO3 hs3 hg4
  go_wp2_with (at_builtin; refine Shut.out ?kb)
  unfold Shut
  refine wpList_app_sla _ rfl _ _ 44 rfl Try.underlying44 hiu hu0 hu1 hu2 rfl (by decide) (enc := encU) rfl hO4 (by show Value.slice ao n cap = _; rw [hn.out]) hd4 encU_len encU_one (by rw [hl4, ← hn.out]; unfold maxLen; omega) (by rw [hl4, ← hn.out]; omega) hb4.size ?_
  intro v5 w5 hO5 hg5
  have hb5 : Below w.heap.size w w5 := hb4.grown hg5 hb4.size (fun k hk => (hO4.lt k hk).1)
  have hsum5 := hre.out w5 hb5
  have hfo6 := rfour_any s5 hs532 w5
  have hl5 : (fourC n ++ fourC s1 ++ p).length = n + 8 := by rw [List.length_append, hl4, ← hn.out]; omega
  replace hsum5 := Lib.hid hsum5
  replace hfo6 := Lib.hid hfo6
  replace hl5 := Lib.hid hl5
  clear hO4 hg5 hd4 hl4 hb4 hd hre
  go_wp2_with fail
  refine hsum5.out.mono ?_
  rintro e w9 ⟨rfl, hw9⟩
  obtain ⟨w8, hw8⟩ : ∃ w8, w8 = w9 := ⟨_, rfl⟩
  rw [← hw8] at hw9 ⊢
  obtain rfl : w5 = w8 := hw9.symm
  clear hw8 hw9 hsum5
  dsimp only
  go_wp2_with fail
  refine hfo6.out.mono ?_
  rintro e w7 ⟨v7, rfl, hO7, hb7d⟩
  have hb7 : Below w.heap.size w w7 := hb5.trans (hb7d.mono hb5.size)
  have hO6' := hO5.below hb7d (Nat.le_refl _)
  obtain ⟨a7, c7, rfl, hs7⟩ := rdsOwn hO7
  rw [show (fourC s5).length = 4 from rfl]
  clear hfo6 hO5
  dsimp only
  go_wp2_with (at_builtin; refine Shut.out ?kc)
  unfold Shut
  refine wpList_app_sla _ rfl _ _ 44 rfl Try.underlying44 hiu hu0 hu1 hu2 rfl (by decide) (enc := encU) rfl hO6' rfl hs7 encU_len encU_one (by rw [hl5.out, fourC_len]; unfold maxLen; omega) (by rw [hl5.out, fourC_len]; omega) hb7.size ?_
  intro v8 w8 hO8 hg8
  have hb8 : Below w.heap.size w w8 := hb7.grown hg8 hb7.size (fun k hk => (hO6'.lt k hk).1)
  have hfin : fourC n ++ fourC s1 ++ p ++ fourC s5 = F := by rw [hF.out, hs5e.out, hs1e.out, hn.out]; rfl
  rw [hfin] at hO8
  clear hO6' hO7 hs7 hg8 hfin
  go_wp2_with fail
  go_ret2
  exact ⟨_, rfl, hO8, hb8⟩
end Go.Proofs.Ytjgiphoolfhlmaa
