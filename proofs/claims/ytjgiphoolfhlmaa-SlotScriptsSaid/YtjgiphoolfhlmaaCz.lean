/- Slot: SlotScripts walked. -/
import Derived.Test.YtjgiphoolfhlmaaCy

import Derived.LoopIn
namespace Go.Proofs.Ytjgiphoolfhlmaa
open Go.RowKit
attribute [local go_sem] Oper.semAt_some
set_option linter.unusedVariables false
set_option linter.unusedSimpArgs false

theorem room_ok (q : Int) : ∃ k : Nat, k < 3000 ∧ (IntKind.u64.wrap q).tmod 3000 = (k : Int) := by
  have h0 : 0 ≤ IntKind.u64.wrap q := by
    show 0 ≤ q % 18446744073709551616
    omega
  generalize IntKind.u64.wrap q = u at h0
  have h1 : u.tmod 3000 = u % 3000 := Int.tmod_eq_emod_of_nonneg h0
  rw [h1]
  exact ⟨(u % 3000).toNat, by omega, by omega⟩

set_option maxRecDepth 100000 in
set_option maxHeartbeats 8000000 in
theorem scripts_walk (va : Option Addr) (vc : Nat) (vs : List TMillracelaw07Step) (w : World) (hv : SlA w.heap.size 4 (RMillracelaw07Step w.heap.size) w va vc vs) :
    Calls Try.prog 5 #[.slice va vs.length vc] w fun e w' => e = .returned (.bool true) ∧ Below w.heap.size w w' := by
  have hvl := hv.len
  obtain ⟨m, hm⟩ : ∃ m, m = vs.length := ⟨_, rfl⟩
  rw [← hm] at hvl ⊢
  replace hm := Lib.hid hm
  go_enter Try.func5, Try.ntmps5
  go_wp2_with fail
  refine (kslot_any w).mono ?_
  rintro e w1 ⟨rfl, hb1⟩
  dsimp only
  have hnw := new_any 100000 w1 (by omega) (by omega)
  go_wp2_with fail
  refine hnw.mono ?_
  rintro e w2 ⟨db, x, rfl, hD, hb2, _, _, _⟩
  have hlo := sopen_any nN H0 w2 (by decide) hD (OkM.empty 100000 (by omega) (by omega)) hb2.size (fun _ j hj => (sinv0 nN 100000).held j hj)
  change Calls Try.prog 8 #[.pointer (some ⟨db, 0, none⟩), .string ⟨#[110]⟩] w2 _ at hlo
  clear hnw hD
  dsimp only
  go_wp2_with fail
  refine hlo.mono ?_
  rintro e w3 ⟨hb3d, _, hyes⟩
  obtain ⟨sb, rfl, hS3⟩ := hyes name_n
  have hb3 : Below w1.heap.size w1 w3 := hb2.trans (hb3d.mono hb2.size)
  have hS3' : Hid (Slt w3 w1.heap.size db x sb nN (sl0 100000)) := Lib.hid hS3
  have hI0 : Hid (TInv 0 (sl0 100000) 100000 [] H0) := Lib.hid ⟨sinv0 _ _, by omega, by omega, OkM.empty 100000 (by omega) (by omega), Nat.le_refl _⟩
  clear hlo hyes hS3 hb3d hb2
  dsimp only
  go_wp2_with fail
  go_loopw [5, 7, 8, 9, 10, 11] (fun x5 x7 x8 x9 x10 x11 wr => ∃ (i : Nat) (x : DX) (sb : Nat) (s : SL) (r : Int) (L : Files) (H : Nat → Nat × ByteArray) (other : ByteArray) (torn : Bool), i ≤ m ∧ i ≤ 100 ∧ x5 = .pointer (some ⟨sb, 0, none⟩) ∧ x7 = .string s.v ∧ x8 = .int .i64 s.n ∧ x9 = .string other ∧ x10 = .bool torn ∧ x11 = .int .i64 i ∧ Hid (Slt wr w1.heap.size db x sb nN { s with br := torn }) ∧ Hid (TInv i s r L H) ∧ Below w1.heap.size w1 wr) (fun _ _ _ _ _ x11 _ => m - (intOf x11).toNat)
  case atStart => exact ⟨0, _, sb, sl0 100000, 100000, [], H0, ⟨#[]⟩, false, Nat.zero_le _, by omega, rfl, rfl, rfl, rfl, rfl, rfl, hS3', hI0, hb3⟩
  case round =>
    clear hS3' hI0 hb3
    obtain ⟨i, x, sb, s, r, L, H, other, torn, hi, hi100, rfl, rfl, rfl, rfl, rfl, rfl, hS, hI, hbr⟩ := hrel
    by_cases hlt : i < m
    · have d1 : decide ((i : Int) < (m : Int)) = true := by simp; omega
      by_cases h100 : i < 100
      · have d2 : decide ((i : Int) < 100) = true := by simp; omega
        have hil : i < vs.length := by rw [← hm.out]; exact hlt
        obtain ⟨v, hvq⟩ : ∃ v, vs[i] = v := ⟨_, rfl⟩
        obtain ⟨b, o, rfl, hbl, _⟩ := hv.addr (by omega)
        have hbw := hb1.trans (hbr.mono hb1.size)
        obtain ⟨pa, pc, k0, k1, k2, k3, _, hvz, _, hpk⟩ := RMillracelaw07Step.at hv hil hvq
        obtain ⟨kind, val, room, picks⟩ := v
        dsimp only at k0 k1 k2 k3 hvz hpk
        replace k0 := cell_later hbw k0
        replace k1 := cell_later hbw k1
        replace k2 := cell_later hbw k2
        replace k3 := cell_later hbw k3
        obtain ⟨pl, hpl⟩ : ∃ pl, pl = picks.length := ⟨_, rfl⟩
        rw [← hpl] at k3
        have hpk2 : Hid (∀ wz, Below w.heap.size w wz → SlA wz.heap.size 1 (RI .i64) wz pa pc picks) := Lib.hid (fun wz hz => hpk.imp hz hz.size (fun cs x _ h => h))
        replace hpl := Lib.hid hpl
        clear hvq hpk hil
        obtain ⟨sM, sv, sn, si, sbr⟩ := s
        obtain rfl : sbr = false := hI.out.inv.br
        dsimp only
        have hpn : Hid (Apart x db sb wr.heap.size) := Lib.hid ⟨fun h => by have := hS.out.dsk.lt _ h; omega, fun h => by have := hS.out.blk.lt; omega⟩
        by_cases hlong : 2000 < val.size
        · have d3 : decide ((2000 : Int) < (val.size : Int)) = true := by simp; omega
          go_upto_region 13 with fail
          generalize hw4 : wr.alloc _ = w4
          have hP : Blk w4 wr.heap.size #[.int .i64 kind, .string (val.extract 0 2000), .int .i64 room, .slice pa pl pc] 40 := by rw [← hw4]; exact Blk.new _ _ _
          have hb4d : Below wr.heap.size wr w4 := by rw [← hw4]; exact belowAlloc _ _
          have hS4 := hS.out.below hb4d
          have hbr4 := hbr.trans (hb4d.mono hbr.size)
          obtain ⟨pv, hpvq⟩ : ∃ pv, pv = (val.extract 0 2000) := ⟨_, rfl⟩
          have hpv : pv.size ≤ 60000 := by rw [hpvq]; rw [ByteArray.size_extract]; omega
          rw [← hpvq] at hP
          generalize wr.heap.size = pb at hP hpn ⊢
          have hpl4 := hP.lt
          have c0 : w4.cell? ⟨pb, 0, none⟩ = some (.int .i64 kind) := hP.cellAt rfl
          clear hw4 hb4d hS k0 k1 k2 k3 hpvq hvz hbw hbr d3 hlong
          dsimp only at hS4
          by_cases h0 : kind = 0
          · subst h0
            as_aux_lemma =>
              have hf5 := t_fail false hS4 hbr4
              go_wp2_with fail
              refine hf5.mono ?_
              rintro e w5 ⟨⟨v5, rfl⟩, x5, hS5, hbr5, hap5⟩
              obtain ⟨hpn5, hpe5⟩ := hap5 pb hpl4 hpn.out
              have hP5 : Blk w5 pb #[.int .i64 0, .string pv, .int .i64 room, .slice pa pl pc] 40 := by unfold Blk at hP ⊢; rw [hpe5]; exact hP
              have c51 : w5.cell? ⟨pb, 1, none⟩ = some (.string pv) := hP5.cellAt rfl
              have hpl5 := hP5.lt
              have hputs := t_puts hI.out h100 torn false hpv
              have hokf := hI.out.ok.fail false
              have hnn := hI.out.n
              clear hf5 hap5 hpe5 hP hS4 c0
              dsimp only at hputs hokf hnn
              cases torn
              · rcases hputs.2.2 rfl rfl with hm | ⟨M', L', H', k', hm, hI2⟩
                · have hp6 := t_put pv hS5 hbr5 hm hokf (by omega) (by unfold maxLen; omega) (by show sn ≤ _; omega)
                  clear hputs hm
                  replace hS5 := Lib.hid hS5
                  dsimp only
                  go_wp2_with fail
                  refine hp6.mono ?_
                  rintro e w6 ⟨rfl, x6, hS6, hbr6, hap6⟩
                  obtain ⟨hpn6, hpe6⟩ := hap6 pb hpl5 hpn5
                  have hP6 : Blk w6 pb #[.int .i64 0, .string pv, .int .i64 room, .slice pa pl pc] 40 := by unfold Blk at hP5 ⊢; rw [hpe6]; exact hP5
                  have hpl6 := hP6.lt
                  have hf7 := t_fail false hS6 hbr6
                  dsimp only at hf7
                  replace hS6 := Lib.hid hS6
                  clear hp6 hap6 hpe6 hP5 hS5 c51
                  dsimp only
                  go_wp2_with fail
                  refine hf7.mono ?_
                  rintro e w7 ⟨⟨v7, rfl⟩, x7, hS7, hbr9, hap7⟩
                  obtain ⟨hpn7, hpe7⟩ := hap7 pb hpl6 hpn6
                  have hP7 : Blk w7 pb #[.int .i64 0, .string pv, .int .i64 room, .slice pa pl pc] 40 := by unfold Blk at hP6 ⊢; rw [hpe7]; exact hP6
                  have c70 : w7.cell? ⟨pb, 0, none⟩ = some (.int .i64 0) := hP7.cellAt rfl
                  have c71 : w7.cell? ⟨pb, 1, none⟩ = some (.string pv) := hP7.cellAt rfl
                  clear hf7 hap7 hpe7 hP6 hS6
                  have hS9 : Hid (Slt w7 w1.heap.size db x7 sb nN { (⟨sM, sv, sn, si, false⟩ : SL) with br := true }) := Lib.hid (by
                    have h := hS7
                    (try dsimp only at h)
                    have hb := fail_back hI.out.inv.M false
                    dsimp only at hb
                    rw [hb] at h
                    exact h)
                  clear hS7
                  have hI9 := Lib.hid hI.out.next
                  have hic : ((i + 1 : Nat) : Int) = (i : Int) + 1 := by omega
                  have hg9 := sget_any w7 hS9.out.blk
                  dsimp only at hg9
                  go_wp2_with fail
                  refine hg9.mono ?_
                  rintro e wa ⟨rfl, hba⟩
                  have hSa := Lib.hid (hS9.out.below hba)
                  have hbra := hbr9.trans (hba.mono hbr9.size)
                  have hnow := congrArg DM.now hI9.out.inv.M
                  (try dsimp only at hnow)
                  have hra := read_any (nN ++ sufC 0) wa (by decide) hSa.out.dsk hI9.out.ok
                  change Calls Try.prog 14 #[.pointer (some ⟨db, 0, none⟩), .string ⟨#[110, 45, 97]⟩] wa _ at hra
                  clear hg9 hS9 hba hbr9
                  dsimp only
                  go_wp2_with fail
                  refine hra.mono ?_
                  rintro e wb ⟨va, rfl, hOa, hbb⟩
                  have hSb := Lib.hid (hSa.out.below hbb)
                  have hbrb := hbra.trans (hbb.mono hbra.size)
                  have hRa := Rds.own hOa
                  rw [hnow] at hRa
                  replace hRa := Lib.hid hRa
                  have hrb := read_any (nN ++ sufC 1) wb (by decide) hSb.out.dsk hI9.out.ok
                  change Calls Try.prog 14 #[.pointer (some ⟨db, 0, none⟩), .string ⟨#[110, 45, 98]⟩] wb _ at hrb
                  clear hra hSa hbb hbra hOa
                  dsimp only
                  go_wp2_with fail
                  refine hrb.mono ?_
                  rintro e wc ⟨vb, rfl, hOb, hbc⟩
                  have hSc := Lib.hid (hSb.out.below hbc)
                  have hbrc := hbrb.trans (hbc.mono hbrb.size)
                  have hRb := Rds.own hOb
                  rw [hnow] at hRb
                  have hval := rvalue_any wc (hRa.out.below hbc) hRb (hI9.out.inv.held 0 (by omega)) (hI9.out.inv.held 1 (by omega)) _ _ hI9.out.inv.value.1 hI9.out.inv.value.2
                  dsimp only at hval
                  clear hrb hSb hbc hbrb hOb hRb hRa hnow
                  dsimp only
                  go_wp2_with fail
                  refine hval.mono ?_
                  rintro e wd ⟨⟨kk, rfl⟩, hbd⟩
                  have hSd := Lib.hid (hSc.out.below hbd)
                  have hbrd := hbrc.trans (hbd.mono hbrc.size)
                  clear hval hSc hbd hbrc
                  dsimp only
                  go_wp2_with fail
                  go_roundw
                  case rel => exact ⟨i + 1, _, _, ⟨sM, sv, sn, si, false⟩, _, _, _, _, true, by omega, by omega, rfl, rfl, rfl, rfl, rfl, by rw [hic], hSd, hI9, hbrd⟩
                  case measure => simp [intOf]; omega
                · have hp6 := t_put pv hS5 hbr5 hm hokf (by omega) (by unfold maxLen; omega) (by show sn ≤ _; omega)
                  have hw1 : IntKind.i64.wrap ((sn : Int) + 1) = ((sn + 1 : Nat) : Int) := by rw [IntWalk.i64_in _ (by omega)]; omega
                  have hw1c : IntKind.i64.wrap (1 + (sn : Int)) = ((sn + 1 : Nat) : Int) := by rw [IntWalk.i64_in _ (by omega)]; omega
                  obtain ⟨n1, hn1⟩ : ∃ n1, n1 = sn + 1 := ⟨_, rfl⟩
                  rw [← hn1] at hp6 hw1 hw1c hI2
                  clear hputs hm hn1
                  replace hI2 := Lib.hid hI2
                  replace hS5 := Lib.hid hS5
                  dsimp only
                  go_wp2_with fail
                  refine hp6.mono ?_
                  rintro e w6 ⟨rfl, x6, hS6, hbr6, hap6⟩
                  obtain ⟨hpn6, hpe6⟩ := hap6 pb hpl5 hpn5
                  have hP6 : Blk w6 pb #[.int .i64 0, .string pv, .int .i64 room, .slice pa pl pc] 40 := by unfold Blk at hP5 ⊢; rw [hpe6]; exact hP5
                  have hpl6 := hP6.lt
                  have hf7 := t_fail false hS6 hbr6
                  dsimp only at hf7
                  replace hS6 := Lib.hid hS6
                  clear hp6 hap6 hpe6 hP5 hS5 c51
                  dsimp only
                  go_wp2_with fail
                  refine hf7.mono ?_
                  rintro e w7 ⟨⟨v7, rfl⟩, x7, hS7, hbr9, hap7⟩
                  obtain ⟨hpn7, hpe7⟩ := hap7 pb hpl6 hpn6
                  have hP7 : Blk w7 pb #[.int .i64 0, .string pv, .int .i64 room, .slice pa pl pc] 40 := by unfold Blk at hP6 ⊢; rw [hpe7]; exact hP6
                  have c70 : w7.cell? ⟨pb, 0, none⟩ = some (.int .i64 0) := hP7.cellAt rfl
                  have c71 : w7.cell? ⟨pb, 1, none⟩ = some (.string pv) := hP7.cellAt rfl
                  clear hf7 hap7 hpe7 hP6 hS6
                  have hS9 : Hid (Slt w7 w1.heap.size db x7 sb nN { (⟨M', pv, n1, k', false⟩ : SL) with br := false }) := Lib.hid (by
                    have h := hS7
                    (try dsimp only at h)
                    have hb := fail_off hI2.out.inv.M
                    dsimp only at hb
                    rw [hb] at h
                    exact h)
                  clear hS7
                  have hI9 := hI2
                  have hic : ((i + 1 : Nat) : Int) = (i : Int) + 1 := by omega
                  have hg9 := sget_any w7 hS9.out.blk
                  dsimp only at hg9
                  go_wp2_with fail
                  refine hg9.mono ?_
                  rintro e wa ⟨rfl, hba⟩
                  have hSa := Lib.hid (hS9.out.below hba)
                  have hbra := hbr9.trans (hba.mono hbr9.size)
                  have hnow := congrArg DM.now hI9.out.inv.M
                  (try dsimp only at hnow)
                  have hra := read_any (nN ++ sufC 0) wa (by decide) hSa.out.dsk hI9.out.ok
                  change Calls Try.prog 14 #[.pointer (some ⟨db, 0, none⟩), .string ⟨#[110, 45, 97]⟩] wa _ at hra
                  clear hg9 hS9 hba hbr9
                  dsimp only
                  go_wp2_with fail
                  refine hra.mono ?_
                  rintro e wb ⟨va, rfl, hOa, hbb⟩
                  have hSb := Lib.hid (hSa.out.below hbb)
                  have hbrb := hbra.trans (hbb.mono hbra.size)
                  have hRa := Rds.own hOa
                  rw [hnow] at hRa
                  replace hRa := Lib.hid hRa
                  have hrb := read_any (nN ++ sufC 1) wb (by decide) hSb.out.dsk hI9.out.ok
                  change Calls Try.prog 14 #[.pointer (some ⟨db, 0, none⟩), .string ⟨#[110, 45, 98]⟩] wb _ at hrb
                  clear hra hSa hbb hbra hOa
                  dsimp only
                  go_wp2_with fail
                  refine hrb.mono ?_
                  rintro e wc ⟨vb, rfl, hOb, hbc⟩
                  have hSc := Lib.hid (hSb.out.below hbc)
                  have hbrc := hbrb.trans (hbc.mono hbrb.size)
                  have hRb := Rds.own hOb
                  rw [hnow] at hRb
                  have hval := rvalue_any wc (hRa.out.below hbc) hRb (hI9.out.inv.held 0 (by omega)) (hI9.out.inv.held 1 (by omega)) _ _ hI9.out.inv.value.1 hI9.out.inv.value.2
                  dsimp only at hval
                  clear hrb hSb hbc hbrb hOb hRb hRa hnow
                  dsimp only
                  go_wp2_with fail
                  refine hval.mono ?_
                  rintro e wd ⟨⟨kk, rfl⟩, hbd⟩
                  have hSd := Lib.hid (hSc.out.below hbd)
                  have hbrd := hbrc.trans (hbd.mono hbrc.size)
                  clear hval hSc hbd hbrc
                  dsimp only
                  go_wp2_with fail
                  go_roundw
                  case rel => exact ⟨i + 1, _, _, ⟨M', pv, n1, k', false⟩, _, _, _, _, false, by omega, by omega, rfl, rfl, rfl, rfl, rfl, by rw [hic], hSd, hI9, hbrd⟩
                  case measure => simp [intOf]; omega
              · have hp6 := t_put pv hS5 hbr5 (hputs.1 rfl) hokf (by omega) (by unfold maxLen; omega) (by show sn ≤ _; omega)
                clear hputs
                replace hS5 := Lib.hid hS5
                dsimp only
                go_wp2_with fail
                refine hp6.mono ?_
                rintro e w6 ⟨rfl, x6, hS6, hbr6, hap6⟩
                obtain ⟨hpn6, hpe6⟩ := hap6 pb hpl5 hpn5
                have hP6 : Blk w6 pb #[.int .i64 0, .string pv, .int .i64 room, .slice pa pl pc] 40 := by unfold Blk at hP5 ⊢; rw [hpe6]; exact hP5
                have hpl6 := hP6.lt
                have hf7 := t_fail false hS6 hbr6
                dsimp only at hf7
                replace hS6 := Lib.hid hS6
                clear hp6 hap6 hpe6 hP5 hS5 c51
                dsimp only
                go_wp2_with fail
                refine hf7.mono ?_
                rintro e w7 ⟨⟨v7, rfl⟩, x7, hS7, hbr9, hap7⟩
                obtain ⟨hpn7, hpe7⟩ := hap7 pb hpl6 hpn6
                have hP7 : Blk w7 pb #[.int .i64 0, .string pv, .int .i64 room, .slice pa pl pc] 40 := by unfold Blk at hP6 ⊢; rw [hpe7]; exact hP6
                have c70 : w7.cell? ⟨pb, 0, none⟩ = some (.int .i64 0) := hP7.cellAt rfl
                have c71 : w7.cell? ⟨pb, 1, none⟩ = some (.string pv) := hP7.cellAt rfl
                clear hf7 hap7 hpe7 hP6 hS6
                have hS9 : Hid (Slt w7 w1.heap.size db x7 sb nN { (⟨sM, sv, sn, si, false⟩ : SL) with br := true }) := Lib.hid (by
                  have h := hS7
                  (try dsimp only at h)
                  have hb := fail_back hI.out.inv.M false
                  dsimp only at hb
                  rw [hb] at h
                  exact h)
                clear hS7
                have hI9 := Lib.hid hI.out.next
                have hic : ((i + 1 : Nat) : Int) = (i : Int) + 1 := by omega
                have hg9 := sget_any w7 hS9.out.blk
                dsimp only at hg9
                go_wp2_with fail
                refine hg9.mono ?_
                rintro e wa ⟨rfl, hba⟩
                have hSa := Lib.hid (hS9.out.below hba)
                have hbra := hbr9.trans (hba.mono hbr9.size)
                have hnow := congrArg DM.now hI9.out.inv.M
                (try dsimp only at hnow)
                have hra := read_any (nN ++ sufC 0) wa (by decide) hSa.out.dsk hI9.out.ok
                change Calls Try.prog 14 #[.pointer (some ⟨db, 0, none⟩), .string ⟨#[110, 45, 97]⟩] wa _ at hra
                clear hg9 hS9 hba hbr9
                dsimp only
                go_wp2_with fail
                refine hra.mono ?_
                rintro e wb ⟨va, rfl, hOa, hbb⟩
                have hSb := Lib.hid (hSa.out.below hbb)
                have hbrb := hbra.trans (hbb.mono hbra.size)
                have hRa := Rds.own hOa
                rw [hnow] at hRa
                replace hRa := Lib.hid hRa
                have hrb := read_any (nN ++ sufC 1) wb (by decide) hSb.out.dsk hI9.out.ok
                change Calls Try.prog 14 #[.pointer (some ⟨db, 0, none⟩), .string ⟨#[110, 45, 98]⟩] wb _ at hrb
                clear hra hSa hbb hbra hOa
                dsimp only
                go_wp2_with fail
                refine hrb.mono ?_
                rintro e wc ⟨vb, rfl, hOb, hbc⟩
                have hSc := Lib.hid (hSb.out.below hbc)
                have hbrc := hbrb.trans (hbc.mono hbrb.size)
                have hRb := Rds.own hOb
                rw [hnow] at hRb
                have hval := rvalue_any wc (hRa.out.below hbc) hRb (hI9.out.inv.held 0 (by omega)) (hI9.out.inv.held 1 (by omega)) _ _ hI9.out.inv.value.1 hI9.out.inv.value.2
                dsimp only at hval
                clear hrb hSb hbc hbrb hOb hRb hRa hnow
                dsimp only
                go_wp2_with fail
                refine hval.mono ?_
                rintro e wd ⟨⟨kk, rfl⟩, hbd⟩
                have hSd := Lib.hid (hSc.out.below hbd)
                have hbrd := hbrc.trans (hbd.mono hbrc.size)
                clear hval hSc hbd hbrc
                dsimp only
                go_wp2_with fail
                go_roundw
                case rel => exact ⟨i + 1, _, _, ⟨sM, sv, sn, si, false⟩, _, _, _, _, true, by omega, by omega, rfl, rfl, rfl, rfl, rfl, by rw [hic], hSd, hI9, hbrd⟩
                case measure => simp [intOf]; omega
          · by_cases h2 : kind = 2
            · subst h2
              as_aux_lemma =>
                have hf5 := t_fail true hS4 hbr4
                go_wp2_with fail
                refine hf5.mono ?_
                rintro e w5 ⟨⟨v5, rfl⟩, x5, hS5, hbr5, hap5⟩
                obtain ⟨hpn5, hpe5⟩ := hap5 pb hpl4 hpn.out
                have hP5 : Blk w5 pb #[.int .i64 2, .string pv, .int .i64 room, .slice pa pl pc] 40 := by unfold Blk at hP ⊢; rw [hpe5]; exact hP
                have c51 : w5.cell? ⟨pb, 1, none⟩ = some (.string pv) := hP5.cellAt rfl
                have hpl5 := hP5.lt
                have hputs := t_puts hI.out h100 torn true hpv
                have hokf := hI.out.ok.fail true
                have hnn := hI.out.n
                clear hf5 hap5 hpe5 hP hS4 c0
                dsimp only at hputs hokf hnn
                cases torn
                · have hp6 := t_put pv hS5 hbr5 (hputs.2.1 rfl rfl) hokf (by omega) (by unfold maxLen; omega) (by show sn ≤ _; omega)
                  clear hputs
                  replace hS5 := Lib.hid hS5
                  dsimp only
                  go_wp2_with fail
                  refine hp6.mono ?_
                  rintro e w6 ⟨rfl, x6, hS6, hbr6, hap6⟩
                  obtain ⟨hpn6, hpe6⟩ := hap6 pb hpl5 hpn5
                  have hP6 : Blk w6 pb #[.int .i64 2, .string pv, .int .i64 room, .slice pa pl pc] 40 := by unfold Blk at hP5 ⊢; rw [hpe6]; exact hP5
                  have hpl6 := hP6.lt
                  have hf7 := t_fail false hS6 hbr6
                  dsimp only at hf7
                  replace hS6 := Lib.hid hS6
                  clear hp6 hap6 hpe6 hP5 hS5 c51
                  dsimp only
                  go_wp2_with fail
                  refine hf7.mono ?_
                  rintro e w7 ⟨⟨v7, rfl⟩, x7, hS7, hbr9, hap7⟩
                  obtain ⟨hpn7, hpe7⟩ := hap7 pb hpl6 hpn6
                  have hP7 : Blk w7 pb #[.int .i64 2, .string pv, .int .i64 room, .slice pa pl pc] 40 := by unfold Blk at hP6 ⊢; rw [hpe7]; exact hP6
                  have c70 : w7.cell? ⟨pb, 0, none⟩ = some (.int .i64 2) := hP7.cellAt rfl
                  have c71 : w7.cell? ⟨pb, 1, none⟩ = some (.string pv) := hP7.cellAt rfl
                  clear hf7 hap7 hpe7 hP6 hS6
                  have hS9 : Hid (Slt w7 w1.heap.size db x7 sb nN { (⟨sM, sv, sn, si, false⟩ : SL) with br := true }) := Lib.hid (by
                    have h := hS7
                    (try dsimp only at h)
                    have hb := fail_back hI.out.inv.M true
                    dsimp only at hb
                    rw [hb] at h
                    exact h)
                  clear hS7
                  have hI9 := Lib.hid hI.out.next
                  have hic : ((i + 1 : Nat) : Int) = (i : Int) + 1 := by omega
                  have hg9 := sget_any w7 hS9.out.blk
                  dsimp only at hg9
                  go_wp2_with fail
                  refine hg9.mono ?_
                  rintro e wa ⟨rfl, hba⟩
                  have hSa := Lib.hid (hS9.out.below hba)
                  have hbra := hbr9.trans (hba.mono hbr9.size)
                  have hnow := congrArg DM.now hI9.out.inv.M
                  (try dsimp only at hnow)
                  have hra := read_any (nN ++ sufC 0) wa (by decide) hSa.out.dsk hI9.out.ok
                  change Calls Try.prog 14 #[.pointer (some ⟨db, 0, none⟩), .string ⟨#[110, 45, 97]⟩] wa _ at hra
                  clear hg9 hS9 hba hbr9
                  dsimp only
                  go_wp2_with fail
                  refine hra.mono ?_
                  rintro e wb ⟨va, rfl, hOa, hbb⟩
                  have hSb := Lib.hid (hSa.out.below hbb)
                  have hbrb := hbra.trans (hbb.mono hbra.size)
                  have hRa := Rds.own hOa
                  rw [hnow] at hRa
                  replace hRa := Lib.hid hRa
                  have hrb := read_any (nN ++ sufC 1) wb (by decide) hSb.out.dsk hI9.out.ok
                  change Calls Try.prog 14 #[.pointer (some ⟨db, 0, none⟩), .string ⟨#[110, 45, 98]⟩] wb _ at hrb
                  clear hra hSa hbb hbra hOa
                  dsimp only
                  go_wp2_with fail
                  refine hrb.mono ?_
                  rintro e wc ⟨vb, rfl, hOb, hbc⟩
                  have hSc := Lib.hid (hSb.out.below hbc)
                  have hbrc := hbrb.trans (hbc.mono hbrb.size)
                  have hRb := Rds.own hOb
                  rw [hnow] at hRb
                  have hval := rvalue_any wc (hRa.out.below hbc) hRb (hI9.out.inv.held 0 (by omega)) (hI9.out.inv.held 1 (by omega)) _ _ hI9.out.inv.value.1 hI9.out.inv.value.2
                  dsimp only at hval
                  clear hrb hSb hbc hbrb hOb hRb hRa hnow
                  dsimp only
                  go_wp2_with fail
                  refine hval.mono ?_
                  rintro e wd ⟨⟨kk, rfl⟩, hbd⟩
                  have hSd := Lib.hid (hSc.out.below hbd)
                  have hbrd := hbrc.trans (hbd.mono hbrc.size)
                  clear hval hSc hbd hbrc
                  dsimp only
                  go_wp2_with fail
                  go_roundw
                  case rel => exact ⟨i + 1, _, _, ⟨sM, sv, sn, si, false⟩, _, _, _, _, true, by omega, by omega, rfl, rfl, rfl, rfl, rfl, by rw [hic], hSd, hI9, hbrd⟩
                  case measure => simp [intOf]; omega
                · have hp6 := t_put pv hS5 hbr5 (hputs.1 rfl) hokf (by omega) (by unfold maxLen; omega) (by show sn ≤ _; omega)
                  clear hputs
                  replace hS5 := Lib.hid hS5
                  dsimp only
                  go_wp2_with fail
                  refine hp6.mono ?_
                  rintro e w6 ⟨rfl, x6, hS6, hbr6, hap6⟩
                  obtain ⟨hpn6, hpe6⟩ := hap6 pb hpl5 hpn5
                  have hP6 : Blk w6 pb #[.int .i64 2, .string pv, .int .i64 room, .slice pa pl pc] 40 := by unfold Blk at hP5 ⊢; rw [hpe6]; exact hP5
                  have hpl6 := hP6.lt
                  have hf7 := t_fail false hS6 hbr6
                  dsimp only at hf7
                  replace hS6 := Lib.hid hS6
                  clear hp6 hap6 hpe6 hP5 hS5 c51
                  dsimp only
                  go_wp2_with fail
                  refine hf7.mono ?_
                  rintro e w7 ⟨⟨v7, rfl⟩, x7, hS7, hbr9, hap7⟩
                  obtain ⟨hpn7, hpe7⟩ := hap7 pb hpl6 hpn6
                  have hP7 : Blk w7 pb #[.int .i64 2, .string pv, .int .i64 room, .slice pa pl pc] 40 := by unfold Blk at hP6 ⊢; rw [hpe7]; exact hP6
                  have c70 : w7.cell? ⟨pb, 0, none⟩ = some (.int .i64 2) := hP7.cellAt rfl
                  have c71 : w7.cell? ⟨pb, 1, none⟩ = some (.string pv) := hP7.cellAt rfl
                  clear hf7 hap7 hpe7 hP6 hS6
                  have hS9 : Hid (Slt w7 w1.heap.size db x7 sb nN { (⟨sM, sv, sn, si, false⟩ : SL) with br := true }) := Lib.hid (by
                    have h := hS7
                    (try dsimp only at h)
                    have hb := fail_back hI.out.inv.M true
                    dsimp only at hb
                    rw [hb] at h
                    exact h)
                  clear hS7
                  have hI9 := Lib.hid hI.out.next
                  have hic : ((i + 1 : Nat) : Int) = (i : Int) + 1 := by omega
                  have hg9 := sget_any w7 hS9.out.blk
                  dsimp only at hg9
                  go_wp2_with fail
                  refine hg9.mono ?_
                  rintro e wa ⟨rfl, hba⟩
                  have hSa := Lib.hid (hS9.out.below hba)
                  have hbra := hbr9.trans (hba.mono hbr9.size)
                  have hnow := congrArg DM.now hI9.out.inv.M
                  (try dsimp only at hnow)
                  have hra := read_any (nN ++ sufC 0) wa (by decide) hSa.out.dsk hI9.out.ok
                  change Calls Try.prog 14 #[.pointer (some ⟨db, 0, none⟩), .string ⟨#[110, 45, 97]⟩] wa _ at hra
                  clear hg9 hS9 hba hbr9
                  dsimp only
                  go_wp2_with fail
                  refine hra.mono ?_
                  rintro e wb ⟨va, rfl, hOa, hbb⟩
                  have hSb := Lib.hid (hSa.out.below hbb)
                  have hbrb := hbra.trans (hbb.mono hbra.size)
                  have hRa := Rds.own hOa
                  rw [hnow] at hRa
                  replace hRa := Lib.hid hRa
                  have hrb := read_any (nN ++ sufC 1) wb (by decide) hSb.out.dsk hI9.out.ok
                  change Calls Try.prog 14 #[.pointer (some ⟨db, 0, none⟩), .string ⟨#[110, 45, 98]⟩] wb _ at hrb
                  clear hra hSa hbb hbra hOa
                  dsimp only
                  go_wp2_with fail
                  refine hrb.mono ?_
                  rintro e wc ⟨vb, rfl, hOb, hbc⟩
                  have hSc := Lib.hid (hSb.out.below hbc)
                  have hbrc := hbrb.trans (hbc.mono hbrb.size)
                  have hRb := Rds.own hOb
                  rw [hnow] at hRb
                  have hval := rvalue_any wc (hRa.out.below hbc) hRb (hI9.out.inv.held 0 (by omega)) (hI9.out.inv.held 1 (by omega)) _ _ hI9.out.inv.value.1 hI9.out.inv.value.2
                  dsimp only at hval
                  clear hrb hSb hbc hbrb hOb hRb hRa hnow
                  dsimp only
                  go_wp2_with fail
                  refine hval.mono ?_
                  rintro e wd ⟨⟨kk, rfl⟩, hbd⟩
                  have hSd := Lib.hid (hSc.out.below hbd)
                  have hbrd := hbrc.trans (hbd.mono hbrc.size)
                  clear hval hSc hbd hbrc
                  dsimp only
                  go_wp2_with fail
                  go_roundw
                  case rel => exact ⟨i + 1, _, _, ⟨sM, sv, sn, si, false⟩, _, _, _, _, true, by omega, by omega, rfl, rfl, rfl, rfl, rfl, by rw [hic], hSd, hI9, hbrd⟩
                  case measure => simp [intOf]; omega
            · have q0 : (kind == 0) = false := by simp [h0]
              have q2 : (kind == 2) = false := by simp [h2]
              by_cases h1 : kind = 1
              · subst h1
                as_aux_lemma =>
                  have c3 : w4.cell? ⟨pb, 3, none⟩ = some (.slice pa pl pc) := hP.cellAt rfl
                  have hcr := crash_ok picks pa pc w4 hS4.dsk hI.out.ok (by omega) hbr4.size (hpk2.out w4 (hb1.trans (hbr4.mono hb1.size)))
                  rw [← hpl.out] at hcr
                  have hMs := hI.out.inv.M
                  dsimp only at hMs hcr
                  rw [hMs, crash_std, ← hMs] at hcr
                  have hop := fun (w5 : World) (x5 : DX) (hD5 : Dsk w5 w1.heap.size db x5 sM) (hb5 : Below w1.heap.size w1 w5) => sopen_any nN H w5 (by decide) hD5 hI.out.ok hb5.size (fun _ j hj => by
                    have h := hI.out.inv.held j hj
                    rw [hMs]
                    exact h)
                  have hopn := hI.out.inv.opn
                  dsimp only at hopn
                  rw [hopn] at hop
                  have hnn := hI.out.n
                  dsimp only at hnn
                  have hw1 : IntKind.i64.wrap ((sn : Int) + 1) = ((sn + 1 : Nat) : Int) := by rw [IntWalk.i64_in _ (by omega)]; omega
                  have hw1c : IntKind.i64.wrap (1 + (sn : Int)) = ((sn + 1 : Nat) : Int) := by rw [IntWalk.i64_in _ (by omega)]; omega
                  obtain ⟨n1, hn1⟩ : ∃ n1, n1 = sn + 1 := ⟨_, rfl⟩
                  rw [← hn1] at hw1 hw1c
                  have hne : ((sn : Int) == (n1 : Int)) = false := by simp; omega
                  replace hop := Lib.hid hop
                  replace hcr := Lib.hid hcr
                  clear hMs hopn hn1 hS4 hP
                  go_wp2_with fail
                  refine hcr.out.mono ?_
                  rintro e w5 ⟨⟨v5, rfl⟩, x5, hD5, hb5⟩
                  have hop5 := hop.out w5 x5 hD5 (hbr4.trans hb5)
                  change Calls Try.prog 8 #[.pointer (some ⟨db, 0, none⟩), .string ⟨#[110]⟩] w5 _ at hop5
                  have hbr5 := hbr4.trans hb5
                  clear hcr hop hD5 hb5
                  dsimp only
                  go_wp2_with fail
                  refine hop5.mono ?_
                  rintro e w6 ⟨hb6, _, hyes⟩
                  obtain ⟨sb6, rfl, hS6⟩ := hyes name_n
                  have hbr6 := hbr5.trans (hb6.mono hbr5.size)
                  have hg6 := sget_any w6 hS6.blk
                  replace hS6 := Lib.hid hS6
                  clear hop5 hyes hb6
                  dsimp only
                  go_wp2_with fail
                  refine hg6.mono ?_
                  rintro e w7 ⟨rfl, hb7⟩
                  have hS9 : Hid (Slt w7 w1.heap.size db x5 sb6 nN { (⟨sM, sv, sn, si, false⟩ : SL) with br := false }) := Lib.hid (hS6.out.below hb7)
                  have hbr9 := hbr6.trans (hb7.mono hbr6.size)
                  have hI9 := Lib.hid hI.out.next
                  have hic : ((i + 1 : Nat) : Int) = (i : Int) + 1 := by omega
                  clear hg6 hS6 hb7 hbr6 hbr5
                  dsimp only
                  cases torn
                  · have hg9 := sget_any w7 hS9.out.blk
                    dsimp only at hg9
                    go_wp2_with fail
                    refine hg9.mono ?_
                    rintro e wa ⟨rfl, hba⟩
                    have hSa := Lib.hid (hS9.out.below hba)
                    have hbra := hbr9.trans (hba.mono hbr9.size)
                    have hnow := congrArg DM.now hI9.out.inv.M
                    (try dsimp only at hnow)
                    have hra := read_any (nN ++ sufC 0) wa (by decide) hSa.out.dsk hI9.out.ok
                    change Calls Try.prog 14 #[.pointer (some ⟨db, 0, none⟩), .string ⟨#[110, 45, 97]⟩] wa _ at hra
                    clear hg9 hS9 hba hbr9
                    dsimp only
                    go_wp2_with fail
                    refine hra.mono ?_
                    rintro e wb ⟨va, rfl, hOa, hbb⟩
                    have hSb := Lib.hid (hSa.out.below hbb)
                    have hbrb := hbra.trans (hbb.mono hbra.size)
                    have hRa := Rds.own hOa
                    rw [hnow] at hRa
                    replace hRa := Lib.hid hRa
                    have hrb := read_any (nN ++ sufC 1) wb (by decide) hSb.out.dsk hI9.out.ok
                    change Calls Try.prog 14 #[.pointer (some ⟨db, 0, none⟩), .string ⟨#[110, 45, 98]⟩] wb _ at hrb
                    clear hra hSa hbb hbra hOa
                    dsimp only
                    go_wp2_with fail
                    refine hrb.mono ?_
                    rintro e wc ⟨vb, rfl, hOb, hbc⟩
                    have hSc := Lib.hid (hSb.out.below hbc)
                    have hbrc := hbrb.trans (hbc.mono hbrb.size)
                    have hRb := Rds.own hOb
                    rw [hnow] at hRb
                    have hval := rvalue_any wc (hRa.out.below hbc) hRb (hI9.out.inv.held 0 (by omega)) (hI9.out.inv.held 1 (by omega)) _ _ hI9.out.inv.value.1 hI9.out.inv.value.2
                    dsimp only at hval
                    clear hrb hSb hbc hbrb hOb hRb hRa hnow
                    dsimp only
                    go_wp2_with fail
                    refine hval.mono ?_
                    rintro e wd ⟨⟨kk, rfl⟩, hbd⟩
                    have hSd := Lib.hid (hSc.out.below hbd)
                    have hbrd := hbrc.trans (hbd.mono hbrc.size)
                    clear hval hSc hbd hbrc
                    dsimp only
                    go_wp2_with fail
                    go_roundw
                    case rel => exact ⟨i + 1, _, _, ⟨sM, sv, sn, si, false⟩, _, _, _, _, false, by omega, by omega, rfl, rfl, rfl, rfl, rfl, by rw [hic], hSd, hI9, hbrd⟩
                    case measure => simp [intOf]; omega
                  · by_cases hso : sv = other
                    · subst hso
                      have hg9 := sget_any w7 hS9.out.blk
                      dsimp only at hg9
                      go_wp2_with fail
                      refine hg9.mono ?_
                      rintro e wa ⟨rfl, hba⟩
                      have hSa := Lib.hid (hS9.out.below hba)
                      have hbra := hbr9.trans (hba.mono hbr9.size)
                      have hnow := congrArg DM.now hI9.out.inv.M
                      (try dsimp only at hnow)
                      have hra := read_any (nN ++ sufC 0) wa (by decide) hSa.out.dsk hI9.out.ok
                      change Calls Try.prog 14 #[.pointer (some ⟨db, 0, none⟩), .string ⟨#[110, 45, 97]⟩] wa _ at hra
                      clear hg9 hS9 hba hbr9
                      dsimp only
                      go_wp2_with fail
                      refine hra.mono ?_
                      rintro e wb ⟨va, rfl, hOa, hbb⟩
                      have hSb := Lib.hid (hSa.out.below hbb)
                      have hbrb := hbra.trans (hbb.mono hbra.size)
                      have hRa := Rds.own hOa
                      rw [hnow] at hRa
                      replace hRa := Lib.hid hRa
                      have hrb := read_any (nN ++ sufC 1) wb (by decide) hSb.out.dsk hI9.out.ok
                      change Calls Try.prog 14 #[.pointer (some ⟨db, 0, none⟩), .string ⟨#[110, 45, 98]⟩] wb _ at hrb
                      clear hra hSa hbb hbra hOa
                      dsimp only
                      go_wp2_with fail
                      refine hrb.mono ?_
                      rintro e wc ⟨vb, rfl, hOb, hbc⟩
                      have hSc := Lib.hid (hSb.out.below hbc)
                      have hbrc := hbrb.trans (hbc.mono hbrb.size)
                      have hRb := Rds.own hOb
                      rw [hnow] at hRb
                      have hval := rvalue_any wc (hRa.out.below hbc) hRb (hI9.out.inv.held 0 (by omega)) (hI9.out.inv.held 1 (by omega)) _ _ hI9.out.inv.value.1 hI9.out.inv.value.2
                      dsimp only at hval
                      clear hrb hSb hbc hbrb hOb hRb hRa hnow
                      dsimp only
                      go_wp2_with fail
                      refine hval.mono ?_
                      rintro e wd ⟨⟨kk, rfl⟩, hbd⟩
                      have hSd := Lib.hid (hSc.out.below hbd)
                      have hbrd := hbrc.trans (hbd.mono hbrc.size)
                      clear hval hSc hbd hbrc
                      dsimp only
                      go_wp2_with fail
                      go_roundw
                      case rel => exact ⟨i + 1, _, _, ⟨sM, sv, sn, si, false⟩, _, _, _, _, false, by omega, by omega, rfl, rfl, rfl, rfl, rfl, by rw [hic], hSd, hI9, hbrd⟩
                      case measure => simp [intOf]; omega
                    · have hsl : ¬ sv.toList = other.toList := fun h => hso (by rw [ByteArray.toList_eq, ByteArray.toList_eq] at h; exact ByteArray.ext (Array.toList_inj.1 h))
                      have hg9 := sget_any w7 hS9.out.blk
                      dsimp only at hg9
                      go_wp2_with fail
                      refine hg9.mono ?_
                      rintro e wa ⟨rfl, hba⟩
                      have hSa := Lib.hid (hS9.out.below hba)
                      have hbra := hbr9.trans (hba.mono hbr9.size)
                      have hnow := congrArg DM.now hI9.out.inv.M
                      (try dsimp only at hnow)
                      have hra := read_any (nN ++ sufC 0) wa (by decide) hSa.out.dsk hI9.out.ok
                      change Calls Try.prog 14 #[.pointer (some ⟨db, 0, none⟩), .string ⟨#[110, 45, 97]⟩] wa _ at hra
                      clear hg9 hS9 hba hbr9
                      dsimp only
                      go_wp2_with fail
                      refine hra.mono ?_
                      rintro e wb ⟨va, rfl, hOa, hbb⟩
                      have hSb := Lib.hid (hSa.out.below hbb)
                      have hbrb := hbra.trans (hbb.mono hbra.size)
                      have hRa := Rds.own hOa
                      rw [hnow] at hRa
                      replace hRa := Lib.hid hRa
                      have hrb := read_any (nN ++ sufC 1) wb (by decide) hSb.out.dsk hI9.out.ok
                      change Calls Try.prog 14 #[.pointer (some ⟨db, 0, none⟩), .string ⟨#[110, 45, 98]⟩] wb _ at hrb
                      clear hra hSa hbb hbra hOa
                      dsimp only
                      go_wp2_with fail
                      refine hrb.mono ?_
                      rintro e wc ⟨vb, rfl, hOb, hbc⟩
                      have hSc := Lib.hid (hSb.out.below hbc)
                      have hbrc := hbrb.trans (hbc.mono hbrb.size)
                      have hRb := Rds.own hOb
                      rw [hnow] at hRb
                      have hval := rvalue_any wc (hRa.out.below hbc) hRb (hI9.out.inv.held 0 (by omega)) (hI9.out.inv.held 1 (by omega)) _ _ hI9.out.inv.value.1 hI9.out.inv.value.2
                      dsimp only at hval
                      clear hrb hSb hbc hbrb hOb hRb hRa hnow
                      dsimp only
                      go_wp2_with fail
                      refine hval.mono ?_
                      rintro e wd ⟨⟨kk, rfl⟩, hbd⟩
                      have hSd := Lib.hid (hSc.out.below hbd)
                      have hbrd := hbrc.trans (hbd.mono hbrc.size)
                      clear hval hSc hbd hbrc
                      dsimp only
                      go_wp2_with fail
                      go_roundw
                      case rel => exact ⟨i + 1, _, _, ⟨sM, sv, sn, si, false⟩, _, _, _, _, false, by omega, by omega, rfl, rfl, rfl, rfl, rfl, by rw [hic], hSd, hI9, hbrd⟩
                      case measure => simp [intOf]; omega
              · have q1 : (kind == 1) = false := by simp [h1]
                by_cases h3 : kind = 3
                · subst h3
                  as_aux_lemma =>
                    have c2 : w4.cell? ⟨pb, 2, none⟩ = some (.int .i64 room) := hP.cellAt rfl
                    obtain ⟨kr, hkr, hrm⟩ := room_ok room
                    have hrw : IntKind.i64.wrap (kr : Int) = (kr : Int) := IntWalk.i64_in _ (by omega)
                    have hw2 : IntKind.i64.wrap (2000 + (kr : Int)) = 2000 + (kr : Int) := IntWalk.i64_in _ (by omega)
                    have hlm := t_limit (2000 + (kr : Int)) hS4 hbr4 (by omega) (by omega)
                    have hI9 := Lib.hid (hI.out.lim (r' := 2000 + (kr : Int)) (by omega) (by omega)).next
                    replace hS4 := Lib.hid hS4
                    clear hP
                    go_wp2_with fail
                    refine hlm.mono ?_
                    rintro e w5 ⟨⟨v5, rfl⟩, x5, hS5, hbr9, _⟩
                    have hS9 := Lib.hid hS5
                    have hic : ((i + 1 : Nat) : Int) = (i : Int) + 1 := by omega
                    clear hlm hS5 hS4 hrm hrw hw2 c2
                    dsimp only at hS9 hI9 ⊢
                    cases torn
                    · have hg9 := sget_any w5 hS9.out.blk
                      dsimp only at hg9
                      go_wp2_with fail
                      refine hg9.mono ?_
                      rintro e wa ⟨rfl, hba⟩
                      have hSa := Lib.hid (hS9.out.below hba)
                      have hbra := hbr9.trans (hba.mono hbr9.size)
                      have hnow := congrArg DM.now hI9.out.inv.M
                      (try dsimp only at hnow)
                      have hra := read_any (nN ++ sufC 0) wa (by decide) hSa.out.dsk hI9.out.ok
                      change Calls Try.prog 14 #[.pointer (some ⟨db, 0, none⟩), .string ⟨#[110, 45, 97]⟩] wa _ at hra
                      clear hg9 hS9 hba hbr9
                      dsimp only
                      go_wp2_with fail
                      refine hra.mono ?_
                      rintro e wb ⟨va, rfl, hOa, hbb⟩
                      have hSb := Lib.hid (hSa.out.below hbb)
                      have hbrb := hbra.trans (hbb.mono hbra.size)
                      have hRa := Rds.own hOa
                      rw [hnow] at hRa
                      replace hRa := Lib.hid hRa
                      have hrb := read_any (nN ++ sufC 1) wb (by decide) hSb.out.dsk hI9.out.ok
                      change Calls Try.prog 14 #[.pointer (some ⟨db, 0, none⟩), .string ⟨#[110, 45, 98]⟩] wb _ at hrb
                      clear hra hSa hbb hbra hOa
                      dsimp only
                      go_wp2_with fail
                      refine hrb.mono ?_
                      rintro e wc ⟨vb, rfl, hOb, hbc⟩
                      have hSc := Lib.hid (hSb.out.below hbc)
                      have hbrc := hbrb.trans (hbc.mono hbrb.size)
                      have hRb := Rds.own hOb
                      rw [hnow] at hRb
                      have hval := rvalue_any wc (hRa.out.below hbc) hRb (hI9.out.inv.held 0 (by omega)) (hI9.out.inv.held 1 (by omega)) _ _ hI9.out.inv.value.1 hI9.out.inv.value.2
                      dsimp only at hval
                      clear hrb hSb hbc hbrb hOb hRb hRa hnow
                      dsimp only
                      go_wp2_with fail
                      refine hval.mono ?_
                      rintro e wd ⟨⟨kk, rfl⟩, hbd⟩
                      have hSd := Lib.hid (hSc.out.below hbd)
                      have hbrd := hbrc.trans (hbd.mono hbrc.size)
                      clear hval hSc hbd hbrc
                      dsimp only
                      go_wp2_with fail
                      go_roundw
                      case rel => exact ⟨i + 1, _, _, ⟨{ sM with room := 2000 + (kr : Int) }, sv, sn, si, false⟩, _, _, _, _, false, by omega, by omega, rfl, rfl, rfl, rfl, rfl, by rw [hic], hSd, hI9, hbrd⟩
                      case measure => simp [intOf]; omega
                    · have hg9 := sget_any w5 hS9.out.blk
                      dsimp only at hg9
                      go_wp2_with fail
                      refine hg9.mono ?_
                      rintro e wa ⟨rfl, hba⟩
                      have hSa := Lib.hid (hS9.out.below hba)
                      have hbra := hbr9.trans (hba.mono hbr9.size)
                      have hnow := congrArg DM.now hI9.out.inv.M
                      (try dsimp only at hnow)
                      have hra := read_any (nN ++ sufC 0) wa (by decide) hSa.out.dsk hI9.out.ok
                      change Calls Try.prog 14 #[.pointer (some ⟨db, 0, none⟩), .string ⟨#[110, 45, 97]⟩] wa _ at hra
                      clear hg9 hS9 hba hbr9
                      dsimp only
                      go_wp2_with fail
                      refine hra.mono ?_
                      rintro e wb ⟨va, rfl, hOa, hbb⟩
                      have hSb := Lib.hid (hSa.out.below hbb)
                      have hbrb := hbra.trans (hbb.mono hbra.size)
                      have hRa := Rds.own hOa
                      rw [hnow] at hRa
                      replace hRa := Lib.hid hRa
                      have hrb := read_any (nN ++ sufC 1) wb (by decide) hSb.out.dsk hI9.out.ok
                      change Calls Try.prog 14 #[.pointer (some ⟨db, 0, none⟩), .string ⟨#[110, 45, 98]⟩] wb _ at hrb
                      clear hra hSa hbb hbra hOa
                      dsimp only
                      go_wp2_with fail
                      refine hrb.mono ?_
                      rintro e wc ⟨vb, rfl, hOb, hbc⟩
                      have hSc := Lib.hid (hSb.out.below hbc)
                      have hbrc := hbrb.trans (hbc.mono hbrb.size)
                      have hRb := Rds.own hOb
                      rw [hnow] at hRb
                      have hval := rvalue_any wc (hRa.out.below hbc) hRb (hI9.out.inv.held 0 (by omega)) (hI9.out.inv.held 1 (by omega)) _ _ hI9.out.inv.value.1 hI9.out.inv.value.2
                      dsimp only at hval
                      clear hrb hSb hbc hbrb hOb hRb hRa hnow
                      dsimp only
                      go_wp2_with fail
                      refine hval.mono ?_
                      rintro e wd ⟨⟨kk, rfl⟩, hbd⟩
                      have hSd := Lib.hid (hSc.out.below hbd)
                      have hbrd := hbrc.trans (hbd.mono hbrc.size)
                      clear hval hSc hbd hbrc
                      dsimp only
                      go_wp2_with fail
                      go_roundw
                      case rel => exact ⟨i + 1, _, _, ⟨{ sM with room := 2000 + (kr : Int) }, sv, sn, si, false⟩, _, _, _, _, true, by omega, by omega, rfl, rfl, rfl, rfl, rfl, by rw [hic], hSd, hI9, hbrd⟩
                      case measure => simp [intOf]; omega
                · have q3 : (kind == 3) = false := by simp [h3]
                  as_aux_lemma =>
                    have hS9 := Lib.hid hS4
                    have hbr9 := hbr4
                    have hI9 := Lib.hid hI.out.next
                    have hic : ((i + 1 : Nat) : Int) = (i : Int) + 1 := by omega
                    clear hP hS4
                    cases torn
                    · have hg9 := sget_any w4 hS9.out.blk
                      dsimp only at hg9
                      go_wp2_with fail
                      refine hg9.mono ?_
                      rintro e wa ⟨rfl, hba⟩
                      have hSa := Lib.hid (hS9.out.below hba)
                      have hbra := hbr9.trans (hba.mono hbr9.size)
                      have hnow := congrArg DM.now hI9.out.inv.M
                      (try dsimp only at hnow)
                      have hra := read_any (nN ++ sufC 0) wa (by decide) hSa.out.dsk hI9.out.ok
                      change Calls Try.prog 14 #[.pointer (some ⟨db, 0, none⟩), .string ⟨#[110, 45, 97]⟩] wa _ at hra
                      clear hg9 hS9 hba hbr9
                      dsimp only
                      go_wp2_with fail
                      refine hra.mono ?_
                      rintro e wb ⟨va, rfl, hOa, hbb⟩
                      have hSb := Lib.hid (hSa.out.below hbb)
                      have hbrb := hbra.trans (hbb.mono hbra.size)
                      have hRa := Rds.own hOa
                      rw [hnow] at hRa
                      replace hRa := Lib.hid hRa
                      have hrb := read_any (nN ++ sufC 1) wb (by decide) hSb.out.dsk hI9.out.ok
                      change Calls Try.prog 14 #[.pointer (some ⟨db, 0, none⟩), .string ⟨#[110, 45, 98]⟩] wb _ at hrb
                      clear hra hSa hbb hbra hOa
                      dsimp only
                      go_wp2_with fail
                      refine hrb.mono ?_
                      rintro e wc ⟨vb, rfl, hOb, hbc⟩
                      have hSc := Lib.hid (hSb.out.below hbc)
                      have hbrc := hbrb.trans (hbc.mono hbrb.size)
                      have hRb := Rds.own hOb
                      rw [hnow] at hRb
                      have hval := rvalue_any wc (hRa.out.below hbc) hRb (hI9.out.inv.held 0 (by omega)) (hI9.out.inv.held 1 (by omega)) _ _ hI9.out.inv.value.1 hI9.out.inv.value.2
                      dsimp only at hval
                      clear hrb hSb hbc hbrb hOb hRb hRa hnow
                      dsimp only
                      go_wp2_with fail
                      refine hval.mono ?_
                      rintro e wd ⟨⟨kk, rfl⟩, hbd⟩
                      have hSd := Lib.hid (hSc.out.below hbd)
                      have hbrd := hbrc.trans (hbd.mono hbrc.size)
                      clear hval hSc hbd hbrc
                      dsimp only
                      go_wp2_with fail
                      go_roundw
                      case rel => exact ⟨i + 1, _, _, ⟨sM, sv, sn, si, false⟩, _, _, _, _, false, by omega, by omega, rfl, rfl, rfl, rfl, rfl, by rw [hic], hSd, hI9, hbrd⟩
                      case measure => simp [intOf]; omega
                    · have hg9 := sget_any w4 hS9.out.blk
                      dsimp only at hg9
                      go_wp2_with fail
                      refine hg9.mono ?_
                      rintro e wa ⟨rfl, hba⟩
                      have hSa := Lib.hid (hS9.out.below hba)
                      have hbra := hbr9.trans (hba.mono hbr9.size)
                      have hnow := congrArg DM.now hI9.out.inv.M
                      (try dsimp only at hnow)
                      have hra := read_any (nN ++ sufC 0) wa (by decide) hSa.out.dsk hI9.out.ok
                      change Calls Try.prog 14 #[.pointer (some ⟨db, 0, none⟩), .string ⟨#[110, 45, 97]⟩] wa _ at hra
                      clear hg9 hS9 hba hbr9
                      dsimp only
                      go_wp2_with fail
                      refine hra.mono ?_
                      rintro e wb ⟨va, rfl, hOa, hbb⟩
                      have hSb := Lib.hid (hSa.out.below hbb)
                      have hbrb := hbra.trans (hbb.mono hbra.size)
                      have hRa := Rds.own hOa
                      rw [hnow] at hRa
                      replace hRa := Lib.hid hRa
                      have hrb := read_any (nN ++ sufC 1) wb (by decide) hSb.out.dsk hI9.out.ok
                      change Calls Try.prog 14 #[.pointer (some ⟨db, 0, none⟩), .string ⟨#[110, 45, 98]⟩] wb _ at hrb
                      clear hra hSa hbb hbra hOa
                      dsimp only
                      go_wp2_with fail
                      refine hrb.mono ?_
                      rintro e wc ⟨vb, rfl, hOb, hbc⟩
                      have hSc := Lib.hid (hSb.out.below hbc)
                      have hbrc := hbrb.trans (hbc.mono hbrb.size)
                      have hRb := Rds.own hOb
                      rw [hnow] at hRb
                      have hval := rvalue_any wc (hRa.out.below hbc) hRb (hI9.out.inv.held 0 (by omega)) (hI9.out.inv.held 1 (by omega)) _ _ hI9.out.inv.value.1 hI9.out.inv.value.2
                      dsimp only at hval
                      clear hrb hSb hbc hbrb hOb hRb hRa hnow
                      dsimp only
                      go_wp2_with fail
                      refine hval.mono ?_
                      rintro e wd ⟨⟨kk, rfl⟩, hbd⟩
                      have hSd := Lib.hid (hSc.out.below hbd)
                      have hbrd := hbrc.trans (hbd.mono hbrc.size)
                      clear hval hSc hbd hbrc
                      dsimp only
                      go_wp2_with fail
                      go_roundw
                      case rel => exact ⟨i + 1, _, _, ⟨sM, sv, sn, si, false⟩, _, _, _, _, true, by omega, by omega, rfl, rfl, rfl, rfl, rfl, by rw [hic], hSd, hI9, hbrd⟩
                      case measure => simp [intOf]; omega
        · have d3 : decide ((2000 : Int) < (val.size : Int)) = false := by simp; omega
          go_upto_region 13 with fail
          generalize hw4 : wr.alloc _ = w4
          have hP : Blk w4 wr.heap.size #[.int .i64 kind, .string val, .int .i64 room, .slice pa pl pc] 40 := by rw [← hw4]; exact Blk.new _ _ _
          have hb4d : Below wr.heap.size wr w4 := by rw [← hw4]; exact belowAlloc _ _
          have hS4 := hS.out.below hb4d
          have hbr4 := hbr.trans (hb4d.mono hbr.size)
          obtain ⟨pv, hpvq⟩ : ∃ pv, pv = val := ⟨_, rfl⟩
          have hpv : pv.size ≤ 60000 := by rw [hpvq]; omega
          rw [← hpvq] at hP
          generalize wr.heap.size = pb at hP hpn ⊢
          have hpl4 := hP.lt
          have c0 : w4.cell? ⟨pb, 0, none⟩ = some (.int .i64 kind) := hP.cellAt rfl
          clear hw4 hb4d hS k0 k1 k2 k3 hpvq hvz hbw hbr d3 hlong
          dsimp only at hS4
          by_cases h0 : kind = 0
          · subst h0
            as_aux_lemma =>
              have hf5 := t_fail false hS4 hbr4
              go_wp2_with fail
              refine hf5.mono ?_
              rintro e w5 ⟨⟨v5, rfl⟩, x5, hS5, hbr5, hap5⟩
              obtain ⟨hpn5, hpe5⟩ := hap5 pb hpl4 hpn.out
              have hP5 : Blk w5 pb #[.int .i64 0, .string pv, .int .i64 room, .slice pa pl pc] 40 := by unfold Blk at hP ⊢; rw [hpe5]; exact hP
              have c51 : w5.cell? ⟨pb, 1, none⟩ = some (.string pv) := hP5.cellAt rfl
              have hpl5 := hP5.lt
              have hputs := t_puts hI.out h100 torn false hpv
              have hokf := hI.out.ok.fail false
              have hnn := hI.out.n
              clear hf5 hap5 hpe5 hP hS4 c0
              dsimp only at hputs hokf hnn
              cases torn
              · rcases hputs.2.2 rfl rfl with hm | ⟨M', L', H', k', hm, hI2⟩
                · have hp6 := t_put pv hS5 hbr5 hm hokf (by omega) (by unfold maxLen; omega) (by show sn ≤ _; omega)
                  clear hputs hm
                  replace hS5 := Lib.hid hS5
                  dsimp only
                  go_wp2_with fail
                  refine hp6.mono ?_
                  rintro e w6 ⟨rfl, x6, hS6, hbr6, hap6⟩
                  obtain ⟨hpn6, hpe6⟩ := hap6 pb hpl5 hpn5
                  have hP6 : Blk w6 pb #[.int .i64 0, .string pv, .int .i64 room, .slice pa pl pc] 40 := by unfold Blk at hP5 ⊢; rw [hpe6]; exact hP5
                  have hpl6 := hP6.lt
                  have hf7 := t_fail false hS6 hbr6
                  dsimp only at hf7
                  replace hS6 := Lib.hid hS6
                  clear hp6 hap6 hpe6 hP5 hS5 c51
                  dsimp only
                  go_wp2_with fail
                  refine hf7.mono ?_
                  rintro e w7 ⟨⟨v7, rfl⟩, x7, hS7, hbr9, hap7⟩
                  obtain ⟨hpn7, hpe7⟩ := hap7 pb hpl6 hpn6
                  have hP7 : Blk w7 pb #[.int .i64 0, .string pv, .int .i64 room, .slice pa pl pc] 40 := by unfold Blk at hP6 ⊢; rw [hpe7]; exact hP6
                  have c70 : w7.cell? ⟨pb, 0, none⟩ = some (.int .i64 0) := hP7.cellAt rfl
                  have c71 : w7.cell? ⟨pb, 1, none⟩ = some (.string pv) := hP7.cellAt rfl
                  clear hf7 hap7 hpe7 hP6 hS6
                  have hS9 : Hid (Slt w7 w1.heap.size db x7 sb nN { (⟨sM, sv, sn, si, false⟩ : SL) with br := true }) := Lib.hid (by
                    have h := hS7
                    (try dsimp only at h)
                    have hb := fail_back hI.out.inv.M false
                    dsimp only at hb
                    rw [hb] at h
                    exact h)
                  clear hS7
                  have hI9 := Lib.hid hI.out.next
                  have hic : ((i + 1 : Nat) : Int) = (i : Int) + 1 := by omega
                  have hg9 := sget_any w7 hS9.out.blk
                  dsimp only at hg9
                  go_wp2_with fail
                  refine hg9.mono ?_
                  rintro e wa ⟨rfl, hba⟩
                  have hSa := Lib.hid (hS9.out.below hba)
                  have hbra := hbr9.trans (hba.mono hbr9.size)
                  have hnow := congrArg DM.now hI9.out.inv.M
                  (try dsimp only at hnow)
                  have hra := read_any (nN ++ sufC 0) wa (by decide) hSa.out.dsk hI9.out.ok
                  change Calls Try.prog 14 #[.pointer (some ⟨db, 0, none⟩), .string ⟨#[110, 45, 97]⟩] wa _ at hra
                  clear hg9 hS9 hba hbr9
                  dsimp only
                  go_wp2_with fail
                  refine hra.mono ?_
                  rintro e wb ⟨va, rfl, hOa, hbb⟩
                  have hSb := Lib.hid (hSa.out.below hbb)
                  have hbrb := hbra.trans (hbb.mono hbra.size)
                  have hRa := Rds.own hOa
                  rw [hnow] at hRa
                  replace hRa := Lib.hid hRa
                  have hrb := read_any (nN ++ sufC 1) wb (by decide) hSb.out.dsk hI9.out.ok
                  change Calls Try.prog 14 #[.pointer (some ⟨db, 0, none⟩), .string ⟨#[110, 45, 98]⟩] wb _ at hrb
                  clear hra hSa hbb hbra hOa
                  dsimp only
                  go_wp2_with fail
                  refine hrb.mono ?_
                  rintro e wc ⟨vb, rfl, hOb, hbc⟩
                  have hSc := Lib.hid (hSb.out.below hbc)
                  have hbrc := hbrb.trans (hbc.mono hbrb.size)
                  have hRb := Rds.own hOb
                  rw [hnow] at hRb
                  have hval := rvalue_any wc (hRa.out.below hbc) hRb (hI9.out.inv.held 0 (by omega)) (hI9.out.inv.held 1 (by omega)) _ _ hI9.out.inv.value.1 hI9.out.inv.value.2
                  dsimp only at hval
                  clear hrb hSb hbc hbrb hOb hRb hRa hnow
                  dsimp only
                  go_wp2_with fail
                  refine hval.mono ?_
                  rintro e wd ⟨⟨kk, rfl⟩, hbd⟩
                  have hSd := Lib.hid (hSc.out.below hbd)
                  have hbrd := hbrc.trans (hbd.mono hbrc.size)
                  clear hval hSc hbd hbrc
                  dsimp only
                  go_wp2_with fail
                  go_roundw
                  case rel => exact ⟨i + 1, _, _, ⟨sM, sv, sn, si, false⟩, _, _, _, _, true, by omega, by omega, rfl, rfl, rfl, rfl, rfl, by rw [hic], hSd, hI9, hbrd⟩
                  case measure => simp [intOf]; omega
                · have hp6 := t_put pv hS5 hbr5 hm hokf (by omega) (by unfold maxLen; omega) (by show sn ≤ _; omega)
                  have hw1 : IntKind.i64.wrap ((sn : Int) + 1) = ((sn + 1 : Nat) : Int) := by rw [IntWalk.i64_in _ (by omega)]; omega
                  have hw1c : IntKind.i64.wrap (1 + (sn : Int)) = ((sn + 1 : Nat) : Int) := by rw [IntWalk.i64_in _ (by omega)]; omega
                  obtain ⟨n1, hn1⟩ : ∃ n1, n1 = sn + 1 := ⟨_, rfl⟩
                  rw [← hn1] at hp6 hw1 hw1c hI2
                  clear hputs hm hn1
                  replace hI2 := Lib.hid hI2
                  replace hS5 := Lib.hid hS5
                  dsimp only
                  go_wp2_with fail
                  refine hp6.mono ?_
                  rintro e w6 ⟨rfl, x6, hS6, hbr6, hap6⟩
                  obtain ⟨hpn6, hpe6⟩ := hap6 pb hpl5 hpn5
                  have hP6 : Blk w6 pb #[.int .i64 0, .string pv, .int .i64 room, .slice pa pl pc] 40 := by unfold Blk at hP5 ⊢; rw [hpe6]; exact hP5
                  have hpl6 := hP6.lt
                  have hf7 := t_fail false hS6 hbr6
                  dsimp only at hf7
                  replace hS6 := Lib.hid hS6
                  clear hp6 hap6 hpe6 hP5 hS5 c51
                  dsimp only
                  go_wp2_with fail
                  refine hf7.mono ?_
                  rintro e w7 ⟨⟨v7, rfl⟩, x7, hS7, hbr9, hap7⟩
                  obtain ⟨hpn7, hpe7⟩ := hap7 pb hpl6 hpn6
                  have hP7 : Blk w7 pb #[.int .i64 0, .string pv, .int .i64 room, .slice pa pl pc] 40 := by unfold Blk at hP6 ⊢; rw [hpe7]; exact hP6
                  have c70 : w7.cell? ⟨pb, 0, none⟩ = some (.int .i64 0) := hP7.cellAt rfl
                  have c71 : w7.cell? ⟨pb, 1, none⟩ = some (.string pv) := hP7.cellAt rfl
                  clear hf7 hap7 hpe7 hP6 hS6
                  have hS9 : Hid (Slt w7 w1.heap.size db x7 sb nN { (⟨M', pv, n1, k', false⟩ : SL) with br := false }) := Lib.hid (by
                    have h := hS7
                    (try dsimp only at h)
                    have hb := fail_off hI2.out.inv.M
                    dsimp only at hb
                    rw [hb] at h
                    exact h)
                  clear hS7
                  have hI9 := hI2
                  have hic : ((i + 1 : Nat) : Int) = (i : Int) + 1 := by omega
                  have hg9 := sget_any w7 hS9.out.blk
                  dsimp only at hg9
                  go_wp2_with fail
                  refine hg9.mono ?_
                  rintro e wa ⟨rfl, hba⟩
                  have hSa := Lib.hid (hS9.out.below hba)
                  have hbra := hbr9.trans (hba.mono hbr9.size)
                  have hnow := congrArg DM.now hI9.out.inv.M
                  (try dsimp only at hnow)
                  have hra := read_any (nN ++ sufC 0) wa (by decide) hSa.out.dsk hI9.out.ok
                  change Calls Try.prog 14 #[.pointer (some ⟨db, 0, none⟩), .string ⟨#[110, 45, 97]⟩] wa _ at hra
                  clear hg9 hS9 hba hbr9
                  dsimp only
                  go_wp2_with fail
                  refine hra.mono ?_
                  rintro e wb ⟨va, rfl, hOa, hbb⟩
                  have hSb := Lib.hid (hSa.out.below hbb)
                  have hbrb := hbra.trans (hbb.mono hbra.size)
                  have hRa := Rds.own hOa
                  rw [hnow] at hRa
                  replace hRa := Lib.hid hRa
                  have hrb := read_any (nN ++ sufC 1) wb (by decide) hSb.out.dsk hI9.out.ok
                  change Calls Try.prog 14 #[.pointer (some ⟨db, 0, none⟩), .string ⟨#[110, 45, 98]⟩] wb _ at hrb
                  clear hra hSa hbb hbra hOa
                  dsimp only
                  go_wp2_with fail
                  refine hrb.mono ?_
                  rintro e wc ⟨vb, rfl, hOb, hbc⟩
                  have hSc := Lib.hid (hSb.out.below hbc)
                  have hbrc := hbrb.trans (hbc.mono hbrb.size)
                  have hRb := Rds.own hOb
                  rw [hnow] at hRb
                  have hval := rvalue_any wc (hRa.out.below hbc) hRb (hI9.out.inv.held 0 (by omega)) (hI9.out.inv.held 1 (by omega)) _ _ hI9.out.inv.value.1 hI9.out.inv.value.2
                  dsimp only at hval
                  clear hrb hSb hbc hbrb hOb hRb hRa hnow
                  dsimp only
                  go_wp2_with fail
                  refine hval.mono ?_
                  rintro e wd ⟨⟨kk, rfl⟩, hbd⟩
                  have hSd := Lib.hid (hSc.out.below hbd)
                  have hbrd := hbrc.trans (hbd.mono hbrc.size)
                  clear hval hSc hbd hbrc
                  dsimp only
                  go_wp2_with fail
                  go_roundw
                  case rel => exact ⟨i + 1, _, _, ⟨M', pv, n1, k', false⟩, _, _, _, _, false, by omega, by omega, rfl, rfl, rfl, rfl, rfl, by rw [hic], hSd, hI9, hbrd⟩
                  case measure => simp [intOf]; omega
              · have hp6 := t_put pv hS5 hbr5 (hputs.1 rfl) hokf (by omega) (by unfold maxLen; omega) (by show sn ≤ _; omega)
                clear hputs
                replace hS5 := Lib.hid hS5
                dsimp only
                go_wp2_with fail
                refine hp6.mono ?_
                rintro e w6 ⟨rfl, x6, hS6, hbr6, hap6⟩
                obtain ⟨hpn6, hpe6⟩ := hap6 pb hpl5 hpn5
                have hP6 : Blk w6 pb #[.int .i64 0, .string pv, .int .i64 room, .slice pa pl pc] 40 := by unfold Blk at hP5 ⊢; rw [hpe6]; exact hP5
                have hpl6 := hP6.lt
                have hf7 := t_fail false hS6 hbr6
                dsimp only at hf7
                replace hS6 := Lib.hid hS6
                clear hp6 hap6 hpe6 hP5 hS5 c51
                dsimp only
                go_wp2_with fail
                refine hf7.mono ?_
                rintro e w7 ⟨⟨v7, rfl⟩, x7, hS7, hbr9, hap7⟩
                obtain ⟨hpn7, hpe7⟩ := hap7 pb hpl6 hpn6
                have hP7 : Blk w7 pb #[.int .i64 0, .string pv, .int .i64 room, .slice pa pl pc] 40 := by unfold Blk at hP6 ⊢; rw [hpe7]; exact hP6
                have c70 : w7.cell? ⟨pb, 0, none⟩ = some (.int .i64 0) := hP7.cellAt rfl
                have c71 : w7.cell? ⟨pb, 1, none⟩ = some (.string pv) := hP7.cellAt rfl
                clear hf7 hap7 hpe7 hP6 hS6
                have hS9 : Hid (Slt w7 w1.heap.size db x7 sb nN { (⟨sM, sv, sn, si, false⟩ : SL) with br := true }) := Lib.hid (by
                  have h := hS7
                  (try dsimp only at h)
                  have hb := fail_back hI.out.inv.M false
                  dsimp only at hb
                  rw [hb] at h
                  exact h)
                clear hS7
                have hI9 := Lib.hid hI.out.next
                have hic : ((i + 1 : Nat) : Int) = (i : Int) + 1 := by omega
                have hg9 := sget_any w7 hS9.out.blk
                dsimp only at hg9
                go_wp2_with fail
                refine hg9.mono ?_
                rintro e wa ⟨rfl, hba⟩
                have hSa := Lib.hid (hS9.out.below hba)
                have hbra := hbr9.trans (hba.mono hbr9.size)
                have hnow := congrArg DM.now hI9.out.inv.M
                (try dsimp only at hnow)
                have hra := read_any (nN ++ sufC 0) wa (by decide) hSa.out.dsk hI9.out.ok
                change Calls Try.prog 14 #[.pointer (some ⟨db, 0, none⟩), .string ⟨#[110, 45, 97]⟩] wa _ at hra
                clear hg9 hS9 hba hbr9
                dsimp only
                go_wp2_with fail
                refine hra.mono ?_
                rintro e wb ⟨va, rfl, hOa, hbb⟩
                have hSb := Lib.hid (hSa.out.below hbb)
                have hbrb := hbra.trans (hbb.mono hbra.size)
                have hRa := Rds.own hOa
                rw [hnow] at hRa
                replace hRa := Lib.hid hRa
                have hrb := read_any (nN ++ sufC 1) wb (by decide) hSb.out.dsk hI9.out.ok
                change Calls Try.prog 14 #[.pointer (some ⟨db, 0, none⟩), .string ⟨#[110, 45, 98]⟩] wb _ at hrb
                clear hra hSa hbb hbra hOa
                dsimp only
                go_wp2_with fail
                refine hrb.mono ?_
                rintro e wc ⟨vb, rfl, hOb, hbc⟩
                have hSc := Lib.hid (hSb.out.below hbc)
                have hbrc := hbrb.trans (hbc.mono hbrb.size)
                have hRb := Rds.own hOb
                rw [hnow] at hRb
                have hval := rvalue_any wc (hRa.out.below hbc) hRb (hI9.out.inv.held 0 (by omega)) (hI9.out.inv.held 1 (by omega)) _ _ hI9.out.inv.value.1 hI9.out.inv.value.2
                dsimp only at hval
                clear hrb hSb hbc hbrb hOb hRb hRa hnow
                dsimp only
                go_wp2_with fail
                refine hval.mono ?_
                rintro e wd ⟨⟨kk, rfl⟩, hbd⟩
                have hSd := Lib.hid (hSc.out.below hbd)
                have hbrd := hbrc.trans (hbd.mono hbrc.size)
                clear hval hSc hbd hbrc
                dsimp only
                go_wp2_with fail
                go_roundw
                case rel => exact ⟨i + 1, _, _, ⟨sM, sv, sn, si, false⟩, _, _, _, _, true, by omega, by omega, rfl, rfl, rfl, rfl, rfl, by rw [hic], hSd, hI9, hbrd⟩
                case measure => simp [intOf]; omega
          · by_cases h2 : kind = 2
            · subst h2
              as_aux_lemma =>
                have hf5 := t_fail true hS4 hbr4
                go_wp2_with fail
                refine hf5.mono ?_
                rintro e w5 ⟨⟨v5, rfl⟩, x5, hS5, hbr5, hap5⟩
                obtain ⟨hpn5, hpe5⟩ := hap5 pb hpl4 hpn.out
                have hP5 : Blk w5 pb #[.int .i64 2, .string pv, .int .i64 room, .slice pa pl pc] 40 := by unfold Blk at hP ⊢; rw [hpe5]; exact hP
                have c51 : w5.cell? ⟨pb, 1, none⟩ = some (.string pv) := hP5.cellAt rfl
                have hpl5 := hP5.lt
                have hputs := t_puts hI.out h100 torn true hpv
                have hokf := hI.out.ok.fail true
                have hnn := hI.out.n
                clear hf5 hap5 hpe5 hP hS4 c0
                dsimp only at hputs hokf hnn
                cases torn
                · have hp6 := t_put pv hS5 hbr5 (hputs.2.1 rfl rfl) hokf (by omega) (by unfold maxLen; omega) (by show sn ≤ _; omega)
                  clear hputs
                  replace hS5 := Lib.hid hS5
                  dsimp only
                  go_wp2_with fail
                  refine hp6.mono ?_
                  rintro e w6 ⟨rfl, x6, hS6, hbr6, hap6⟩
                  obtain ⟨hpn6, hpe6⟩ := hap6 pb hpl5 hpn5
                  have hP6 : Blk w6 pb #[.int .i64 2, .string pv, .int .i64 room, .slice pa pl pc] 40 := by unfold Blk at hP5 ⊢; rw [hpe6]; exact hP5
                  have hpl6 := hP6.lt
                  have hf7 := t_fail false hS6 hbr6
                  dsimp only at hf7
                  replace hS6 := Lib.hid hS6
                  clear hp6 hap6 hpe6 hP5 hS5 c51
                  dsimp only
                  go_wp2_with fail
                  refine hf7.mono ?_
                  rintro e w7 ⟨⟨v7, rfl⟩, x7, hS7, hbr9, hap7⟩
                  obtain ⟨hpn7, hpe7⟩ := hap7 pb hpl6 hpn6
                  have hP7 : Blk w7 pb #[.int .i64 2, .string pv, .int .i64 room, .slice pa pl pc] 40 := by unfold Blk at hP6 ⊢; rw [hpe7]; exact hP6
                  have c70 : w7.cell? ⟨pb, 0, none⟩ = some (.int .i64 2) := hP7.cellAt rfl
                  have c71 : w7.cell? ⟨pb, 1, none⟩ = some (.string pv) := hP7.cellAt rfl
                  clear hf7 hap7 hpe7 hP6 hS6
                  have hS9 : Hid (Slt w7 w1.heap.size db x7 sb nN { (⟨sM, sv, sn, si, false⟩ : SL) with br := true }) := Lib.hid (by
                    have h := hS7
                    (try dsimp only at h)
                    have hb := fail_back hI.out.inv.M true
                    dsimp only at hb
                    rw [hb] at h
                    exact h)
                  clear hS7
                  have hI9 := Lib.hid hI.out.next
                  have hic : ((i + 1 : Nat) : Int) = (i : Int) + 1 := by omega
                  have hg9 := sget_any w7 hS9.out.blk
                  dsimp only at hg9
                  go_wp2_with fail
                  refine hg9.mono ?_
                  rintro e wa ⟨rfl, hba⟩
                  have hSa := Lib.hid (hS9.out.below hba)
                  have hbra := hbr9.trans (hba.mono hbr9.size)
                  have hnow := congrArg DM.now hI9.out.inv.M
                  (try dsimp only at hnow)
                  have hra := read_any (nN ++ sufC 0) wa (by decide) hSa.out.dsk hI9.out.ok
                  change Calls Try.prog 14 #[.pointer (some ⟨db, 0, none⟩), .string ⟨#[110, 45, 97]⟩] wa _ at hra
                  clear hg9 hS9 hba hbr9
                  dsimp only
                  go_wp2_with fail
                  refine hra.mono ?_
                  rintro e wb ⟨va, rfl, hOa, hbb⟩
                  have hSb := Lib.hid (hSa.out.below hbb)
                  have hbrb := hbra.trans (hbb.mono hbra.size)
                  have hRa := Rds.own hOa
                  rw [hnow] at hRa
                  replace hRa := Lib.hid hRa
                  have hrb := read_any (nN ++ sufC 1) wb (by decide) hSb.out.dsk hI9.out.ok
                  change Calls Try.prog 14 #[.pointer (some ⟨db, 0, none⟩), .string ⟨#[110, 45, 98]⟩] wb _ at hrb
                  clear hra hSa hbb hbra hOa
                  dsimp only
                  go_wp2_with fail
                  refine hrb.mono ?_
                  rintro e wc ⟨vb, rfl, hOb, hbc⟩
                  have hSc := Lib.hid (hSb.out.below hbc)
                  have hbrc := hbrb.trans (hbc.mono hbrb.size)
                  have hRb := Rds.own hOb
                  rw [hnow] at hRb
                  have hval := rvalue_any wc (hRa.out.below hbc) hRb (hI9.out.inv.held 0 (by omega)) (hI9.out.inv.held 1 (by omega)) _ _ hI9.out.inv.value.1 hI9.out.inv.value.2
                  dsimp only at hval
                  clear hrb hSb hbc hbrb hOb hRb hRa hnow
                  dsimp only
                  go_wp2_with fail
                  refine hval.mono ?_
                  rintro e wd ⟨⟨kk, rfl⟩, hbd⟩
                  have hSd := Lib.hid (hSc.out.below hbd)
                  have hbrd := hbrc.trans (hbd.mono hbrc.size)
                  clear hval hSc hbd hbrc
                  dsimp only
                  go_wp2_with fail
                  go_roundw
                  case rel => exact ⟨i + 1, _, _, ⟨sM, sv, sn, si, false⟩, _, _, _, _, true, by omega, by omega, rfl, rfl, rfl, rfl, rfl, by rw [hic], hSd, hI9, hbrd⟩
                  case measure => simp [intOf]; omega
                · have hp6 := t_put pv hS5 hbr5 (hputs.1 rfl) hokf (by omega) (by unfold maxLen; omega) (by show sn ≤ _; omega)
                  clear hputs
                  replace hS5 := Lib.hid hS5
                  dsimp only
                  go_wp2_with fail
                  refine hp6.mono ?_
                  rintro e w6 ⟨rfl, x6, hS6, hbr6, hap6⟩
                  obtain ⟨hpn6, hpe6⟩ := hap6 pb hpl5 hpn5
                  have hP6 : Blk w6 pb #[.int .i64 2, .string pv, .int .i64 room, .slice pa pl pc] 40 := by unfold Blk at hP5 ⊢; rw [hpe6]; exact hP5
                  have hpl6 := hP6.lt
                  have hf7 := t_fail false hS6 hbr6
                  dsimp only at hf7
                  replace hS6 := Lib.hid hS6
                  clear hp6 hap6 hpe6 hP5 hS5 c51
                  dsimp only
                  go_wp2_with fail
                  refine hf7.mono ?_
                  rintro e w7 ⟨⟨v7, rfl⟩, x7, hS7, hbr9, hap7⟩
                  obtain ⟨hpn7, hpe7⟩ := hap7 pb hpl6 hpn6
                  have hP7 : Blk w7 pb #[.int .i64 2, .string pv, .int .i64 room, .slice pa pl pc] 40 := by unfold Blk at hP6 ⊢; rw [hpe7]; exact hP6
                  have c70 : w7.cell? ⟨pb, 0, none⟩ = some (.int .i64 2) := hP7.cellAt rfl
                  have c71 : w7.cell? ⟨pb, 1, none⟩ = some (.string pv) := hP7.cellAt rfl
                  clear hf7 hap7 hpe7 hP6 hS6
                  have hS9 : Hid (Slt w7 w1.heap.size db x7 sb nN { (⟨sM, sv, sn, si, false⟩ : SL) with br := true }) := Lib.hid (by
                    have h := hS7
                    (try dsimp only at h)
                    have hb := fail_back hI.out.inv.M true
                    dsimp only at hb
                    rw [hb] at h
                    exact h)
                  clear hS7
                  have hI9 := Lib.hid hI.out.next
                  have hic : ((i + 1 : Nat) : Int) = (i : Int) + 1 := by omega
                  have hg9 := sget_any w7 hS9.out.blk
                  dsimp only at hg9
                  go_wp2_with fail
                  refine hg9.mono ?_
                  rintro e wa ⟨rfl, hba⟩
                  have hSa := Lib.hid (hS9.out.below hba)
                  have hbra := hbr9.trans (hba.mono hbr9.size)
                  have hnow := congrArg DM.now hI9.out.inv.M
                  (try dsimp only at hnow)
                  have hra := read_any (nN ++ sufC 0) wa (by decide) hSa.out.dsk hI9.out.ok
                  change Calls Try.prog 14 #[.pointer (some ⟨db, 0, none⟩), .string ⟨#[110, 45, 97]⟩] wa _ at hra
                  clear hg9 hS9 hba hbr9
                  dsimp only
                  go_wp2_with fail
                  refine hra.mono ?_
                  rintro e wb ⟨va, rfl, hOa, hbb⟩
                  have hSb := Lib.hid (hSa.out.below hbb)
                  have hbrb := hbra.trans (hbb.mono hbra.size)
                  have hRa := Rds.own hOa
                  rw [hnow] at hRa
                  replace hRa := Lib.hid hRa
                  have hrb := read_any (nN ++ sufC 1) wb (by decide) hSb.out.dsk hI9.out.ok
                  change Calls Try.prog 14 #[.pointer (some ⟨db, 0, none⟩), .string ⟨#[110, 45, 98]⟩] wb _ at hrb
                  clear hra hSa hbb hbra hOa
                  dsimp only
                  go_wp2_with fail
                  refine hrb.mono ?_
                  rintro e wc ⟨vb, rfl, hOb, hbc⟩
                  have hSc := Lib.hid (hSb.out.below hbc)
                  have hbrc := hbrb.trans (hbc.mono hbrb.size)
                  have hRb := Rds.own hOb
                  rw [hnow] at hRb
                  have hval := rvalue_any wc (hRa.out.below hbc) hRb (hI9.out.inv.held 0 (by omega)) (hI9.out.inv.held 1 (by omega)) _ _ hI9.out.inv.value.1 hI9.out.inv.value.2
                  dsimp only at hval
                  clear hrb hSb hbc hbrb hOb hRb hRa hnow
                  dsimp only
                  go_wp2_with fail
                  refine hval.mono ?_
                  rintro e wd ⟨⟨kk, rfl⟩, hbd⟩
                  have hSd := Lib.hid (hSc.out.below hbd)
                  have hbrd := hbrc.trans (hbd.mono hbrc.size)
                  clear hval hSc hbd hbrc
                  dsimp only
                  go_wp2_with fail
                  go_roundw
                  case rel => exact ⟨i + 1, _, _, ⟨sM, sv, sn, si, false⟩, _, _, _, _, true, by omega, by omega, rfl, rfl, rfl, rfl, rfl, by rw [hic], hSd, hI9, hbrd⟩
                  case measure => simp [intOf]; omega
            · have q0 : (kind == 0) = false := by simp [h0]
              have q2 : (kind == 2) = false := by simp [h2]
              by_cases h1 : kind = 1
              · subst h1
                as_aux_lemma =>
                  have c3 : w4.cell? ⟨pb, 3, none⟩ = some (.slice pa pl pc) := hP.cellAt rfl
                  have hcr := crash_ok picks pa pc w4 hS4.dsk hI.out.ok (by omega) hbr4.size (hpk2.out w4 (hb1.trans (hbr4.mono hb1.size)))
                  rw [← hpl.out] at hcr
                  have hMs := hI.out.inv.M
                  dsimp only at hMs hcr
                  rw [hMs, crash_std, ← hMs] at hcr
                  have hop := fun (w5 : World) (x5 : DX) (hD5 : Dsk w5 w1.heap.size db x5 sM) (hb5 : Below w1.heap.size w1 w5) => sopen_any nN H w5 (by decide) hD5 hI.out.ok hb5.size (fun _ j hj => by
                    have h := hI.out.inv.held j hj
                    rw [hMs]
                    exact h)
                  have hopn := hI.out.inv.opn
                  dsimp only at hopn
                  rw [hopn] at hop
                  have hnn := hI.out.n
                  dsimp only at hnn
                  have hw1 : IntKind.i64.wrap ((sn : Int) + 1) = ((sn + 1 : Nat) : Int) := by rw [IntWalk.i64_in _ (by omega)]; omega
                  have hw1c : IntKind.i64.wrap (1 + (sn : Int)) = ((sn + 1 : Nat) : Int) := by rw [IntWalk.i64_in _ (by omega)]; omega
                  obtain ⟨n1, hn1⟩ : ∃ n1, n1 = sn + 1 := ⟨_, rfl⟩
                  rw [← hn1] at hw1 hw1c
                  have hne : ((sn : Int) == (n1 : Int)) = false := by simp; omega
                  replace hop := Lib.hid hop
                  replace hcr := Lib.hid hcr
                  clear hMs hopn hn1 hS4 hP
                  go_wp2_with fail
                  refine hcr.out.mono ?_
                  rintro e w5 ⟨⟨v5, rfl⟩, x5, hD5, hb5⟩
                  have hop5 := hop.out w5 x5 hD5 (hbr4.trans hb5)
                  change Calls Try.prog 8 #[.pointer (some ⟨db, 0, none⟩), .string ⟨#[110]⟩] w5 _ at hop5
                  have hbr5 := hbr4.trans hb5
                  clear hcr hop hD5 hb5
                  dsimp only
                  go_wp2_with fail
                  refine hop5.mono ?_
                  rintro e w6 ⟨hb6, _, hyes⟩
                  obtain ⟨sb6, rfl, hS6⟩ := hyes name_n
                  have hbr6 := hbr5.trans (hb6.mono hbr5.size)
                  have hg6 := sget_any w6 hS6.blk
                  replace hS6 := Lib.hid hS6
                  clear hop5 hyes hb6
                  dsimp only
                  go_wp2_with fail
                  refine hg6.mono ?_
                  rintro e w7 ⟨rfl, hb7⟩
                  have hS9 : Hid (Slt w7 w1.heap.size db x5 sb6 nN { (⟨sM, sv, sn, si, false⟩ : SL) with br := false }) := Lib.hid (hS6.out.below hb7)
                  have hbr9 := hbr6.trans (hb7.mono hbr6.size)
                  have hI9 := Lib.hid hI.out.next
                  have hic : ((i + 1 : Nat) : Int) = (i : Int) + 1 := by omega
                  clear hg6 hS6 hb7 hbr6 hbr5
                  dsimp only
                  cases torn
                  · have hg9 := sget_any w7 hS9.out.blk
                    dsimp only at hg9
                    go_wp2_with fail
                    refine hg9.mono ?_
                    rintro e wa ⟨rfl, hba⟩
                    have hSa := Lib.hid (hS9.out.below hba)
                    have hbra := hbr9.trans (hba.mono hbr9.size)
                    have hnow := congrArg DM.now hI9.out.inv.M
                    (try dsimp only at hnow)
                    have hra := read_any (nN ++ sufC 0) wa (by decide) hSa.out.dsk hI9.out.ok
                    change Calls Try.prog 14 #[.pointer (some ⟨db, 0, none⟩), .string ⟨#[110, 45, 97]⟩] wa _ at hra
                    clear hg9 hS9 hba hbr9
                    dsimp only
                    go_wp2_with fail
                    refine hra.mono ?_
                    rintro e wb ⟨va, rfl, hOa, hbb⟩
                    have hSb := Lib.hid (hSa.out.below hbb)
                    have hbrb := hbra.trans (hbb.mono hbra.size)
                    have hRa := Rds.own hOa
                    rw [hnow] at hRa
                    replace hRa := Lib.hid hRa
                    have hrb := read_any (nN ++ sufC 1) wb (by decide) hSb.out.dsk hI9.out.ok
                    change Calls Try.prog 14 #[.pointer (some ⟨db, 0, none⟩), .string ⟨#[110, 45, 98]⟩] wb _ at hrb
                    clear hra hSa hbb hbra hOa
                    dsimp only
                    go_wp2_with fail
                    refine hrb.mono ?_
                    rintro e wc ⟨vb, rfl, hOb, hbc⟩
                    have hSc := Lib.hid (hSb.out.below hbc)
                    have hbrc := hbrb.trans (hbc.mono hbrb.size)
                    have hRb := Rds.own hOb
                    rw [hnow] at hRb
                    have hval := rvalue_any wc (hRa.out.below hbc) hRb (hI9.out.inv.held 0 (by omega)) (hI9.out.inv.held 1 (by omega)) _ _ hI9.out.inv.value.1 hI9.out.inv.value.2
                    dsimp only at hval
                    clear hrb hSb hbc hbrb hOb hRb hRa hnow
                    dsimp only
                    go_wp2_with fail
                    refine hval.mono ?_
                    rintro e wd ⟨⟨kk, rfl⟩, hbd⟩
                    have hSd := Lib.hid (hSc.out.below hbd)
                    have hbrd := hbrc.trans (hbd.mono hbrc.size)
                    clear hval hSc hbd hbrc
                    dsimp only
                    go_wp2_with fail
                    go_roundw
                    case rel => exact ⟨i + 1, _, _, ⟨sM, sv, sn, si, false⟩, _, _, _, _, false, by omega, by omega, rfl, rfl, rfl, rfl, rfl, by rw [hic], hSd, hI9, hbrd⟩
                    case measure => simp [intOf]; omega
                  · by_cases hso : sv = other
                    · subst hso
                      have hg9 := sget_any w7 hS9.out.blk
                      dsimp only at hg9
                      go_wp2_with fail
                      refine hg9.mono ?_
                      rintro e wa ⟨rfl, hba⟩
                      have hSa := Lib.hid (hS9.out.below hba)
                      have hbra := hbr9.trans (hba.mono hbr9.size)
                      have hnow := congrArg DM.now hI9.out.inv.M
                      (try dsimp only at hnow)
                      have hra := read_any (nN ++ sufC 0) wa (by decide) hSa.out.dsk hI9.out.ok
                      change Calls Try.prog 14 #[.pointer (some ⟨db, 0, none⟩), .string ⟨#[110, 45, 97]⟩] wa _ at hra
                      clear hg9 hS9 hba hbr9
                      dsimp only
                      go_wp2_with fail
                      refine hra.mono ?_
                      rintro e wb ⟨va, rfl, hOa, hbb⟩
                      have hSb := Lib.hid (hSa.out.below hbb)
                      have hbrb := hbra.trans (hbb.mono hbra.size)
                      have hRa := Rds.own hOa
                      rw [hnow] at hRa
                      replace hRa := Lib.hid hRa
                      have hrb := read_any (nN ++ sufC 1) wb (by decide) hSb.out.dsk hI9.out.ok
                      change Calls Try.prog 14 #[.pointer (some ⟨db, 0, none⟩), .string ⟨#[110, 45, 98]⟩] wb _ at hrb
                      clear hra hSa hbb hbra hOa
                      dsimp only
                      go_wp2_with fail
                      refine hrb.mono ?_
                      rintro e wc ⟨vb, rfl, hOb, hbc⟩
                      have hSc := Lib.hid (hSb.out.below hbc)
                      have hbrc := hbrb.trans (hbc.mono hbrb.size)
                      have hRb := Rds.own hOb
                      rw [hnow] at hRb
                      have hval := rvalue_any wc (hRa.out.below hbc) hRb (hI9.out.inv.held 0 (by omega)) (hI9.out.inv.held 1 (by omega)) _ _ hI9.out.inv.value.1 hI9.out.inv.value.2
                      dsimp only at hval
                      clear hrb hSb hbc hbrb hOb hRb hRa hnow
                      dsimp only
                      go_wp2_with fail
                      refine hval.mono ?_
                      rintro e wd ⟨⟨kk, rfl⟩, hbd⟩
                      have hSd := Lib.hid (hSc.out.below hbd)
                      have hbrd := hbrc.trans (hbd.mono hbrc.size)
                      clear hval hSc hbd hbrc
                      dsimp only
                      go_wp2_with fail
                      go_roundw
                      case rel => exact ⟨i + 1, _, _, ⟨sM, sv, sn, si, false⟩, _, _, _, _, false, by omega, by omega, rfl, rfl, rfl, rfl, rfl, by rw [hic], hSd, hI9, hbrd⟩
                      case measure => simp [intOf]; omega
                    · have hsl : ¬ sv.toList = other.toList := fun h => hso (by rw [ByteArray.toList_eq, ByteArray.toList_eq] at h; exact ByteArray.ext (Array.toList_inj.1 h))
                      have hg9 := sget_any w7 hS9.out.blk
                      dsimp only at hg9
                      go_wp2_with fail
                      refine hg9.mono ?_
                      rintro e wa ⟨rfl, hba⟩
                      have hSa := Lib.hid (hS9.out.below hba)
                      have hbra := hbr9.trans (hba.mono hbr9.size)
                      have hnow := congrArg DM.now hI9.out.inv.M
                      (try dsimp only at hnow)
                      have hra := read_any (nN ++ sufC 0) wa (by decide) hSa.out.dsk hI9.out.ok
                      change Calls Try.prog 14 #[.pointer (some ⟨db, 0, none⟩), .string ⟨#[110, 45, 97]⟩] wa _ at hra
                      clear hg9 hS9 hba hbr9
                      dsimp only
                      go_wp2_with fail
                      refine hra.mono ?_
                      rintro e wb ⟨va, rfl, hOa, hbb⟩
                      have hSb := Lib.hid (hSa.out.below hbb)
                      have hbrb := hbra.trans (hbb.mono hbra.size)
                      have hRa := Rds.own hOa
                      rw [hnow] at hRa
                      replace hRa := Lib.hid hRa
                      have hrb := read_any (nN ++ sufC 1) wb (by decide) hSb.out.dsk hI9.out.ok
                      change Calls Try.prog 14 #[.pointer (some ⟨db, 0, none⟩), .string ⟨#[110, 45, 98]⟩] wb _ at hrb
                      clear hra hSa hbb hbra hOa
                      dsimp only
                      go_wp2_with fail
                      refine hrb.mono ?_
                      rintro e wc ⟨vb, rfl, hOb, hbc⟩
                      have hSc := Lib.hid (hSb.out.below hbc)
                      have hbrc := hbrb.trans (hbc.mono hbrb.size)
                      have hRb := Rds.own hOb
                      rw [hnow] at hRb
                      have hval := rvalue_any wc (hRa.out.below hbc) hRb (hI9.out.inv.held 0 (by omega)) (hI9.out.inv.held 1 (by omega)) _ _ hI9.out.inv.value.1 hI9.out.inv.value.2
                      dsimp only at hval
                      clear hrb hSb hbc hbrb hOb hRb hRa hnow
                      dsimp only
                      go_wp2_with fail
                      refine hval.mono ?_
                      rintro e wd ⟨⟨kk, rfl⟩, hbd⟩
                      have hSd := Lib.hid (hSc.out.below hbd)
                      have hbrd := hbrc.trans (hbd.mono hbrc.size)
                      clear hval hSc hbd hbrc
                      dsimp only
                      go_wp2_with fail
                      go_roundw
                      case rel => exact ⟨i + 1, _, _, ⟨sM, sv, sn, si, false⟩, _, _, _, _, false, by omega, by omega, rfl, rfl, rfl, rfl, rfl, by rw [hic], hSd, hI9, hbrd⟩
                      case measure => simp [intOf]; omega
              · have q1 : (kind == 1) = false := by simp [h1]
                by_cases h3 : kind = 3
                · subst h3
                  as_aux_lemma =>
                    have c2 : w4.cell? ⟨pb, 2, none⟩ = some (.int .i64 room) := hP.cellAt rfl
                    obtain ⟨kr, hkr, hrm⟩ := room_ok room
                    have hrw : IntKind.i64.wrap (kr : Int) = (kr : Int) := IntWalk.i64_in _ (by omega)
                    have hw2 : IntKind.i64.wrap (2000 + (kr : Int)) = 2000 + (kr : Int) := IntWalk.i64_in _ (by omega)
                    have hlm := t_limit (2000 + (kr : Int)) hS4 hbr4 (by omega) (by omega)
                    have hI9 := Lib.hid (hI.out.lim (r' := 2000 + (kr : Int)) (by omega) (by omega)).next
                    replace hS4 := Lib.hid hS4
                    clear hP
                    go_wp2_with fail
                    refine hlm.mono ?_
                    rintro e w5 ⟨⟨v5, rfl⟩, x5, hS5, hbr9, _⟩
                    have hS9 := Lib.hid hS5
                    have hic : ((i + 1 : Nat) : Int) = (i : Int) + 1 := by omega
                    clear hlm hS5 hS4 hrm hrw hw2 c2
                    dsimp only at hS9 hI9 ⊢
                    cases torn
                    · have hg9 := sget_any w5 hS9.out.blk
                      dsimp only at hg9
                      go_wp2_with fail
                      refine hg9.mono ?_
                      rintro e wa ⟨rfl, hba⟩
                      have hSa := Lib.hid (hS9.out.below hba)
                      have hbra := hbr9.trans (hba.mono hbr9.size)
                      have hnow := congrArg DM.now hI9.out.inv.M
                      (try dsimp only at hnow)
                      have hra := read_any (nN ++ sufC 0) wa (by decide) hSa.out.dsk hI9.out.ok
                      change Calls Try.prog 14 #[.pointer (some ⟨db, 0, none⟩), .string ⟨#[110, 45, 97]⟩] wa _ at hra
                      clear hg9 hS9 hba hbr9
                      dsimp only
                      go_wp2_with fail
                      refine hra.mono ?_
                      rintro e wb ⟨va, rfl, hOa, hbb⟩
                      have hSb := Lib.hid (hSa.out.below hbb)
                      have hbrb := hbra.trans (hbb.mono hbra.size)
                      have hRa := Rds.own hOa
                      rw [hnow] at hRa
                      replace hRa := Lib.hid hRa
                      have hrb := read_any (nN ++ sufC 1) wb (by decide) hSb.out.dsk hI9.out.ok
                      change Calls Try.prog 14 #[.pointer (some ⟨db, 0, none⟩), .string ⟨#[110, 45, 98]⟩] wb _ at hrb
                      clear hra hSa hbb hbra hOa
                      dsimp only
                      go_wp2_with fail
                      refine hrb.mono ?_
                      rintro e wc ⟨vb, rfl, hOb, hbc⟩
                      have hSc := Lib.hid (hSb.out.below hbc)
                      have hbrc := hbrb.trans (hbc.mono hbrb.size)
                      have hRb := Rds.own hOb
                      rw [hnow] at hRb
                      have hval := rvalue_any wc (hRa.out.below hbc) hRb (hI9.out.inv.held 0 (by omega)) (hI9.out.inv.held 1 (by omega)) _ _ hI9.out.inv.value.1 hI9.out.inv.value.2
                      dsimp only at hval
                      clear hrb hSb hbc hbrb hOb hRb hRa hnow
                      dsimp only
                      go_wp2_with fail
                      refine hval.mono ?_
                      rintro e wd ⟨⟨kk, rfl⟩, hbd⟩
                      have hSd := Lib.hid (hSc.out.below hbd)
                      have hbrd := hbrc.trans (hbd.mono hbrc.size)
                      clear hval hSc hbd hbrc
                      dsimp only
                      go_wp2_with fail
                      go_roundw
                      case rel => exact ⟨i + 1, _, _, ⟨{ sM with room := 2000 + (kr : Int) }, sv, sn, si, false⟩, _, _, _, _, false, by omega, by omega, rfl, rfl, rfl, rfl, rfl, by rw [hic], hSd, hI9, hbrd⟩
                      case measure => simp [intOf]; omega
                    · have hg9 := sget_any w5 hS9.out.blk
                      dsimp only at hg9
                      go_wp2_with fail
                      refine hg9.mono ?_
                      rintro e wa ⟨rfl, hba⟩
                      have hSa := Lib.hid (hS9.out.below hba)
                      have hbra := hbr9.trans (hba.mono hbr9.size)
                      have hnow := congrArg DM.now hI9.out.inv.M
                      (try dsimp only at hnow)
                      have hra := read_any (nN ++ sufC 0) wa (by decide) hSa.out.dsk hI9.out.ok
                      change Calls Try.prog 14 #[.pointer (some ⟨db, 0, none⟩), .string ⟨#[110, 45, 97]⟩] wa _ at hra
                      clear hg9 hS9 hba hbr9
                      dsimp only
                      go_wp2_with fail
                      refine hra.mono ?_
                      rintro e wb ⟨va, rfl, hOa, hbb⟩
                      have hSb := Lib.hid (hSa.out.below hbb)
                      have hbrb := hbra.trans (hbb.mono hbra.size)
                      have hRa := Rds.own hOa
                      rw [hnow] at hRa
                      replace hRa := Lib.hid hRa
                      have hrb := read_any (nN ++ sufC 1) wb (by decide) hSb.out.dsk hI9.out.ok
                      change Calls Try.prog 14 #[.pointer (some ⟨db, 0, none⟩), .string ⟨#[110, 45, 98]⟩] wb _ at hrb
                      clear hra hSa hbb hbra hOa
                      dsimp only
                      go_wp2_with fail
                      refine hrb.mono ?_
                      rintro e wc ⟨vb, rfl, hOb, hbc⟩
                      have hSc := Lib.hid (hSb.out.below hbc)
                      have hbrc := hbrb.trans (hbc.mono hbrb.size)
                      have hRb := Rds.own hOb
                      rw [hnow] at hRb
                      have hval := rvalue_any wc (hRa.out.below hbc) hRb (hI9.out.inv.held 0 (by omega)) (hI9.out.inv.held 1 (by omega)) _ _ hI9.out.inv.value.1 hI9.out.inv.value.2
                      dsimp only at hval
                      clear hrb hSb hbc hbrb hOb hRb hRa hnow
                      dsimp only
                      go_wp2_with fail
                      refine hval.mono ?_
                      rintro e wd ⟨⟨kk, rfl⟩, hbd⟩
                      have hSd := Lib.hid (hSc.out.below hbd)
                      have hbrd := hbrc.trans (hbd.mono hbrc.size)
                      clear hval hSc hbd hbrc
                      dsimp only
                      go_wp2_with fail
                      go_roundw
                      case rel => exact ⟨i + 1, _, _, ⟨{ sM with room := 2000 + (kr : Int) }, sv, sn, si, false⟩, _, _, _, _, true, by omega, by omega, rfl, rfl, rfl, rfl, rfl, by rw [hic], hSd, hI9, hbrd⟩
                      case measure => simp [intOf]; omega
                · have q3 : (kind == 3) = false := by simp [h3]
                  as_aux_lemma =>
                    have hS9 := Lib.hid hS4
                    have hbr9 := hbr4
                    have hI9 := Lib.hid hI.out.next
                    have hic : ((i + 1 : Nat) : Int) = (i : Int) + 1 := by omega
                    clear hP hS4
                    cases torn
                    · have hg9 := sget_any w4 hS9.out.blk
                      dsimp only at hg9
                      go_wp2_with fail
                      refine hg9.mono ?_
                      rintro e wa ⟨rfl, hba⟩
                      have hSa := Lib.hid (hS9.out.below hba)
                      have hbra := hbr9.trans (hba.mono hbr9.size)
                      have hnow := congrArg DM.now hI9.out.inv.M
                      (try dsimp only at hnow)
                      have hra := read_any (nN ++ sufC 0) wa (by decide) hSa.out.dsk hI9.out.ok
                      change Calls Try.prog 14 #[.pointer (some ⟨db, 0, none⟩), .string ⟨#[110, 45, 97]⟩] wa _ at hra
                      clear hg9 hS9 hba hbr9
                      dsimp only
                      go_wp2_with fail
                      refine hra.mono ?_
                      rintro e wb ⟨va, rfl, hOa, hbb⟩
                      have hSb := Lib.hid (hSa.out.below hbb)
                      have hbrb := hbra.trans (hbb.mono hbra.size)
                      have hRa := Rds.own hOa
                      rw [hnow] at hRa
                      replace hRa := Lib.hid hRa
                      have hrb := read_any (nN ++ sufC 1) wb (by decide) hSb.out.dsk hI9.out.ok
                      change Calls Try.prog 14 #[.pointer (some ⟨db, 0, none⟩), .string ⟨#[110, 45, 98]⟩] wb _ at hrb
                      clear hra hSa hbb hbra hOa
                      dsimp only
                      go_wp2_with fail
                      refine hrb.mono ?_
                      rintro e wc ⟨vb, rfl, hOb, hbc⟩
                      have hSc := Lib.hid (hSb.out.below hbc)
                      have hbrc := hbrb.trans (hbc.mono hbrb.size)
                      have hRb := Rds.own hOb
                      rw [hnow] at hRb
                      have hval := rvalue_any wc (hRa.out.below hbc) hRb (hI9.out.inv.held 0 (by omega)) (hI9.out.inv.held 1 (by omega)) _ _ hI9.out.inv.value.1 hI9.out.inv.value.2
                      dsimp only at hval
                      clear hrb hSb hbc hbrb hOb hRb hRa hnow
                      dsimp only
                      go_wp2_with fail
                      refine hval.mono ?_
                      rintro e wd ⟨⟨kk, rfl⟩, hbd⟩
                      have hSd := Lib.hid (hSc.out.below hbd)
                      have hbrd := hbrc.trans (hbd.mono hbrc.size)
                      clear hval hSc hbd hbrc
                      dsimp only
                      go_wp2_with fail
                      go_roundw
                      case rel => exact ⟨i + 1, _, _, ⟨sM, sv, sn, si, false⟩, _, _, _, _, false, by omega, by omega, rfl, rfl, rfl, rfl, rfl, by rw [hic], hSd, hI9, hbrd⟩
                      case measure => simp [intOf]; omega
                    · have hg9 := sget_any w4 hS9.out.blk
                      dsimp only at hg9
                      go_wp2_with fail
                      refine hg9.mono ?_
                      rintro e wa ⟨rfl, hba⟩
                      have hSa := Lib.hid (hS9.out.below hba)
                      have hbra := hbr9.trans (hba.mono hbr9.size)
                      have hnow := congrArg DM.now hI9.out.inv.M
                      (try dsimp only at hnow)
                      have hra := read_any (nN ++ sufC 0) wa (by decide) hSa.out.dsk hI9.out.ok
                      change Calls Try.prog 14 #[.pointer (some ⟨db, 0, none⟩), .string ⟨#[110, 45, 97]⟩] wa _ at hra
                      clear hg9 hS9 hba hbr9
                      dsimp only
                      go_wp2_with fail
                      refine hra.mono ?_
                      rintro e wb ⟨va, rfl, hOa, hbb⟩
                      have hSb := Lib.hid (hSa.out.below hbb)
                      have hbrb := hbra.trans (hbb.mono hbra.size)
                      have hRa := Rds.own hOa
                      rw [hnow] at hRa
                      replace hRa := Lib.hid hRa
                      have hrb := read_any (nN ++ sufC 1) wb (by decide) hSb.out.dsk hI9.out.ok
                      change Calls Try.prog 14 #[.pointer (some ⟨db, 0, none⟩), .string ⟨#[110, 45, 98]⟩] wb _ at hrb
                      clear hra hSa hbb hbra hOa
                      dsimp only
                      go_wp2_with fail
                      refine hrb.mono ?_
                      rintro e wc ⟨vb, rfl, hOb, hbc⟩
                      have hSc := Lib.hid (hSb.out.below hbc)
                      have hbrc := hbrb.trans (hbc.mono hbrb.size)
                      have hRb := Rds.own hOb
                      rw [hnow] at hRb
                      have hval := rvalue_any wc (hRa.out.below hbc) hRb (hI9.out.inv.held 0 (by omega)) (hI9.out.inv.held 1 (by omega)) _ _ hI9.out.inv.value.1 hI9.out.inv.value.2
                      dsimp only at hval
                      clear hrb hSb hbc hbrb hOb hRb hRa hnow
                      dsimp only
                      go_wp2_with fail
                      refine hval.mono ?_
                      rintro e wd ⟨⟨kk, rfl⟩, hbd⟩
                      have hSd := Lib.hid (hSc.out.below hbd)
                      have hbrd := hbrc.trans (hbd.mono hbrc.size)
                      clear hval hSc hbd hbrc
                      dsimp only
                      go_wp2_with fail
                      go_roundw
                      case rel => exact ⟨i + 1, _, _, ⟨sM, sv, sn, si, false⟩, _, _, _, _, true, by omega, by omega, rfl, rfl, rfl, rfl, rfl, by rw [hic], hSd, hI9, hbrd⟩
                      case measure => simp [intOf]; omega
      · have d2 : decide ((i : Int) < 100) = false := by simp; omega
        have hfin := hb1.trans (hbr.mono hb1.size)
        go_wp2_with fail
        go_ret
        exact ⟨rfl, hfin⟩
    · have d1 : decide ((i : Int) < (m : Int)) = false := by simp; omega
      have hfin := hb1.trans (hbr.mono hb1.size)
      go_wp2_with fail
      go_ret
      exact ⟨rfl, hfin⟩
end Go.Proofs.Ytjgiphoolfhlmaa
