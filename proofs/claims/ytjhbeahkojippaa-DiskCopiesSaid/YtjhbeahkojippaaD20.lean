/- Disk: DiskCopies. -/
import Derived.Test.YtjhbeahkojippaaD19
namespace Go.Proofs.Ytjhbeahkojippaa
open Go.RowKit Go.Maps
attribute [local go_sem] Oper.semAt_some
set_option linter.unusedVariables false
set_option linter.unusedSimpArgs false

set_option maxRecDepth 100000 in
set_option maxHeartbeats 8000000 in
theorem copies_any (ao ao1 ao2 : Option Addr) (cap cap1 cap2 : Nat) (xs xs1 xs2 : List SM) (w : World) (hx : SlA w.heap.size 5 (StP w.heap.size) w ao cap xs) (hx1 : SlA w.heap.size 5 (StP w.heap.size) w ao1 cap1 xs1) (hx2 : SlA w.heap.size 5 (StP w.heap.size) w ao2 cap2 xs2) :
    Calls Try.prog 7 #[.slice ao xs.length cap, .slice ao1 xs1.length cap1, .slice ao2 xs2.length cap2] w fun e w' => e = .returned (.bool true) ∧ Below w.heap.size w w' := by
  obtain ⟨n, hn⟩ : ∃ n, n = xs.length := ⟨_, rfl⟩
  obtain ⟨n1, hn1⟩ : ∃ n1, n1 = xs1.length := ⟨_, rfl⟩
  obtain ⟨n2, hn2⟩ : ∃ n2, n2 = xs2.length := ⟨_, rfl⟩
  have hnl := hx.len
  have hnl1 := hx1.len
  have hnl2 := hx2.len
  rw [← hn] at hnl ⊢
  rw [← hn1] at hnl1 ⊢
  rw [← hn2] at hnl2 ⊢
  replace hn := Lib.hid hn
  replace hn1 := Lib.hid hn1
  replace hn2 := Lib.hid hn2
  have hok0 := OkM.empty 500 (by omega) (by omega)
  go_enter Try.func7, Try.ntmps7
  go_wp2_with fail
  refine (known_any w).mono ?_
  rintro e w1 ⟨rfl, hb1⟩
  dsimp only
  go_wp2_with fail
  refine (new_any 500 w1 (by omega) (by omega)).mono ?_
  rintro e w2 ⟨b, x, rfl, hD, hb2, _, _, _⟩
  obtain ⟨base, hbase⟩ : ∃ base, base = w1.heap.size := ⟨_, rfl⟩
  rw [← hbase] at hD hb2
  have hwb : w.heap.size ≤ base := by rw [hbase]; exact hb1.size
  have hb12 : Below w.heap.size w w2 := hb1.trans (hb2.mono hwb)
  have hbs := hb2.size
  rw [← hbase] at hbs
  dsimp only
  obtain ⟨w3, hw3⟩ : ∃ w3, w3 = w2.alloc (.cells #[.int .i64 500, .bool false, .slice none 0 0, .slice none 0 0, .slice none 0 0] 45) := ⟨_, rfl⟩
  obtain ⟨mb, hmb⟩ : ∃ mb, mb = w2.heap.size := ⟨_, rfl⟩
  have hR := Rf.empty 500 hbs
  rw [← hw3, ← hmb] at hR
  have hb3 : Below w2.heap.size w2 w3 := by rw [hw3]; exact belowAlloc _ _
  have hbs3 : base ≤ w3.heap.size := Nat.le_trans hbs hb3.size
  obtain ⟨w4, hw4⟩ : ∃ w4, w4 = w3.alloc (.cells #[.int .i64 500, .bool false, .slice none 0 0, .slice none 0 0, .slice none 0 0] 45) := ⟨_, rfl⟩
  obtain ⟨nb, hnb⟩ : ∃ nb, nb = w3.heap.size := ⟨_, rfl⟩
  have hR2 := Rf.empty 500 hbs3
  rw [← hw4, ← hnb] at hR2
  have hb4 : Below w3.heap.size w3 w4 := by rw [hw4]; exact belowAlloc _ _
  have hD4 := (hD.below hb3).below hb4
  have hR4 := hR.below hb4
  have hbs4 : base ≤ w4.heap.size := Nat.le_trans hbs3 hb4.size
  have hb14 : Below w.heap.size w w4 := (hb12.trans (hb3.mono hb12.size)).trans (hb4.mono (Nat.le_trans hwb hbs3))
  have hx4 : SlA base 5 (StP base) w4 ao cap xs := hx.imp hb14 hwb (fun cs x _ h => h.imp hb14 hwb)
  have hx14 : SlA base 5 (StP base) w4 ao1 cap1 xs1 := hx1.imp hb14 hwb (fun cs x _ h => h.imp hb14 hwb)
  have hx24 : SlA base 5 (StP base) w4 ao2 cap2 xs2 := hx2.imp hb14 hwb (fun cs x _ h => h.imp hb14 hwb)
  have hT0 : Tri w4 base b mb nb x _ _ (emptyM 500) (emptyM 500) := ⟨hD4, hR4, hR2, fun k h1 h2 => by
    have e1 : k = mb := h1.elim id (fun h => by cases h)
    have e2 : k = nb := h2.elim id (fun h => by cases h)
    have := hR.blk.lt
    rw [← hnb] at this
    omega⟩
  replace hw3 := Lib.hid hw3
  replace hmb := Lib.hid hmb
  replace hw4 := Lib.hid hw4
  replace hnb := Lib.hid hnb
  replace hbase := Lib.hid hbase
  clear hx hx1 hx2 hD hD4 hR hR2 hR4 hb3 hb4 hb12 hb2 hb1 hbs
  go_upto_region 5 with fail
  rw [← hw3.out, ← hmb.out]
  clear hw3 hmb
  go_upto_region 6 with fail
  rw [← hw4.out, ← hnb.out]
  clear hw4 hnb hbs3
  go_wp2_with fail
  go_loopw [11] (fun x8 wr => ∃ (i : Nat) (x : DX) (r r2 : RX) (M : DM), i ≤ n ∧ i ≤ 60 ∧ x8 = .int .i64 i ∧ Tri wr base b mb nb x r r2 M M ∧ OkM i M ∧ Below base w4 wr) (fun x8 _ => n - (intOf x8).toNat)
  case atStart => exact ⟨0, x, _, _, _, Nat.zero_le _, Nat.zero_le _, rfl, hT0, hok0, Below.refl _ _⟩
  case round =>
    clear hT0 hok0
    obtain ⟨i, x, r, r2, M, hin, hi2, rfl, hT, hok, hbr⟩ := hrel
    have hbW : Below w.heap.size w wr := hb14.trans (hbr.mono hwb)
    have hbw : base ≤ wr.heap.size := Nat.le_trans hbs4 hbr.size
    by_cases hlt : i < n ∧ i < 60
    · obtain ⟨hlt1, hlt2⟩ := hlt
      obtain ⟨sb, so, s, dl, pl, da, dc, pa, pc, rfl, hsb, e0, e1, e2, e3, e4, hse, hS⟩ := SlA.stepAt2 hx4 (i := i) (by rw [← hn.out]; exact hlt1)
      replace e0 := (hbr.cell (p := ⟨sb, so + i * 5, none⟩) hsb).trans e0
      replace e1 := (hbr.cell (p := ⟨sb, so + i * 5 + 1, none⟩) hsb).trans e1
      replace e2 := (hbr.cell (p := ⟨sb, so + i * 5 + 2, none⟩) hsb).trans e2
      replace e3 := (hbr.cell (p := ⟨sb, so + i * 5 + 3, none⟩) hsb).trans e3
      replace e4 := (hbr.cell (p := ⟨sb, so + i * 5 + 4, none⟩) hsb).trans e4
      have hst := hS.out.call hbr hT.d hT.m hok hok (by omega) hbw
      have d3 : decide ((i : Int) < (n : Int)) = true := by simp; omega
      have d4 : decide ((i : Int) < 60) = true := by simp; omega
      replace hst := Lib.hid hst
      have hk1 : Hid (∀ w' k v, Below base wr w' → wr.cell? ⟨sb, k, none⟩ = some v → w'.cell? ⟨sb, k, none⟩ = some v) := Lib.hid (fun w' k v hb' hc => (hb'.cell (p := ⟨sb, k, none⟩) hsb).trans hc)
      clear hx4
      go_wp2_with fail
      refine hst.out.mono ?_
      rintro e w5 ⟨⟨ok, rfl, hok1⟩, hB⟩
      obtain rfl : ok = true := hok1 (by trivial)
      have hb5 := hB.chg2 hT.d hT.m hbw
      obtain ⟨x', r', hT5⟩ := hT.step hB
      have hok5 := hok.step s
      replace e0 := hk1.out w5 _ _ hb5 e0
      replace e1 := hk1.out w5 _ _ hb5 e1
      replace e2 := hk1.out w5 _ _ hb5 e2
      replace e3 := hk1.out w5 _ _ hb5 e3
      replace e4 := hk1.out w5 _ _ hb5 e4
      have htw := hS.out.twin (hbr.trans hb5) hT5.n hok (by omega) (Nat.le_trans hbw hb5.size)
      replace htw := Lib.hid htw
      clear hst hB hT hk1
      dsimp only
      go_wp2_with fail
      refine htw.out.mono ?_
      rintro e w6 ⟨⟨v, rfl⟩, hst2⟩
      have hb6 : Below base w5 w6 := by
        obtain ⟨_, _, hc, _⟩ := hst2
        exact hc.below (Nat.le_trans hbw hb5.size) (fun k hk e => by have := hT5.n.base_le k e; omega)
      obtain ⟨r2', hT6⟩ := hT5.twin hst2
      have hb46 : Below base w4 w6 := (hbr.trans hb5).trans hb6
      replace hT6 := Lib.hid hT6
      replace hok5 := Lib.hid hok5
      clear htw hst2 hT5 hok hb5 hb6 e0 e1 e2 e3 e4
      dsimp only
      go_wp2_with fail
      go_roundw
      case rel => exact ⟨i + 1, x', r', r2', _, by omega, by omega, by go_num, hT6.out, hok5.out, hb46⟩
      case measure => simp [intOf]; omega
    · clear hx4
      have hcp := copy_any wr hT.d hok (by omega) hbw
      replace hcp := Lib.hid hcp
      by_cases h1 : i < n
      · have d3 : decide ((i : Int) < (n : Int)) = true := by simp; omega
        have d4 : decide ((i : Int) < 60) = false := by simp; omega
        clear hlt
        go_wp2_with fail
        refine hcp.out.mono ?_
        rintro e w7 ⟨cb, x2, rfl, hC, hnew, hb7⟩
        have hQ : Quad w7 base b mb cb nb x r M x2 r2 M := ⟨hT.d.below hb7, hT.m.below hb7, hC, hT.n.below hb7, fun k h1 h2 => by have := hT.d.lt k h1; have := hnew k h2; omega, hT.rr⟩
        have hb47 : Below base w4 w7 := hbr.trans (hb7.mono hbw)
        have hx17 : SlA base 5 (StP base) w7 ao1 cap1 xs1 := hx14.imp hb47 (Nat.le_refl _) (fun cs x _ h => h.imp hb47 (Nat.le_refl _))
        have hx27 : SlA base 5 (StP base) w7 ao2 cap2 xs2 := hx24.imp hb47 (Nat.le_refl _) (fun cs x _ h => h.imp hb47 (Nat.le_refl _))
        have hbs7 : base ≤ w7.heap.size := Nat.le_trans hbw hb7.size
        have hb17 : Below w.heap.size w w7 := hb14.trans (hb47.mono hwb)
        have hok7 := hok.mono (N' := 60) (by omega)
        clear hcp hC hnew hb7 hT hok hx14 hx24 hb47 hbr hbW hbw hb14 hbs4
        obtain ⟨nm, hnm⟩ : ∃ nm, nm = max n1 n2 := ⟨_, rfl⟩
        replace hnm := Lib.hid hnm
        dsimp only
        go_wp2_with fail
        go_loopw [13] (fun x8 wr => ∃ (i : Nat) (x : DX) (r : RX) (M : DM) (x2 : DX) (r2 : RX) (M2 : DM), i ≤ nm ∧ i ≤ 60 ∧ x8 = .int .i64 i ∧ Quad wr base b mb cb nb x r M x2 r2 M2 ∧ OkM (60 + i) M ∧ OkM (60 + i) M2 ∧ Below base w7 wr) (fun x8 _ => nm - (intOf x8).toNat)
        case atStart => exact ⟨0, x, r, M, x2, r2, M, Nat.zero_le _, Nat.zero_le _, rfl, hQ, hok7, hok7, Below.refl _ _⟩
        case round =>
          clear hQ hok7
          obtain ⟨i, x, r, M, x2, r2, M2, hin, hi2, rfl, hQ, hok, hok2, hbr⟩ := hrel
          have hbW : Below w.heap.size w wr := hb17.trans (hbr.mono hwb)
          have hbw : base ≤ wr.heap.size := Nat.le_trans hbs7 hbr.size
          have hmx : (max (n1 : Int) (n2 : Int)) = (nm : Int) := by rw [hnm.out]; omega
          have hnm1 : n1 ≤ nm := by rw [hnm.out]; omega
          have hnm2 : n2 ≤ nm := by rw [hnm.out]; omega
          have hnm3 : nm ≤ 9223372036854775807 := by rw [hnm.out]; omega
          have hnm4 : nm = n1 ∨ nm = n2 := by rw [hnm.out]; omega
          by_cases hlt : i < nm ∧ i < 60
          · obtain ⟨hlt1, hlt2⟩ := hlt
            have d3 : decide ((i : Int) < max (n1 : Int) (n2 : Int)) = true := by rw [hmx]; simp; omega
            have d4 : decide ((i : Int) < 60) = true := by simp; omega
            replace hnm4 := Lib.hid hnm4
            clear hmx
            by_cases h1 : i < n1
            · have f1 : decide ((i : Int) < (n1 : Int)) = true := by simp; omega
              by_cases h2 : i < n2
              · have f2 : decide ((i : Int) < (n2 : Int)) = true := by simp; omega
                obtain ⟨sb, so, s, dl, pl, da, dc, pa, pc, rfl, hsb, e0, e1, e2, e3, e4, hse, hS⟩ := SlA.stepAt2 hx17 (i := i) (by rw [← hn1.out]; exact h1)
                replace e0 := ((hbr).cell (p := ⟨sb, so + i * 5, none⟩) hsb).trans e0
                replace e1 := ((hbr).cell (p := ⟨sb, so + i * 5 + 1, none⟩) hsb).trans e1
                replace e2 := ((hbr).cell (p := ⟨sb, so + i * 5 + 2, none⟩) hsb).trans e2
                replace e3 := ((hbr).cell (p := ⟨sb, so + i * 5 + 3, none⟩) hsb).trans e3
                replace e4 := ((hbr).cell (p := ⟨sb, so + i * 5 + 4, none⟩) hsb).trans e4
                have hst := hS.out.call hbr (hQ).d (hQ).m hok hok (by omega) hbw
                replace hst := Lib.hid hst
                clear hx17
                go_wp2_with fail
                refine hst.out.mono ?_
                rintro e w5 ⟨⟨ok, rfl, hok1⟩, hB⟩
                obtain rfl : ok = true := hok1 (by trivial)
                have hb5 := hB.chg2 (hQ).d (hQ).m hbw
                obtain ⟨x', r', hQ5⟩ := (hQ).step hB
                have hcur5 := (hbr).trans hb5
                have hcw5 := Nat.le_trans hbw hb5.size
                have hok5 := hok.step s
                clear hst hB hok1 hb5 e0 e1 e2 e3 e4
                dsimp only
                obtain ⟨sb2, so2, s2, dl2, pl2, da2, dc2, pa2, pc2, rfl, hsb2, e0, e1, e2, e3, e4, hse2, hS2⟩ := SlA.stepAt2 hx27 (i := i) (by rw [← hn2.out]; exact h2)
                replace e0 := ((hcur5).cell (p := ⟨sb2, so2 + i * 5, none⟩) hsb2).trans e0
                replace e1 := ((hcur5).cell (p := ⟨sb2, so2 + i * 5 + 1, none⟩) hsb2).trans e1
                replace e2 := ((hcur5).cell (p := ⟨sb2, so2 + i * 5 + 2, none⟩) hsb2).trans e2
                replace e3 := ((hcur5).cell (p := ⟨sb2, so2 + i * 5 + 3, none⟩) hsb2).trans e3
                replace e4 := ((hcur5).cell (p := ⟨sb2, so2 + i * 5 + 4, none⟩) hsb2).trans e4
                have hst := hS2.out.call hcur5 (hQ5).c (hQ5).n hok2 hok2 (by omega) hcw5
                replace hst := Lib.hid hst
                clear hx27
                go_wp2_with fail
                refine hst.out.mono ?_
                rintro e w6 ⟨⟨ok, rfl, hok1⟩, hB⟩
                obtain rfl : ok = true := hok1 (by trivial)
                have hb6 := hB.chg2 (hQ5).c (hQ5).n hcw5
                obtain ⟨x2', r2', hQ6s⟩ := (hQ5).swap.step hB
                have hQ6 := hQ6s.swap
                have hcur6 := (hcur5).trans hb6
                have hcw6 := Nat.le_trans hcw5 hb6.size
                have hok6 := hok2.step s2
                clear hst hB hok1 hb6 e0 e1 e2 e3 e4 hQ6s
                dsimp only
                have ha1 := alike_any ⟨#[97]⟩ w6 (by decide) (hQ6).d (hQ6).m hok5 (by omega)
                replace ha1 := Lib.hid ha1
                have hQT := Lib.hid hQ6
                have hokA := Lib.hid hok5
                have hokB := Lib.hid hok6
                clear hok5 hok6
                go_wp2_with fail
                refine ha1.out.mono ?_
                rintro e w8 ⟨rfl, hb8⟩
                have hQ8 := hQT.out.below hb8
                have hcur8 := (hcur6).trans (hb8.mono hcw6)
                have hcw8 := Nat.le_trans hcw6 hb8.size
                have ha2 := alike_any ⟨#[97]⟩ w8 (by decide) hQ8.c hQ8.n hokB.out (by omega)
                replace ha2 := Lib.hid ha2
                replace hQ8 := Lib.hid hQ8
                clear ha1 hQT hb8
                dsimp only
                go_wp2_with fail
                refine ha2.out.mono ?_
                rintro e w9 ⟨rfl, hb9⟩
                have hQ9 := hQ8.out.below hb9
                have hcur9 := hcur8.trans (hb9.mono hcw8)
                replace hQ9 := Lib.hid hQ9
                clear ha2 hQ8 hb9
                dsimp only
                go_wp2_with fail
                go_roundw
                case rel => exact ⟨i + 1, _, _, _, _, _, _, by omega, by omega, by go_num, hQ9.out, hokA.out, hokB.out, hcur9⟩
                case measure => simp [intOf]; omega
              · have f2 : decide ((i : Int) < (n2 : Int)) = false := by simp; omega
                clear hx27
                obtain ⟨sb, so, s, dl, pl, da, dc, pa, pc, rfl, hsb, e0, e1, e2, e3, e4, hse, hS⟩ := SlA.stepAt2 hx17 (i := i) (by rw [← hn1.out]; exact h1)
                replace e0 := ((hbr).cell (p := ⟨sb, so + i * 5, none⟩) hsb).trans e0
                replace e1 := ((hbr).cell (p := ⟨sb, so + i * 5 + 1, none⟩) hsb).trans e1
                replace e2 := ((hbr).cell (p := ⟨sb, so + i * 5 + 2, none⟩) hsb).trans e2
                replace e3 := ((hbr).cell (p := ⟨sb, so + i * 5 + 3, none⟩) hsb).trans e3
                replace e4 := ((hbr).cell (p := ⟨sb, so + i * 5 + 4, none⟩) hsb).trans e4
                have hst := hS.out.call hbr (hQ).d (hQ).m hok hok (by omega) hbw
                replace hst := Lib.hid hst
                clear hx17
                go_wp2_with fail
                refine hst.out.mono ?_
                rintro e w5 ⟨⟨ok, rfl, hok1⟩, hB⟩
                obtain rfl : ok = true := hok1 (by trivial)
                have hb5 := hB.chg2 (hQ).d (hQ).m hbw
                obtain ⟨x', r', hQ5⟩ := (hQ).step hB
                have hcur5 := (hbr).trans hb5
                have hcw5 := Nat.le_trans hbw hb5.size
                have hok5 := hok.step s
                clear hst hB hok1 hb5 e0 e1 e2 e3 e4
                dsimp only
                have hok6 := hok2.mono (N' := 60 + i + 1) (by omega)
                have ha1 := alike_any ⟨#[97]⟩ w5 (by decide) (hQ5).d (hQ5).m hok5 (by omega)
                replace ha1 := Lib.hid ha1
                have hQT := Lib.hid hQ5
                have hokA := Lib.hid hok5
                have hokB := Lib.hid hok6
                clear hok5 hok6
                go_wp2_with fail
                refine ha1.out.mono ?_
                rintro e w8 ⟨rfl, hb8⟩
                have hQ8 := hQT.out.below hb8
                have hcur8 := (hcur5).trans (hb8.mono hcw5)
                have hcw8 := Nat.le_trans hcw5 hb8.size
                have ha2 := alike_any ⟨#[97]⟩ w8 (by decide) hQ8.c hQ8.n hokB.out (by omega)
                replace ha2 := Lib.hid ha2
                replace hQ8 := Lib.hid hQ8
                clear ha1 hQT hb8
                dsimp only
                go_wp2_with fail
                refine ha2.out.mono ?_
                rintro e w9 ⟨rfl, hb9⟩
                have hQ9 := hQ8.out.below hb9
                have hcur9 := hcur8.trans (hb9.mono hcw8)
                replace hQ9 := Lib.hid hQ9
                clear ha2 hQ8 hb9
                dsimp only
                go_wp2_with fail
                go_roundw
                case rel => exact ⟨i + 1, _, _, _, _, _, _, by omega, by omega, by go_num, hQ9.out, hokA.out, hokB.out, hcur9⟩
                case measure => simp [intOf]; omega
            · have f1 : decide ((i : Int) < (n1 : Int)) = false := by simp; omega
              clear hx17
              by_cases h2 : i < n2
              · have f2 : decide ((i : Int) < (n2 : Int)) = true := by simp; omega
                obtain ⟨sb2, so2, s2, dl2, pl2, da2, dc2, pa2, pc2, rfl, hsb2, e0, e1, e2, e3, e4, hse2, hS2⟩ := SlA.stepAt2 hx27 (i := i) (by rw [← hn2.out]; exact h2)
                replace e0 := ((hbr).cell (p := ⟨sb2, so2 + i * 5, none⟩) hsb2).trans e0
                replace e1 := ((hbr).cell (p := ⟨sb2, so2 + i * 5 + 1, none⟩) hsb2).trans e1
                replace e2 := ((hbr).cell (p := ⟨sb2, so2 + i * 5 + 2, none⟩) hsb2).trans e2
                replace e3 := ((hbr).cell (p := ⟨sb2, so2 + i * 5 + 3, none⟩) hsb2).trans e3
                replace e4 := ((hbr).cell (p := ⟨sb2, so2 + i * 5 + 4, none⟩) hsb2).trans e4
                have hst := hS2.out.call hbr (hQ).c (hQ).n hok2 hok2 (by omega) hbw
                replace hst := Lib.hid hst
                clear hx27
                go_wp2_with fail
                refine hst.out.mono ?_
                rintro e w6 ⟨⟨ok, rfl, hok1⟩, hB⟩
                obtain rfl : ok = true := hok1 (by trivial)
                have hb6 := hB.chg2 (hQ).c (hQ).n hbw
                obtain ⟨x2', r2', hQ6s⟩ := (hQ).swap.step hB
                have hQ6 := hQ6s.swap
                have hcur6 := (hbr).trans hb6
                have hcw6 := Nat.le_trans hbw hb6.size
                have hok6 := hok2.step s2
                clear hst hB hok1 hb6 e0 e1 e2 e3 e4 hQ6s
                dsimp only
                have hok5 := hok.mono (N' := 60 + i + 1) (by omega)
                have ha1 := alike_any ⟨#[97]⟩ w6 (by decide) (hQ6).d (hQ6).m hok5 (by omega)
                replace ha1 := Lib.hid ha1
                have hQT := Lib.hid hQ6
                have hokA := Lib.hid hok5
                have hokB := Lib.hid hok6
                clear hok5 hok6
                go_wp2_with fail
                refine ha1.out.mono ?_
                rintro e w8 ⟨rfl, hb8⟩
                have hQ8 := hQT.out.below hb8
                have hcur8 := (hcur6).trans (hb8.mono hcw6)
                have hcw8 := Nat.le_trans hcw6 hb8.size
                have ha2 := alike_any ⟨#[97]⟩ w8 (by decide) hQ8.c hQ8.n hokB.out (by omega)
                replace ha2 := Lib.hid ha2
                replace hQ8 := Lib.hid hQ8
                clear ha1 hQT hb8
                dsimp only
                go_wp2_with fail
                refine ha2.out.mono ?_
                rintro e w9 ⟨rfl, hb9⟩
                have hQ9 := hQ8.out.below hb9
                have hcur9 := hcur8.trans (hb9.mono hcw8)
                replace hQ9 := Lib.hid hQ9
                clear ha2 hQ8 hb9
                dsimp only
                go_wp2_with fail
                go_roundw
                case rel => exact ⟨i + 1, _, _, _, _, _, _, by omega, by omega, by go_num, hQ9.out, hokA.out, hokB.out, hcur9⟩
                case measure => simp [intOf]; omega
              · have := hnm4.out
                omega
          · clear hx17 hx27 hQ hok hok2
            by_cases h1 : i < nm
            · have d3 : decide ((i : Int) < max (n1 : Int) (n2 : Int)) = true := by rw [hmx]; simp; omega
              have d4 : decide ((i : Int) < 60) = false := by simp; omega
              clear hmx hnm4
              go_wp2_with fail
              go_ret
              exact ⟨rfl, hbW⟩
            · have d3 : decide ((i : Int) < max (n1 : Int) (n2 : Int)) = false := by rw [hmx]; simp; omega
              clear hmx hnm4
              go_wp2_with fail
              go_ret
              exact ⟨rfl, hbW⟩
      · have d3 : decide ((i : Int) < (n : Int)) = false := by simp; omega
        clear hlt
        go_wp2_with fail
        refine hcp.out.mono ?_
        rintro e w7 ⟨cb, x2, rfl, hC, hnew, hb7⟩
        have hQ : Quad w7 base b mb cb nb x r M x2 r2 M := ⟨hT.d.below hb7, hT.m.below hb7, hC, hT.n.below hb7, fun k h1 h2 => by have := hT.d.lt k h1; have := hnew k h2; omega, hT.rr⟩
        have hb47 : Below base w4 w7 := hbr.trans (hb7.mono hbw)
        have hx17 : SlA base 5 (StP base) w7 ao1 cap1 xs1 := hx14.imp hb47 (Nat.le_refl _) (fun cs x _ h => h.imp hb47 (Nat.le_refl _))
        have hx27 : SlA base 5 (StP base) w7 ao2 cap2 xs2 := hx24.imp hb47 (Nat.le_refl _) (fun cs x _ h => h.imp hb47 (Nat.le_refl _))
        have hbs7 : base ≤ w7.heap.size := Nat.le_trans hbw hb7.size
        have hb17 : Below w.heap.size w w7 := hb14.trans (hb47.mono hwb)
        have hok7 := hok.mono (N' := 60) (by omega)
        clear hcp hC hnew hb7 hT hok hx14 hx24 hb47 hbr hbW hbw hb14 hbs4
        obtain ⟨nm, hnm⟩ : ∃ nm, nm = max n1 n2 := ⟨_, rfl⟩
        replace hnm := Lib.hid hnm
        dsimp only
        go_wp2_with fail
        go_loopw [13] (fun x8 wr => ∃ (i : Nat) (x : DX) (r : RX) (M : DM) (x2 : DX) (r2 : RX) (M2 : DM), i ≤ nm ∧ i ≤ 60 ∧ x8 = .int .i64 i ∧ Quad wr base b mb cb nb x r M x2 r2 M2 ∧ OkM (60 + i) M ∧ OkM (60 + i) M2 ∧ Below base w7 wr) (fun x8 _ => nm - (intOf x8).toNat)
        case atStart => exact ⟨0, x, r, M, x2, r2, M, Nat.zero_le _, Nat.zero_le _, rfl, hQ, hok7, hok7, Below.refl _ _⟩
        case round =>
          clear hQ hok7
          obtain ⟨i, x, r, M, x2, r2, M2, hin, hi2, rfl, hQ, hok, hok2, hbr⟩ := hrel
          have hbW : Below w.heap.size w wr := hb17.trans (hbr.mono hwb)
          have hbw : base ≤ wr.heap.size := Nat.le_trans hbs7 hbr.size
          have hmx : (max (n1 : Int) (n2 : Int)) = (nm : Int) := by rw [hnm.out]; omega
          have hnm1 : n1 ≤ nm := by rw [hnm.out]; omega
          have hnm2 : n2 ≤ nm := by rw [hnm.out]; omega
          have hnm3 : nm ≤ 9223372036854775807 := by rw [hnm.out]; omega
          have hnm4 : nm = n1 ∨ nm = n2 := by rw [hnm.out]; omega
          by_cases hlt : i < nm ∧ i < 60
          · obtain ⟨hlt1, hlt2⟩ := hlt
            have d3 : decide ((i : Int) < max (n1 : Int) (n2 : Int)) = true := by rw [hmx]; simp; omega
            have d4 : decide ((i : Int) < 60) = true := by simp; omega
            replace hnm4 := Lib.hid hnm4
            clear hmx
            by_cases h1 : i < n1
            · have f1 : decide ((i : Int) < (n1 : Int)) = true := by simp; omega
              by_cases h2 : i < n2
              · have f2 : decide ((i : Int) < (n2 : Int)) = true := by simp; omega
                obtain ⟨sb, so, s, dl, pl, da, dc, pa, pc, rfl, hsb, e0, e1, e2, e3, e4, hse, hS⟩ := SlA.stepAt2 hx17 (i := i) (by rw [← hn1.out]; exact h1)
                replace e0 := ((hbr).cell (p := ⟨sb, so + i * 5, none⟩) hsb).trans e0
                replace e1 := ((hbr).cell (p := ⟨sb, so + i * 5 + 1, none⟩) hsb).trans e1
                replace e2 := ((hbr).cell (p := ⟨sb, so + i * 5 + 2, none⟩) hsb).trans e2
                replace e3 := ((hbr).cell (p := ⟨sb, so + i * 5 + 3, none⟩) hsb).trans e3
                replace e4 := ((hbr).cell (p := ⟨sb, so + i * 5 + 4, none⟩) hsb).trans e4
                have hst := hS.out.call hbr (hQ).d (hQ).m hok hok (by omega) hbw
                replace hst := Lib.hid hst
                clear hx17
                go_wp2_with fail
                refine hst.out.mono ?_
                rintro e w5 ⟨⟨ok, rfl, hok1⟩, hB⟩
                obtain rfl : ok = true := hok1 (by trivial)
                have hb5 := hB.chg2 (hQ).d (hQ).m hbw
                obtain ⟨x', r', hQ5⟩ := (hQ).step hB
                have hcur5 := (hbr).trans hb5
                have hcw5 := Nat.le_trans hbw hb5.size
                have hok5 := hok.step s
                clear hst hB hok1 hb5 e0 e1 e2 e3 e4
                dsimp only
                obtain ⟨sb2, so2, s2, dl2, pl2, da2, dc2, pa2, pc2, rfl, hsb2, e0, e1, e2, e3, e4, hse2, hS2⟩ := SlA.stepAt2 hx27 (i := i) (by rw [← hn2.out]; exact h2)
                replace e0 := ((hcur5).cell (p := ⟨sb2, so2 + i * 5, none⟩) hsb2).trans e0
                replace e1 := ((hcur5).cell (p := ⟨sb2, so2 + i * 5 + 1, none⟩) hsb2).trans e1
                replace e2 := ((hcur5).cell (p := ⟨sb2, so2 + i * 5 + 2, none⟩) hsb2).trans e2
                replace e3 := ((hcur5).cell (p := ⟨sb2, so2 + i * 5 + 3, none⟩) hsb2).trans e3
                replace e4 := ((hcur5).cell (p := ⟨sb2, so2 + i * 5 + 4, none⟩) hsb2).trans e4
                have hst := hS2.out.call hcur5 (hQ5).c (hQ5).n hok2 hok2 (by omega) hcw5
                replace hst := Lib.hid hst
                clear hx27
                go_wp2_with fail
                refine hst.out.mono ?_
                rintro e w6 ⟨⟨ok, rfl, hok1⟩, hB⟩
                obtain rfl : ok = true := hok1 (by trivial)
                have hb6 := hB.chg2 (hQ5).c (hQ5).n hcw5
                obtain ⟨x2', r2', hQ6s⟩ := (hQ5).swap.step hB
                have hQ6 := hQ6s.swap
                have hcur6 := (hcur5).trans hb6
                have hcw6 := Nat.le_trans hcw5 hb6.size
                have hok6 := hok2.step s2
                clear hst hB hok1 hb6 e0 e1 e2 e3 e4 hQ6s
                dsimp only
                have ha1 := alike_any ⟨#[97]⟩ w6 (by decide) (hQ6).d (hQ6).m hok5 (by omega)
                replace ha1 := Lib.hid ha1
                have hQT := Lib.hid hQ6
                have hokA := Lib.hid hok5
                have hokB := Lib.hid hok6
                clear hok5 hok6
                go_wp2_with fail
                refine ha1.out.mono ?_
                rintro e w8 ⟨rfl, hb8⟩
                have hQ8 := hQT.out.below hb8
                have hcur8 := (hcur6).trans (hb8.mono hcw6)
                have hcw8 := Nat.le_trans hcw6 hb8.size
                have ha2 := alike_any ⟨#[97]⟩ w8 (by decide) hQ8.c hQ8.n hokB.out (by omega)
                replace ha2 := Lib.hid ha2
                replace hQ8 := Lib.hid hQ8
                clear ha1 hQT hb8
                dsimp only
                go_wp2_with fail
                refine ha2.out.mono ?_
                rintro e w9 ⟨rfl, hb9⟩
                have hQ9 := hQ8.out.below hb9
                have hcur9 := hcur8.trans (hb9.mono hcw8)
                replace hQ9 := Lib.hid hQ9
                clear ha2 hQ8 hb9
                dsimp only
                go_wp2_with fail
                go_roundw
                case rel => exact ⟨i + 1, _, _, _, _, _, _, by omega, by omega, by go_num, hQ9.out, hokA.out, hokB.out, hcur9⟩
                case measure => simp [intOf]; omega
              · have f2 : decide ((i : Int) < (n2 : Int)) = false := by simp; omega
                clear hx27
                obtain ⟨sb, so, s, dl, pl, da, dc, pa, pc, rfl, hsb, e0, e1, e2, e3, e4, hse, hS⟩ := SlA.stepAt2 hx17 (i := i) (by rw [← hn1.out]; exact h1)
                replace e0 := ((hbr).cell (p := ⟨sb, so + i * 5, none⟩) hsb).trans e0
                replace e1 := ((hbr).cell (p := ⟨sb, so + i * 5 + 1, none⟩) hsb).trans e1
                replace e2 := ((hbr).cell (p := ⟨sb, so + i * 5 + 2, none⟩) hsb).trans e2
                replace e3 := ((hbr).cell (p := ⟨sb, so + i * 5 + 3, none⟩) hsb).trans e3
                replace e4 := ((hbr).cell (p := ⟨sb, so + i * 5 + 4, none⟩) hsb).trans e4
                have hst := hS.out.call hbr (hQ).d (hQ).m hok hok (by omega) hbw
                replace hst := Lib.hid hst
                clear hx17
                go_wp2_with fail
                refine hst.out.mono ?_
                rintro e w5 ⟨⟨ok, rfl, hok1⟩, hB⟩
                obtain rfl : ok = true := hok1 (by trivial)
                have hb5 := hB.chg2 (hQ).d (hQ).m hbw
                obtain ⟨x', r', hQ5⟩ := (hQ).step hB
                have hcur5 := (hbr).trans hb5
                have hcw5 := Nat.le_trans hbw hb5.size
                have hok5 := hok.step s
                clear hst hB hok1 hb5 e0 e1 e2 e3 e4
                dsimp only
                have hok6 := hok2.mono (N' := 60 + i + 1) (by omega)
                have ha1 := alike_any ⟨#[97]⟩ w5 (by decide) (hQ5).d (hQ5).m hok5 (by omega)
                replace ha1 := Lib.hid ha1
                have hQT := Lib.hid hQ5
                have hokA := Lib.hid hok5
                have hokB := Lib.hid hok6
                clear hok5 hok6
                go_wp2_with fail
                refine ha1.out.mono ?_
                rintro e w8 ⟨rfl, hb8⟩
                have hQ8 := hQT.out.below hb8
                have hcur8 := (hcur5).trans (hb8.mono hcw5)
                have hcw8 := Nat.le_trans hcw5 hb8.size
                have ha2 := alike_any ⟨#[97]⟩ w8 (by decide) hQ8.c hQ8.n hokB.out (by omega)
                replace ha2 := Lib.hid ha2
                replace hQ8 := Lib.hid hQ8
                clear ha1 hQT hb8
                dsimp only
                go_wp2_with fail
                refine ha2.out.mono ?_
                rintro e w9 ⟨rfl, hb9⟩
                have hQ9 := hQ8.out.below hb9
                have hcur9 := hcur8.trans (hb9.mono hcw8)
                replace hQ9 := Lib.hid hQ9
                clear ha2 hQ8 hb9
                dsimp only
                go_wp2_with fail
                go_roundw
                case rel => exact ⟨i + 1, _, _, _, _, _, _, by omega, by omega, by go_num, hQ9.out, hokA.out, hokB.out, hcur9⟩
                case measure => simp [intOf]; omega
            · have f1 : decide ((i : Int) < (n1 : Int)) = false := by simp; omega
              clear hx17
              by_cases h2 : i < n2
              · have f2 : decide ((i : Int) < (n2 : Int)) = true := by simp; omega
                obtain ⟨sb2, so2, s2, dl2, pl2, da2, dc2, pa2, pc2, rfl, hsb2, e0, e1, e2, e3, e4, hse2, hS2⟩ := SlA.stepAt2 hx27 (i := i) (by rw [← hn2.out]; exact h2)
                replace e0 := ((hbr).cell (p := ⟨sb2, so2 + i * 5, none⟩) hsb2).trans e0
                replace e1 := ((hbr).cell (p := ⟨sb2, so2 + i * 5 + 1, none⟩) hsb2).trans e1
                replace e2 := ((hbr).cell (p := ⟨sb2, so2 + i * 5 + 2, none⟩) hsb2).trans e2
                replace e3 := ((hbr).cell (p := ⟨sb2, so2 + i * 5 + 3, none⟩) hsb2).trans e3
                replace e4 := ((hbr).cell (p := ⟨sb2, so2 + i * 5 + 4, none⟩) hsb2).trans e4
                have hst := hS2.out.call hbr (hQ).c (hQ).n hok2 hok2 (by omega) hbw
                replace hst := Lib.hid hst
                clear hx27
                go_wp2_with fail
                refine hst.out.mono ?_
                rintro e w6 ⟨⟨ok, rfl, hok1⟩, hB⟩
                obtain rfl : ok = true := hok1 (by trivial)
                have hb6 := hB.chg2 (hQ).c (hQ).n hbw
                obtain ⟨x2', r2', hQ6s⟩ := (hQ).swap.step hB
                have hQ6 := hQ6s.swap
                have hcur6 := (hbr).trans hb6
                have hcw6 := Nat.le_trans hbw hb6.size
                have hok6 := hok2.step s2
                clear hst hB hok1 hb6 e0 e1 e2 e3 e4 hQ6s
                dsimp only
                have hok5 := hok.mono (N' := 60 + i + 1) (by omega)
                have ha1 := alike_any ⟨#[97]⟩ w6 (by decide) (hQ6).d (hQ6).m hok5 (by omega)
                replace ha1 := Lib.hid ha1
                have hQT := Lib.hid hQ6
                have hokA := Lib.hid hok5
                have hokB := Lib.hid hok6
                clear hok5 hok6
                go_wp2_with fail
                refine ha1.out.mono ?_
                rintro e w8 ⟨rfl, hb8⟩
                have hQ8 := hQT.out.below hb8
                have hcur8 := (hcur6).trans (hb8.mono hcw6)
                have hcw8 := Nat.le_trans hcw6 hb8.size
                have ha2 := alike_any ⟨#[97]⟩ w8 (by decide) hQ8.c hQ8.n hokB.out (by omega)
                replace ha2 := Lib.hid ha2
                replace hQ8 := Lib.hid hQ8
                clear ha1 hQT hb8
                dsimp only
                go_wp2_with fail
                refine ha2.out.mono ?_
                rintro e w9 ⟨rfl, hb9⟩
                have hQ9 := hQ8.out.below hb9
                have hcur9 := hcur8.trans (hb9.mono hcw8)
                replace hQ9 := Lib.hid hQ9
                clear ha2 hQ8 hb9
                dsimp only
                go_wp2_with fail
                go_roundw
                case rel => exact ⟨i + 1, _, _, _, _, _, _, by omega, by omega, by go_num, hQ9.out, hokA.out, hokB.out, hcur9⟩
                case measure => simp [intOf]; omega
              · have := hnm4.out
                omega
          · clear hx17 hx27 hQ hok hok2
            by_cases h1 : i < nm
            · have d3 : decide ((i : Int) < max (n1 : Int) (n2 : Int)) = true := by rw [hmx]; simp; omega
              have d4 : decide ((i : Int) < 60) = false := by simp; omega
              clear hmx hnm4
              go_wp2_with fail
              go_ret
              exact ⟨rfl, hbW⟩
            · have d3 : decide ((i : Int) < max (n1 : Int) (n2 : Int)) = false := by rw [hmx]; simp; omega
              clear hmx hnm4
              go_wp2_with fail
              go_ret
              exact ⟨rfl, hbW⟩
theorem copies_row {w : World} (a1 : Option Addr) (len1 cap1 : Nat) (x1 : List SM) (h1 : RSl w.heap.size 5 (StP w.heap.size) w (Value.cells (.slice a1 len1 cap1)).toList x1) (_ : cap1 * 80 ≤ reachBytes)
    (a2 : Option Addr) (len2 cap2 : Nat) (x2 : List SM) (h2 : RSl w.heap.size 5 (StP w.heap.size) w (Value.cells (.slice a2 len2 cap2)).toList x2) (_ : cap2 * 80 ≤ reachBytes)
    (a3 : Option Addr) (len3 cap3 : Nat) (x3 : List SM) (h3 : RSl w.heap.size 5 (StP w.heap.size) w (Value.cells (.slice a3 len3 cap3)).toList x3) (_ : cap3 * 80 ≤ reachBytes) :
    Calls Try.prog 7 #[.slice a1 len1 cap1, .slice a2 len2 cap2, .slice a3 len3 cap3] w fun e w' => e = .returned (.bool true) ∧ Below w.heap.size w w' := by
  obtain ⟨b1, c1, e1, s1⟩ := h1
  obtain ⟨rfl, rfl, rfl⟩ : a1 = b1 ∧ len1 = x1.length ∧ cap1 = c1 := by simpa [Value.cells] using e1
  obtain ⟨b2, c2, e2, s2⟩ := h2
  obtain ⟨rfl, rfl, rfl⟩ : a2 = b2 ∧ len2 = x2.length ∧ cap2 = c2 := by simpa [Value.cells] using e2
  obtain ⟨b3, c3, e3, s3⟩ := h3
  obtain ⟨rfl, rfl, rfl⟩ : a3 = b3 ∧ len3 = x3.length ∧ cap3 = c3 := by simpa [Value.cells] using e3
  exact copies_any a1 a2 a3 cap1 cap2 cap3 x1 x2 x3 w s1 s2 s3
end Go.Proofs.Ytjhbeahkojippaa
