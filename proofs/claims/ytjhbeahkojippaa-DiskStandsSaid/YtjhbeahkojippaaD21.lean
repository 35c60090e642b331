/- Disk: what was synced stands: the law. -/
import Derived.Test.YtjhbeahkojippaaD19
namespace Go.Proofs.Ytjhbeahkojippaa
open Go.RowKit Go.Maps
attribute [local go_sem] Oper.semAt_some
set_option linter.unusedVariables false
set_option linter.unusedSimpArgs false

/-- A file is durable as v, and no change of it is left. -/
def Stand (M : DM) (s : ByteArray) (v : Option (List UInt8)) : Prop := getL M.safe s = v ∧ ∀ c ∈ M.chs, c.name ≠ s
theorem falls_stand (picks : List Int) (s : ByteArray) : ∀ (l : List CM) (i : Nat) (S : Files), (∀ c ∈ l, c.name ≠ s) → getL (fallsM picks i l S) s = getL S s
  | [], _, _, _ => rfl
  | c :: r, i, S, h => by
    have hc := h c (by simp)
    show getL (fallsM picks (i + 1) r (fallM S c (pickM picks i))) s = _
    rw [falls_stand picks s r (i + 1) _ (fun d hd => h d (by simp [hd]))]
    have hw : ∀ b, getL (withL S c.name b) s = getL S s := fun b => by rw [getL_withL, if_neg (fun e => hc e.symm)]
    unfold fallM
    split
    · split
      · rfl
      · exact hw _
    · split
      · rfl
      · split
        · cases getL S c.name with
          | none => rfl
          | some b =>
            dsimp only
            split
            · exact hw _
            · rfl
        · rw [getL_withoutL, if_neg (fun e => hc e.symm)]
theorem Stand.sync {M : DM} {s : ByteArray} (h : (syncM M s).1 = 0) : Stand (syncM M s).2 s (getL M.now s) ∧ (syncM M s).2.now = M.now := by
  unfold syncM at h ⊢
  split at h
  · rename_i h1; exact absurd h h1
  rename_i h1
  rw [if_neg h1]
  split at h
  · cases h
  rename_i h2
  rw [if_neg h2]
  refine ⟨⟨?_, fun c hc => ?_⟩, rfl⟩
  · dsimp only
    cases getL M.now s with
    | none => dsimp only; rw [getL_withoutL, if_pos rfl]
    | some b => dsimp only; rw [getL_withL, if_pos rfl]
  · have := (List.mem_filter.1 hc).2
    simpa using this
theorem Stand.step {M : DM} {s : ByteArray} {v : Option (List UInt8)} (h : Stand M s v) (t : SM) (ht : t.name ≠ s ∨ 3 < t.kind) : Stand (stepM t M) s v := by
  obtain ⟨h1, h2⟩ := h
  have happ : ∀ d : CM, d.name = t.name → t.name ≠ s → ∀ c ∈ M.chs ++ [d], c.name ≠ s := fun d hd hn c hc => by
    rcases List.mem_append.1 hc with hc | hc
    · exact h2 c hc
    · obtain rfl : c = d := by simpa using hc
      rw [hd]; exact hn
  unfold stepM stepN
  split
  · have hn : t.name ≠ s := ht.resolve_right (by omega)
    unfold writeM
    split
    · exact ⟨h1, h2⟩
    split
    · exact ⟨h1, h2⟩
    split
    · exact ⟨h1, h2⟩
    · exact ⟨h1, happ _ rfl hn⟩
  split
  · have hn : t.name ≠ s := ht.resolve_right (by omega)
    unfold cutM
    split
    · exact ⟨h1, h2⟩
    cases getL M.now t.name with
    | none => exact ⟨h1, h2⟩
    | some b =>
      dsimp only
      split
      · exact ⟨h1, h2⟩
      · exact ⟨h1, happ _ rfl hn⟩
  split
  · have hn : t.name ≠ s := ht.resolve_right (by omega)
    unfold removeM
    split
    · exact ⟨h1, h2⟩
    cases getL M.now t.name with
    | none => exact ⟨h1, h2⟩
    | some b => exact ⟨h1, happ _ rfl hn⟩
  split
  · have hn : t.name ≠ s := ht.resolve_right (by omega)
    unfold syncM
    split
    · exact ⟨h1, h2⟩
    split
    · exact ⟨h1, h2⟩
    refine ⟨?_, fun c hc => h2 c (List.mem_filter.1 hc).1⟩
    dsimp only
    cases getL M.now t.name with
    | none => dsimp only; rw [getL_withoutL, if_neg (fun e => hn e.symm)]; exact h1
    | some b => dsimp only; rw [getL_withL, if_neg (fun e => hn e.symm)]; exact h1
  split
  · refine ⟨?_, fun c hc => by cases hc⟩
    show getL (fallsM t.picks 0 M.chs M.safe) s = v
    rw [falls_stand _ _ _ _ _ h2]
    exact h1
  split
  · exact ⟨h1, h2⟩
  split
  · unfold limitM
    split
    · exact ⟨h1, h2⟩
    · exact ⟨h1, h2⟩
  · exact ⟨h1, h2⟩
theorem Stand.crash {M : DM} {s : ByteArray} {v : Option (List UInt8)} (h : Stand M s v) (picks : List Int) : getL (crashM M picks).now s = v ∧ getL (crashM M picks).safe s = v := by
  have : getL (fallsM picks 0 M.chs M.safe) s = v := by rw [falls_stand _ _ _ _ _ h.2]; exact h.1
  exact ⟨this, this⟩

theorem OkM.fails {N : Nat} {M : DM} (h : OkM N M) (b : Bool) : OkM N (failM M b) := ⟨h.room, h.now, h.safe, h.nown, h.safen, h.chn, h.ln, h.lsc⟩
theorem Both.file {w w' : World} {base b mb B : Nat} {x : DX} {r : RX} {M M' M2 M2' : DM} {v : Value} {bs : List UInt8} (h : Both w base b mb x r M' M2' w') (hD : Dsk w base b x M) (hR : Rf w base mb r M2) (hf : FileAt w B v bs) : FileAt w' B v bs := by
  obtain ⟨_, _, _, _, hc, _, _⟩ := h
  exact hf.chg hc (fun k hk => hk.elim (hD.noU8 k) (hR.noU8 k))

set_option maxRecDepth 100000 in
set_option maxHeartbeats 8000000 in
theorem stands_any (nm : ByteArray) (hnm : nm.size ≤ maxLen) (ao ao1 : Option Addr) (cap cap1 : Nat) (xs xs1 : List SM) (pa0 : Option Addr) (pc0 : Nat) (picks : List Int) (w : World) (hx : SlA w.heap.size 5 (StP w.heap.size) w ao cap xs) (hx1 : SlA w.heap.size 5 (StP w.heap.size) w ao1 cap1 xs1) (hpk : SlA w.heap.size 1 (RI .i64) w pa0 pc0 picks) :
    Calls Try.prog 4 #[.agg #[.slice ao xs.length cap, .string nm], .slice ao1 xs1.length cap1, .slice pa0 picks.length pc0] w fun e w' => e = .returned (.bool true) ∧ Below w.heap.size w w' := by
  obtain ⟨n, hn⟩ : ∃ n, n = xs.length := ⟨_, rfl⟩
  obtain ⟨n1, hn1⟩ : ∃ n1, n1 = xs1.length := ⟨_, rfl⟩
  obtain ⟨np, hnp⟩ : ∃ np, np = picks.length := ⟨_, rfl⟩
  have hnl := hx.len
  have hnl1 := hx1.len
  rw [← hn] at hnl ⊢
  rw [← hn1] at hnl1 ⊢
  rw [← hnp]
  replace hn := Lib.hid hn
  replace hn1 := Lib.hid hn1
  replace hnp := Lib.hid hnp
  have hok0 := OkM.empty 100000 (by omega) (by omega)
  go_enter Try.func4, Try.ntmps4
  go_upto_region 1 with fail
  obtain ⟨w0, hw0⟩ : ∃ w0, w0 = w.alloc (.cells #[.slice ao n cap, .string nm] 39) := ⟨_, rfl⟩
  obtain ⟨tb, htb⟩ : ∃ tb, tb = w.heap.size := ⟨_, rfl⟩
  have hb0 : Below w.heap.size w w0 := by rw [hw0]; exact belowAlloc _ _
  have ht : Blk w0 tb #[.slice ao n cap, .string nm] 39 := by rw [hw0, htb]; exact Blk.new _ _ _
  rw [← hw0, ← htb]
  clear hw0
  have htl := ht.lt
  replace htb := Lib.hid htb
  go_wp2_with fail
  refine (known_any w0).mono ?_
  rintro e w1 ⟨rfl, hb1d⟩
  have hb1 : Below w.heap.size w w1 := hb0.trans (hb1d.mono hb0.size)
  have t0 : w1.cell? ⟨tb, 0, none⟩ = some (.slice ao n cap) := (hb1d.cell (p := ⟨tb, 0, none⟩) htl).trans (ht.cellAt rfl)
  have t1 : w1.cell? ⟨tb, 1, none⟩ = some (.string nm) := (hb1d.cell (p := ⟨tb, 1, none⟩) htl).trans (ht.cellAt rfl)
  clear hb1d ht hb0
  dsimp only
  go_upto_region 3 with fail
  go_quiet (fail)
  obtain ⟨wq, hwq⟩ : ∃ wq, wq = w1.drewN nq := ⟨_, rfl⟩
  have hbq : Below w.heap.size w wq := by rw [hwq]; exact below_drewN hb1 _
  rw [← hwq]
  clear hwq t0 t1 hb1 htl
  go_wp2_with fail
  refine (new_any 100000 wq (by omega) (by omega)).mono ?_
  rintro e w2 ⟨b, x, rfl, hD, hb2, _, _, _⟩
  obtain ⟨base, hbase⟩ : ∃ base, base = wq.heap.size := ⟨_, rfl⟩
  rw [← hbase] at hD hb2
  have hwb : w.heap.size ≤ base := by rw [hbase]; exact hbq.size
  have hb12 : Below w.heap.size w w2 := hbq.trans (hb2.mono hwb)
  have hbs := hb2.size
  rw [← hbase] at hbs
  have hx2 : SlA base 5 (StP base) w2 ao cap xs := hx.imp hb12 hwb (fun cs x _ h => h.imp hb12 hwb)
  have hx12 : SlA base 5 (StP base) w2 ao1 cap1 xs1 := hx1.imp hb12 hwb (fun cs x _ h => h.imp hb12 hwb)
  have hpk2 : SlA base 1 (RI .i64) w2 pa0 pc0 picks := hpk.imp hb12 hwb (fun cs x _ h => h)
  replace hbase := Lib.hid hbase
  clear hx hx1 hpk hb2 hbq
  dsimp only
  go_wp2_with fail
  go_loopw [11] (fun x8 wr => ∃ (i : Nat) (x : DX) (M : DM), i ≤ n ∧ i ≤ 100 ∧ x8 = .int .i64 i ∧ Dsk wr base b x M ∧ OkM i M ∧ Below base w2 wr) (fun x8 _ => n - (intOf x8).toNat)
  case atStart => exact ⟨0, x, _, Nat.zero_le _, Nat.zero_le _, rfl, hD, hok0, Below.refl _ _⟩
  case round =>
    clear hD hok0
    obtain ⟨i, x, M, hin, hi2, rfl, hD, hok, hbr⟩ := hrel
    have hbw : base ≤ wr.heap.size := Nat.le_trans hbs hbr.size
    by_cases hlt : i < n ∧ i < 100
    · obtain ⟨hlt1, hlt2⟩ := hlt
      obtain ⟨sb, so, s, dl, pl, da, dc, pa, pc, rfl, hsb, e0, e1, e2, e3, e4, hse, hS⟩ := SlA.stepAt2 hx2 (i := i) (by rw [← hn.out]; exact hlt1)
      have d3 : decide ((i : Int) < (n : Int)) = true := by simp; omega
      have d4 : decide ((i : Int) < 100) = true := by simp; omega
      replace e0 := ((hbr).cell (p := ⟨sb, so + i * 5, none⟩) hsb).trans e0
      replace e1 := ((hbr).cell (p := ⟨sb, so + i * 5 + 1, none⟩) hsb).trans e1
      replace e2 := ((hbr).cell (p := ⟨sb, so + i * 5 + 2, none⟩) hsb).trans e2
      replace e3 := ((hbr).cell (p := ⟨sb, so + i * 5 + 3, none⟩) hsb).trans e3
      replace e4 := ((hbr).cell (p := ⟨sb, so + i * 5 + 4, none⟩) hsb).trans e4
      obtain ⟨w3, hw3⟩ : ∃ w3, w3 = wr.alloc (.cells #[.int .i64 0, .bool false, .slice none 0 0, .slice none 0 0, .slice none 0 0] 45) := ⟨_, rfl⟩
      obtain ⟨mb, hmb⟩ : ∃ mb, mb = wr.heap.size := ⟨_, rfl⟩
      have hR3 := Rf.empty 0 hbw
      rw [← hw3, ← hmb] at hR3
      have hb3 : Below wr.heap.size wr w3 := by rw [hw3]; exact belowAlloc _ _
      have hD3 := hD.below hb3
      have hbw3 : base ≤ w3.heap.size := Nat.le_trans hbw hb3.size
      have hb23 := (hbr).trans (hb3.mono hbw)
      have hst := hS.out.call hb23 hD3 hR3 hok ((OkM.empty 0 (by omega) (by omega)).mono (Nat.zero_le _)) (by omega) hbw3
      replace hst := Lib.hid hst
      replace hw3 := Lib.hid hw3
      replace hmb := Lib.hid hmb
      have hsbl : sb < wr.heap.size := Nat.lt_of_lt_of_le hsb hbw
      clear hb3
      clear hx2
      go_upto_region 10 with fail
      go_wp2_with fail
      rw [← hw3.out, ← hmb.out]
      refine hst.out.mono ?_
      rintro e w5 ⟨⟨ok, rfl, hok1⟩, hB⟩
      have hb5 := hB.chg2 hD3 hR3 hbw3
      obtain ⟨x', r', hD5, _, _, _, _⟩ := hB
      have hok5 := hok.step s
      have hb25 : Below base w2 w5 := hb23.trans hb5
      replace hD5 := Lib.hid hD5
      replace hok5 := Lib.hid hok5
      clear hst hD hD3 hR3 hb23 hok hb5 e0 e1 e2 e3 e4
      dsimp only
      go_wp2_with fail
      go_roundw
      case rel => exact ⟨i + 1, x', _, by omega, by omega, by go_num, hD5.out, hok5.out, hb25⟩
      case measure => simp [intOf]; omega
    · obtain ⟨wi, hwi⟩ : ∃ wi, wi = wr := ⟨_, rfl⟩
      rw [← hwi] at hD hbr hbw ⊢
      clear hwi hx2
      have hf := fail_any false wi hD
      replace hf := Lib.hid hf
      by_cases h1 : i < n
      · have d3 : decide ((i : Int) < (n : Int)) = true := by simp; omega
        have d4 : decide ((i : Int) < 100) = false := by simp; omega
        clear hlt
        go_wp2_with fail
        refine hf.out.mono ?_
        rintro e w4 ⟨⟨v4, rfl⟩, hD4, hc4⟩
        have hok4 := hok.fails false
        have hb4 : Below base wi w4 := hc4.below hbw (fun k hk e => by have := hD.base_le k e; omega)
        have hbw4 := Nat.le_trans hbw hb4.size
        have hsy := sync_any nm w4 hnm hD4 hok4 (by omega) hbw4
        have hb24 := hbr.trans hb4
        replace hsy := Lib.hid hsy
        clear hf hc4 hb4 hok
        dsimp only
        go_wp2_with fail
        refine hsy.out.mono ?_
        rintro e w5 ⟨rfl, hst5⟩
        obtain ⟨x5, hD5, hc5, _, _⟩ := hst5
        have hb5 : Below base w4 w5 := hc5.below hbw4 (fun k hk e => by have := hD4.base_le k e; omega)
        have hb25 := hb24.trans hb5
        have hb15 : Below w.heap.size w w5 := hb12.trans (hb25.mono hwb)
        have hok5 := hok4.sync nm
        have hbw5 := Nat.le_trans hbw4 hb5.size
        by_cases hz : (syncM (failM M false) nm).1 = 0
        · obtain ⟨hS5, hno5⟩ := Stand.sync hz
          rw [hz]
          obtain ⟨M5, hM5⟩ : ∃ M5, M5 = (syncM (failM M false) nm).2 := ⟨_, rfl⟩
          rw [← hM5] at hD5 hok5 hS5 hno5
          rw [← hno5] at hS5
          obtain ⟨vo, hvo⟩ : ∃ vo, vo = getL M5.now nm := ⟨_, rfl⟩
          have hrd := read_any nm w5 hnm hD5 hok5
          rw [show bytesOf M5.now nm = vo.getD [] by rw [hvo]; rfl, ← hvo] at hrd
          rw [← hvo] at hS5
          replace hrd := Lib.hid hrd
          replace hS5 := Lib.hid hS5
          clear hsy hD4 hok4 hc5 hb5 hz hM5 hno5 hvo hb24 hbw4 hbr
          dsimp only
          go_wp2_with fail
          refine hrd.out.mono ?_
          rintro e w6 ⟨v6, rfl, hO6, hb6⟩
          have hD6 := hD5.below hb6
          have hF6 := FileAt.own hO6
          have hb26 := hb25.trans (hb6.mono hbw5)
          have hbw6 := Nat.le_trans hbw5 hb6.size
          have hx16 : SlA base 5 (StP base) w6 ao1 cap1 xs1 := hx12.imp hb26 (Nat.le_refl _) (fun cs x _ h => h.imp hb26 (Nat.le_refl _))
          have hpk6 : SlA base 1 (RI .i64) w6 pa0 pc0 picks := hpk2.imp hb26 (Nat.le_refl _) (fun cs x _ h => h)
          have hb16 : Below w.heap.size w w6 := hb12.trans (hb26.mono hwb)
          obtain ⟨vs, hvs⟩ : ∃ vs, vs = vo.isSome := ⟨_, rfl⟩
          rw [← hvs]
          replace hvs := Lib.hid hvs
          have hok6 := hok5.mono (N' := 200) (by omega)
          clear hrd hD5 hO6 hb6 hb25 hb15 hok5 hbw5 hx12 hpk2 hb12 hbs hb26
          dsimp only
          go_wp2_with fail
          go_loopw [14] (fun x8 wr => ∃ (j : Nat) (x : DX) (M : DM), j ≤ n1 ∧ j ≤ 100 ∧ x8 = .int .i64 j ∧ Dsk wr base b x M ∧ OkM (200 + j) M ∧ Hid (Stand M nm vo) ∧ FileAt wr w5.heap.size v6 (vo.getD []) ∧ Below base w6 wr) (fun x8 _ => n1 - (intOf x8).toNat)
          case atStart => exact ⟨0, x5, _, Nat.zero_le _, Nat.zero_le _, rfl, hD6, hok6, hS5, hF6, Below.refl _ _⟩
          case round =>
            clear hD6 hok6 hS5 hF6 hD
            obtain ⟨j, x, M, hjn, hj2, rfl, hD, hok, hSt, hF, hbr⟩ := hrel
            have hbw : base ≤ wr.heap.size := Nat.le_trans hbw6 hbr.size
            by_cases hlt : j < n1 ∧ j < 100
            · obtain ⟨hlt1, hlt2⟩ := hlt
              obtain ⟨sb, so, s, dl, pl, da, dc, pa, pc, rfl, hsb, e0, e1, e2, e3, e4, hse, hS⟩ := SlA.stepAt2 hx16 (i := j) (by rw [← hn1.out]; exact hlt1)
              have d6 : decide ((j : Int) < (n1 : Int)) = true := by simp; omega
              have d7 : decide ((j : Int) < 100) = true := by simp; omega
              have hq := str_eq s.name nm
              have he1 := ((hbr).cell (p := ⟨sb, so + j * 5 + 1, none⟩) hsb).trans e1
              have he0 := ((hbr).cell (p := ⟨sb, so + j * 5, none⟩) hsb).trans e0
              clear hx16 hpk6
              by_cases hne : s.name = nm
              · rw [decide_eq_true hne] at hq
                replace hne := Lib.hid hne
                by_cases hk : 3 < s.kind
                · have d8 : decide (3 < s.kind) = true := by simp; omega
                  clear he1 he0
                  replace e0 := ((hbr).cell (p := ⟨sb, so + j * 5, none⟩) hsb).trans e0
                  replace e1 := ((hbr).cell (p := ⟨sb, so + j * 5 + 1, none⟩) hsb).trans e1
                  replace e2 := ((hbr).cell (p := ⟨sb, so + j * 5 + 2, none⟩) hsb).trans e2
                  replace e3 := ((hbr).cell (p := ⟨sb, so + j * 5 + 3, none⟩) hsb).trans e3
                  replace e4 := ((hbr).cell (p := ⟨sb, so + j * 5 + 4, none⟩) hsb).trans e4
                  obtain ⟨w3, hw3⟩ : ∃ w3, w3 = wr.alloc (.cells #[.int .i64 0, .bool false, .slice none 0 0, .slice none 0 0, .slice none 0 0] 45) := ⟨_, rfl⟩
                  obtain ⟨mb, hmb⟩ : ∃ mb, mb = wr.heap.size := ⟨_, rfl⟩
                  have hR3 := Rf.empty 0 hbw
                  rw [← hw3, ← hmb] at hR3
                  have hb3 : Below wr.heap.size wr w3 := by rw [hw3]; exact belowAlloc _ _
                  have hD3 := hD.below hb3
                  have hF3 := hF.below hb3 (Nat.le_refl _)
                  have hbw3 : base ≤ w3.heap.size := Nat.le_trans hbw hb3.size
                  have hb23 := (hbr).trans (hb3.mono hbw)
                  have hst := hS.out.call hb23 hD3 hR3 hok ((OkM.empty 0 (by omega) (by omega)).mono (Nat.zero_le _)) (by omega) hbw3
                  have hsbl : sb < wr.heap.size := Nat.lt_of_lt_of_le hsb hbw
                  have hStn : Hid (Stand (stepM s M) nm vo) := Lib.hid (hSt.out.step s (.inr hk))
                  replace hst := Lib.hid hst
                  replace hw3 := Lib.hid hw3
                  replace hmb := Lib.hid hmb
                  replace hF3 := Lib.hid hF3
                  clear hb3 hSt hF
                  go_wp2_with fail
                  rw [← hw3.out, ← hmb.out]
                  refine hst.out.mono ?_
                  rintro e w7 ⟨⟨ok, rfl, hok1⟩, hB⟩
                  have hb7 := hB.chg2 hD3 hR3 hbw3
                  have hF7 := hB.file hD3 hR3 hF3.out
                  obtain ⟨x', r', hD7, _, _, _, _⟩ := hB
                  have hok7 := hok.step s
                  have hb27 : Below base w6 w7 := hb23.trans hb7
                  replace hD7 := Lib.hid hD7
                  replace hok7 := Lib.hid hok7
                  replace hF7 := Lib.hid hF7
                  clear hst hD hD3 hR3 hF3 hb23 hok hb7 e0 e1 e2 e3 e4
                  dsimp only
                  go_wp2_with fail
                  go_roundw
                  case rel => exact ⟨j + 1, x', _, by omega, by omega, by go_num, hD7.out, hok7.out, hStn, hF7.out, hb27⟩
                  case measure => simp [intOf]; omega
                · have d8 : decide (3 < s.kind) = false := by simp; omega
                  clear e0 e1 e2 e3 e4
                  replace hD := Lib.hid hD
                  replace hok := Lib.hid hok
                  replace hF := Lib.hid hF
                  go_wp2_with fail
                  go_roundw
                  case rel => exact ⟨j + 1, x, M, by omega, by omega, by go_num, hD.out, hok.out.mono (by omega), hSt, hF.out, hbr⟩
                  case measure => simp [intOf]; omega
              · rw [decide_eq_false hne] at hq
                have hne2 : Hid (s.name ≠ nm) := Lib.hid hne
                clear hne he1 he0
                replace e0 := ((hbr).cell (p := ⟨sb, so + j * 5, none⟩) hsb).trans e0
                replace e1 := ((hbr).cell (p := ⟨sb, so + j * 5 + 1, none⟩) hsb).trans e1
                replace e2 := ((hbr).cell (p := ⟨sb, so + j * 5 + 2, none⟩) hsb).trans e2
                replace e3 := ((hbr).cell (p := ⟨sb, so + j * 5 + 3, none⟩) hsb).trans e3
                replace e4 := ((hbr).cell (p := ⟨sb, so + j * 5 + 4, none⟩) hsb).trans e4
                obtain ⟨w3, hw3⟩ : ∃ w3, w3 = wr.alloc (.cells #[.int .i64 0, .bool false, .slice none 0 0, .slice none 0 0, .slice none 0 0] 45) := ⟨_, rfl⟩
                obtain ⟨mb, hmb⟩ : ∃ mb, mb = wr.heap.size := ⟨_, rfl⟩
                have hR3 := Rf.empty 0 hbw
                rw [← hw3, ← hmb] at hR3
                have hb3 : Below wr.heap.size wr w3 := by rw [hw3]; exact belowAlloc _ _
                have hD3 := hD.below hb3
                have hF3 := hF.below hb3 (Nat.le_refl _)
                have hbw3 : base ≤ w3.heap.size := Nat.le_trans hbw hb3.size
                have hb23 := (hbr).trans (hb3.mono hbw)
                have hst := hS.out.call hb23 hD3 hR3 hok ((OkM.empty 0 (by omega) (by omega)).mono (Nat.zero_le _)) (by omega) hbw3
                have hsbl : sb < wr.heap.size := Nat.lt_of_lt_of_le hsb hbw
                have hStn : Hid (Stand (stepM s M) nm vo) := Lib.hid (hSt.out.step s (.inl hne2.out))
                replace hst := Lib.hid hst
                replace hw3 := Lib.hid hw3
                replace hmb := Lib.hid hmb
                replace hF3 := Lib.hid hF3
                clear hb3 hSt hF
                go_wp2_with fail
                rw [← hw3.out, ← hmb.out]
                refine hst.out.mono ?_
                rintro e w7 ⟨⟨ok, rfl, hok1⟩, hB⟩
                have hb7 := hB.chg2 hD3 hR3 hbw3
                have hF7 := hB.file hD3 hR3 hF3.out
                obtain ⟨x', r', hD7, _, _, _, _⟩ := hB
                have hok7 := hok.step s
                have hb27 : Below base w6 w7 := hb23.trans hb7
                replace hD7 := Lib.hid hD7
                replace hok7 := Lib.hid hok7
                replace hF7 := Lib.hid hF7
                clear hst hD hD3 hR3 hF3 hb23 hok hb7 e0 e1 e2 e3 e4
                dsimp only
                go_wp2_with fail
                go_roundw
                case rel => exact ⟨j + 1, x', _, by omega, by omega, by go_num, hD7.out, hok7.out, hStn, hF7.out, hb27⟩
                case measure => simp [intOf]; omega
            · obtain ⟨wj, hwj⟩ : ∃ wj, wj = wr := ⟨_, rfl⟩
              rw [← hwj] at hD hF hbr hbw ⊢
              clear hwj hx16
              have hpk7 : SlA wj.heap.size 1 (RI .i64) wj pa0 pc0 picks := hpk6.imp hbr hbw (fun cs x _ h => h)
              have hcr := crash_any picks pa0 pc0 wj hD hok (by omega) hbw hpk7
              rw [← hnp.out] at hcr
              replace hcr := Lib.hid hcr
              clear hpk6 hpk7
              by_cases h1 : j < n1
              · have d6 : decide ((j : Int) < (n1 : Int)) = true := by simp; omega
                have d7 : decide ((j : Int) < 100) = false := by simp; omega
                clear hlt
                go_wp2_with fail
                refine hcr.out.mono ?_
                rintro e w7 ⟨⟨v7, rfl⟩, x7, hD7, hc7, _, _⟩
                obtain ⟨g1, g2⟩ := hSt.out.crash picks
                have hok7 := hok.crash picks
                have hF7 := hF.chg hc7 (hD.noU8)
                have hb7 : Below base wj w7 := hc7.below hbw (fun k hk e => by have := hD.base_le k e; omega)
                have hb27 := hbr.trans hb7
                have hbw7 := Nat.le_trans hbw hb7.size
                obtain ⟨M7, hM7⟩ : ∃ M7, M7 = crashM M picks := ⟨_, rfl⟩
                rw [← hM7] at hD7 g1 g2 hok7
                have hr1 := read_any nm w7 hnm hD7 hok7
                have hr2 := fun wy (hy : Below w7.heap.size w7 wy) => durable_any nm wy hnm (hD7.below hy) hok7
                rw [show bytesOf M7.now nm = vo.getD [] by unfold bytesOf; rw [g1], g1, ← hvs.out] at hr1
                rw [show bytesOf M7.safe nm = vo.getD [] by unfold bytesOf; rw [g2], g2, ← hvs.out] at hr2
                replace hr1 := Lib.hid hr1
                replace hr2 := Lib.hid hr2
                replace hF7 := Lib.hid hF7
                clear hcr hD hok hF hSt hc7 hD7 hM7 g1 g2 hok7 hb7 hbr
                dsimp only
                go_wp2_with fail
                refine hr1.out.mono ?_
                rintro e w8 ⟨v8, rfl, hO8, hb8⟩
                have hU8 := Rds.own hO8
                have hF8 := Rds.file (hF7.out.below hb8 (Nat.le_refl _))
                have hb28 := hb27.trans (hb8.mono hbw7)
                have hr2' := hr2.out w8 hb8
                replace hr2' := Lib.hid hr2'
                clear hr1 hr2 hF7 hO8 hb27
                dsimp only
                go_wp2_with fail
                refine hr2'.out.mono ?_
                rintro e w9 ⟨v9, rfl, hO9, hb9⟩
                have hU9 := Rds.own hO9
                have hs1 := same_rds (hU8.below hb9) (hF8.below hb9)
                have hs2 := same_rds hU9 (hF8.below hb9)
                rw [decide_eq_true rfl] at hs1 hs2
                have hb29 := hb28.trans (hb9.mono (Nat.le_trans hbw7 hb8.size))
                have hfin : Below w.heap.size w w9 := hb16.trans (hb29.mono hwb)
                have hvv : (vs == vs) = true := by cases vs <;> rfl
                replace hs1 := Lib.hid hs1
                replace hs2 := Lib.hid hs2
                clear hr2' hU8 hU9 hF8 hO9
                dsimp only
                go_wp2_with fail
                refine hs1.out.mono ?_
                rintro e w15 ⟨rfl, hw15⟩
                obtain ⟨w12, hw12⟩ : ∃ w12, w12 = w15 := ⟨_, rfl⟩
                rw [← hw12] at hw15 ⊢
                obtain rfl : w9 = w12 := hw15.symm
                clear hw12 hw15
                dsimp only
                go_wp2_with fail
                refine hs2.out.mono ?_
                rintro e w15 ⟨rfl, hw15⟩
                obtain ⟨w12, hw12⟩ : ∃ w12, w12 = w15 := ⟨_, rfl⟩
                rw [← hw12] at hw15 ⊢
                obtain rfl : w9 = w12 := hw15.symm
                clear hw12 hw15
                dsimp only
                go_wp2_with fail
                go_ret
                exact ⟨rfl, hfin⟩
              · have d6 : decide ((j : Int) < (n1 : Int)) = false := by simp; omega
                clear hlt
                go_wp2_with fail
                refine hcr.out.mono ?_
                rintro e w7 ⟨⟨v7, rfl⟩, x7, hD7, hc7, _, _⟩
                obtain ⟨g1, g2⟩ := hSt.out.crash picks
                have hok7 := hok.crash picks
                have hF7 := hF.chg hc7 (hD.noU8)
                have hb7 : Below base wj w7 := hc7.below hbw (fun k hk e => by have := hD.base_le k e; omega)
                have hb27 := hbr.trans hb7
                have hbw7 := Nat.le_trans hbw hb7.size
                obtain ⟨M7, hM7⟩ : ∃ M7, M7 = crashM M picks := ⟨_, rfl⟩
                rw [← hM7] at hD7 g1 g2 hok7
                have hr1 := read_any nm w7 hnm hD7 hok7
                have hr2 := fun wy (hy : Below w7.heap.size w7 wy) => durable_any nm wy hnm (hD7.below hy) hok7
                rw [show bytesOf M7.now nm = vo.getD [] by unfold bytesOf; rw [g1], g1, ← hvs.out] at hr1
                rw [show bytesOf M7.safe nm = vo.getD [] by unfold bytesOf; rw [g2], g2, ← hvs.out] at hr2
                replace hr1 := Lib.hid hr1
                replace hr2 := Lib.hid hr2
                replace hF7 := Lib.hid hF7
                clear hcr hD hok hF hSt hc7 hD7 hM7 g1 g2 hok7 hb7 hbr
                dsimp only
                go_wp2_with fail
                refine hr1.out.mono ?_
                rintro e w8 ⟨v8, rfl, hO8, hb8⟩
                have hU8 := Rds.own hO8
                have hF8 := Rds.file (hF7.out.below hb8 (Nat.le_refl _))
                have hb28 := hb27.trans (hb8.mono hbw7)
                have hr2' := hr2.out w8 hb8
                replace hr2' := Lib.hid hr2'
                clear hr1 hr2 hF7 hO8 hb27
                dsimp only
                go_wp2_with fail
                refine hr2'.out.mono ?_
                rintro e w9 ⟨v9, rfl, hO9, hb9⟩
                have hU9 := Rds.own hO9
                have hs1 := same_rds (hU8.below hb9) (hF8.below hb9)
                have hs2 := same_rds hU9 (hF8.below hb9)
                rw [decide_eq_true rfl] at hs1 hs2
                have hb29 := hb28.trans (hb9.mono (Nat.le_trans hbw7 hb8.size))
                have hfin : Below w.heap.size w w9 := hb16.trans (hb29.mono hwb)
                have hvv : (vs == vs) = true := by cases vs <;> rfl
                replace hs1 := Lib.hid hs1
                replace hs2 := Lib.hid hs2
                clear hr2' hU8 hU9 hF8 hO9
                dsimp only
                go_wp2_with fail
                refine hs1.out.mono ?_
                rintro e w15 ⟨rfl, hw15⟩
                obtain ⟨w12, hw12⟩ : ∃ w12, w12 = w15 := ⟨_, rfl⟩
                rw [← hw12] at hw15 ⊢
                obtain rfl : w9 = w12 := hw15.symm
                clear hw12 hw15
                dsimp only
                go_wp2_with fail
                refine hs2.out.mono ?_
                rintro e w15 ⟨rfl, hw15⟩
                obtain ⟨w12, hw12⟩ : ∃ w12, w12 = w15 := ⟨_, rfl⟩
                rw [← hw12] at hw15 ⊢
                obtain rfl : w9 = w12 := hw15.symm
                clear hw12 hw15
                dsimp only
                go_wp2_with fail
                go_ret
                exact ⟨rfl, hfin⟩
        · have dz : (((syncM (failM M false) nm).1 : Int) != 0) = true := by simp; omega
          clear hsy hD4 hok4 hc5 hb5 hD5 hok5 hz hx12 hpk2
          dsimp only
          go_wp2_with fail
          go_ret
          exact ⟨rfl, hb15⟩
      · have d3 : decide ((i : Int) < (n : Int)) = false := by simp; omega
        clear hlt
        go_wp2_with fail
        refine hf.out.mono ?_
        rintro e w4 ⟨⟨v4, rfl⟩, hD4, hc4⟩
        have hok4 := hok.fails false
        have hb4 : Below base wi w4 := hc4.below hbw (fun k hk e => by have := hD.base_le k e; omega)
        have hbw4 := Nat.le_trans hbw hb4.size
        have hsy := sync_any nm w4 hnm hD4 hok4 (by omega) hbw4
        have hb24 := hbr.trans hb4
        replace hsy := Lib.hid hsy
        clear hf hc4 hb4 hok
        dsimp only
        go_wp2_with fail
        refine hsy.out.mono ?_
        rintro e w5 ⟨rfl, hst5⟩
        obtain ⟨x5, hD5, hc5, _, _⟩ := hst5
        have hb5 : Below base w4 w5 := hc5.below hbw4 (fun k hk e => by have := hD4.base_le k e; omega)
        have hb25 := hb24.trans hb5
        have hb15 : Below w.heap.size w w5 := hb12.trans (hb25.mono hwb)
        have hok5 := hok4.sync nm
        have hbw5 := Nat.le_trans hbw4 hb5.size
        by_cases hz : (syncM (failM M false) nm).1 = 0
        · obtain ⟨hS5, hno5⟩ := Stand.sync hz
          rw [hz]
          obtain ⟨M5, hM5⟩ : ∃ M5, M5 = (syncM (failM M false) nm).2 := ⟨_, rfl⟩
          rw [← hM5] at hD5 hok5 hS5 hno5
          rw [← hno5] at hS5
          obtain ⟨vo, hvo⟩ : ∃ vo, vo = getL M5.now nm := ⟨_, rfl⟩
          have hrd := read_any nm w5 hnm hD5 hok5
          rw [show bytesOf M5.now nm = vo.getD [] by rw [hvo]; rfl, ← hvo] at hrd
          rw [← hvo] at hS5
          replace hrd := Lib.hid hrd
          replace hS5 := Lib.hid hS5
          clear hsy hD4 hok4 hc5 hb5 hz hM5 hno5 hvo hb24 hbw4 hbr
          dsimp only
          go_wp2_with fail
          refine hrd.out.mono ?_
          rintro e w6 ⟨v6, rfl, hO6, hb6⟩
          have hD6 := hD5.below hb6
          have hF6 := FileAt.own hO6
          have hb26 := hb25.trans (hb6.mono hbw5)
          have hbw6 := Nat.le_trans hbw5 hb6.size
          have hx16 : SlA base 5 (StP base) w6 ao1 cap1 xs1 := hx12.imp hb26 (Nat.le_refl _) (fun cs x _ h => h.imp hb26 (Nat.le_refl _))
          have hpk6 : SlA base 1 (RI .i64) w6 pa0 pc0 picks := hpk2.imp hb26 (Nat.le_refl _) (fun cs x _ h => h)
          have hb16 : Below w.heap.size w w6 := hb12.trans (hb26.mono hwb)
          obtain ⟨vs, hvs⟩ : ∃ vs, vs = vo.isSome := ⟨_, rfl⟩
          rw [← hvs]
          replace hvs := Lib.hid hvs
          have hok6 := hok5.mono (N' := 200) (by omega)
          clear hrd hD5 hO6 hb6 hb25 hb15 hok5 hbw5 hx12 hpk2 hb12 hbs hb26
          dsimp only
          go_wp2_with fail
          go_loopw [14] (fun x8 wr => ∃ (j : Nat) (x : DX) (M : DM), j ≤ n1 ∧ j ≤ 100 ∧ x8 = .int .i64 j ∧ Dsk wr base b x M ∧ OkM (200 + j) M ∧ Hid (Stand M nm vo) ∧ FileAt wr w5.heap.size v6 (vo.getD []) ∧ Below base w6 wr) (fun x8 _ => n1 - (intOf x8).toNat)
          case atStart => exact ⟨0, x5, _, Nat.zero_le _, Nat.zero_le _, rfl, hD6, hok6, hS5, hF6, Below.refl _ _⟩
          case round =>
            clear hD6 hok6 hS5 hF6 hD
            obtain ⟨j, x, M, hjn, hj2, rfl, hD, hok, hSt, hF, hbr⟩ := hrel
            have hbw : base ≤ wr.heap.size := Nat.le_trans hbw6 hbr.size
            by_cases hlt : j < n1 ∧ j < 100
            · obtain ⟨hlt1, hlt2⟩ := hlt
              obtain ⟨sb, so, s, dl, pl, da, dc, pa, pc, rfl, hsb, e0, e1, e2, e3, e4, hse, hS⟩ := SlA.stepAt2 hx16 (i := j) (by rw [← hn1.out]; exact hlt1)
              have d6 : decide ((j : Int) < (n1 : Int)) = true := by simp; omega
              have d7 : decide ((j : Int) < 100) = true := by simp; omega
              have hq := str_eq s.name nm
              have he1 := ((hbr).cell (p := ⟨sb, so + j * 5 + 1, none⟩) hsb).trans e1
              have he0 := ((hbr).cell (p := ⟨sb, so + j * 5, none⟩) hsb).trans e0
              clear hx16 hpk6
              by_cases hne : s.name = nm
              · rw [decide_eq_true hne] at hq
                replace hne := Lib.hid hne
                by_cases hk : 3 < s.kind
                · have d8 : decide (3 < s.kind) = true := by simp; omega
                  clear he1 he0
                  replace e0 := ((hbr).cell (p := ⟨sb, so + j * 5, none⟩) hsb).trans e0
                  replace e1 := ((hbr).cell (p := ⟨sb, so + j * 5 + 1, none⟩) hsb).trans e1
                  replace e2 := ((hbr).cell (p := ⟨sb, so + j * 5 + 2, none⟩) hsb).trans e2
                  replace e3 := ((hbr).cell (p := ⟨sb, so + j * 5 + 3, none⟩) hsb).trans e3
                  replace e4 := ((hbr).cell (p := ⟨sb, so + j * 5 + 4, none⟩) hsb).trans e4
                  obtain ⟨w3, hw3⟩ : ∃ w3, w3 = wr.alloc (.cells #[.int .i64 0, .bool false, .slice none 0 0, .slice none 0 0, .slice none 0 0] 45) := ⟨_, rfl⟩
                  obtain ⟨mb, hmb⟩ : ∃ mb, mb = wr.heap.size := ⟨_, rfl⟩
                  have hR3 := Rf.empty 0 hbw
                  rw [← hw3, ← hmb] at hR3
                  have hb3 : Below wr.heap.size wr w3 := by rw [hw3]; exact belowAlloc _ _
                  have hD3 := hD.below hb3
                  have hF3 := hF.below hb3 (Nat.le_refl _)
                  have hbw3 : base ≤ w3.heap.size := Nat.le_trans hbw hb3.size
                  have hb23 := (hbr).trans (hb3.mono hbw)
                  have hst := hS.out.call hb23 hD3 hR3 hok ((OkM.empty 0 (by omega) (by omega)).mono (Nat.zero_le _)) (by omega) hbw3
                  have hsbl : sb < wr.heap.size := Nat.lt_of_lt_of_le hsb hbw
                  have hStn : Hid (Stand (stepM s M) nm vo) := Lib.hid (hSt.out.step s (.inr hk))
                  replace hst := Lib.hid hst
                  replace hw3 := Lib.hid hw3
                  replace hmb := Lib.hid hmb
                  replace hF3 := Lib.hid hF3
                  clear hb3 hSt hF
                  go_wp2_with fail
                  rw [← hw3.out, ← hmb.out]
                  refine hst.out.mono ?_
                  rintro e w7 ⟨⟨ok, rfl, hok1⟩, hB⟩
                  have hb7 := hB.chg2 hD3 hR3 hbw3
                  have hF7 := hB.file hD3 hR3 hF3.out
                  obtain ⟨x', r', hD7, _, _, _, _⟩ := hB
                  have hok7 := hok.step s
                  have hb27 : Below base w6 w7 := hb23.trans hb7
                  replace hD7 := Lib.hid hD7
                  replace hok7 := Lib.hid hok7
                  replace hF7 := Lib.hid hF7
                  clear hst hD hD3 hR3 hF3 hb23 hok hb7 e0 e1 e2 e3 e4
                  dsimp only
                  go_wp2_with fail
                  go_roundw
                  case rel => exact ⟨j + 1, x', _, by omega, by omega, by go_num, hD7.out, hok7.out, hStn, hF7.out, hb27⟩
                  case measure => simp [intOf]; omega
                · have d8 : decide (3 < s.kind) = false := by simp; omega
                  clear e0 e1 e2 e3 e4
                  replace hD := Lib.hid hD
                  replace hok := Lib.hid hok
                  replace hF := Lib.hid hF
                  go_wp2_with fail
                  go_roundw
                  case rel => exact ⟨j + 1, x, M, by omega, by omega, by go_num, hD.out, hok.out.mono (by omega), hSt, hF.out, hbr⟩
                  case measure => simp [intOf]; omega
              · rw [decide_eq_false hne] at hq
                have hne2 : Hid (s.name ≠ nm) := Lib.hid hne
                clear hne he1 he0
                replace e0 := ((hbr).cell (p := ⟨sb, so + j * 5, none⟩) hsb).trans e0
                replace e1 := ((hbr).cell (p := ⟨sb, so + j * 5 + 1, none⟩) hsb).trans e1
                replace e2 := ((hbr).cell (p := ⟨sb, so + j * 5 + 2, none⟩) hsb).trans e2
                replace e3 := ((hbr).cell (p := ⟨sb, so + j * 5 + 3, none⟩) hsb).trans e3
                replace e4 := ((hbr).cell (p := ⟨sb, so + j * 5 + 4, none⟩) hsb).trans e4
                obtain ⟨w3, hw3⟩ : ∃ w3, w3 = wr.alloc (.cells #[.int .i64 0, .bool false, .slice none 0 0, .slice none 0 0, .slice none 0 0] 45) := ⟨_, rfl⟩
                obtain ⟨mb, hmb⟩ : ∃ mb, mb = wr.heap.size := ⟨_, rfl⟩
                have hR3 := Rf.empty 0 hbw
                rw [← hw3, ← hmb] at hR3
                have hb3 : Below wr.heap.size wr w3 := by rw [hw3]; exact belowAlloc _ _
                have hD3 := hD.below hb3
                have hF3 := hF.below hb3 (Nat.le_refl _)
                have hbw3 : base ≤ w3.heap.size := Nat.le_trans hbw hb3.size
                have hb23 := (hbr).trans (hb3.mono hbw)
                have hst := hS.out.call hb23 hD3 hR3 hok ((OkM.empty 0 (by omega) (by omega)).mono (Nat.zero_le _)) (by omega) hbw3
                have hsbl : sb < wr.heap.size := Nat.lt_of_lt_of_le hsb hbw
                have hStn : Hid (Stand (stepM s M) nm vo) := Lib.hid (hSt.out.step s (.inl hne2.out))
                replace hst := Lib.hid hst
                replace hw3 := Lib.hid hw3
                replace hmb := Lib.hid hmb
                replace hF3 := Lib.hid hF3
                clear hb3 hSt hF
                go_wp2_with fail
                rw [← hw3.out, ← hmb.out]
                refine hst.out.mono ?_
                rintro e w7 ⟨⟨ok, rfl, hok1⟩, hB⟩
                have hb7 := hB.chg2 hD3 hR3 hbw3
                have hF7 := hB.file hD3 hR3 hF3.out
                obtain ⟨x', r', hD7, _, _, _, _⟩ := hB
                have hok7 := hok.step s
                have hb27 : Below base w6 w7 := hb23.trans hb7
                replace hD7 := Lib.hid hD7
                replace hok7 := Lib.hid hok7
                replace hF7 := Lib.hid hF7
                clear hst hD hD3 hR3 hF3 hb23 hok hb7 e0 e1 e2 e3 e4
                dsimp only
                go_wp2_with fail
                go_roundw
                case rel => exact ⟨j + 1, x', _, by omega, by omega, by go_num, hD7.out, hok7.out, hStn, hF7.out, hb27⟩
                case measure => simp [intOf]; omega
            · obtain ⟨wj, hwj⟩ : ∃ wj, wj = wr := ⟨_, rfl⟩
              rw [← hwj] at hD hF hbr hbw ⊢
              clear hwj hx16
              have hpk7 : SlA wj.heap.size 1 (RI .i64) wj pa0 pc0 picks := hpk6.imp hbr hbw (fun cs x _ h => h)
              have hcr := crash_any picks pa0 pc0 wj hD hok (by omega) hbw hpk7
              rw [← hnp.out] at hcr
              replace hcr := Lib.hid hcr
              clear hpk6 hpk7
              by_cases h1 : j < n1
              · have d6 : decide ((j : Int) < (n1 : Int)) = true := by simp; omega
                have d7 : decide ((j : Int) < 100) = false := by simp; omega
                clear hlt
                go_wp2_with fail
                refine hcr.out.mono ?_
                rintro e w7 ⟨⟨v7, rfl⟩, x7, hD7, hc7, _, _⟩
                obtain ⟨g1, g2⟩ := hSt.out.crash picks
                have hok7 := hok.crash picks
                have hF7 := hF.chg hc7 (hD.noU8)
                have hb7 : Below base wj w7 := hc7.below hbw (fun k hk e => by have := hD.base_le k e; omega)
                have hb27 := hbr.trans hb7
                have hbw7 := Nat.le_trans hbw hb7.size
                obtain ⟨M7, hM7⟩ : ∃ M7, M7 = crashM M picks := ⟨_, rfl⟩
                rw [← hM7] at hD7 g1 g2 hok7
                have hr1 := read_any nm w7 hnm hD7 hok7
                have hr2 := fun wy (hy : Below w7.heap.size w7 wy) => durable_any nm wy hnm (hD7.below hy) hok7
                rw [show bytesOf M7.now nm = vo.getD [] by unfold bytesOf; rw [g1], g1, ← hvs.out] at hr1
                rw [show bytesOf M7.safe nm = vo.getD [] by unfold bytesOf; rw [g2], g2, ← hvs.out] at hr2
                replace hr1 := Lib.hid hr1
                replace hr2 := Lib.hid hr2
                replace hF7 := Lib.hid hF7
                clear hcr hD hok hF hSt hc7 hD7 hM7 g1 g2 hok7 hb7 hbr
                dsimp only
                go_wp2_with fail
                refine hr1.out.mono ?_
                rintro e w8 ⟨v8, rfl, hO8, hb8⟩
                have hU8 := Rds.own hO8
                have hF8 := Rds.file (hF7.out.below hb8 (Nat.le_refl _))
                have hb28 := hb27.trans (hb8.mono hbw7)
                have hr2' := hr2.out w8 hb8
                replace hr2' := Lib.hid hr2'
                clear hr1 hr2 hF7 hO8 hb27
                dsimp only
                go_wp2_with fail
                refine hr2'.out.mono ?_
                rintro e w9 ⟨v9, rfl, hO9, hb9⟩
                have hU9 := Rds.own hO9
                have hs1 := same_rds (hU8.below hb9) (hF8.below hb9)
                have hs2 := same_rds hU9 (hF8.below hb9)
                rw [decide_eq_true rfl] at hs1 hs2
                have hb29 := hb28.trans (hb9.mono (Nat.le_trans hbw7 hb8.size))
                have hfin : Below w.heap.size w w9 := hb16.trans (hb29.mono hwb)
                have hvv : (vs == vs) = true := by cases vs <;> rfl
                replace hs1 := Lib.hid hs1
                replace hs2 := Lib.hid hs2
                clear hr2' hU8 hU9 hF8 hO9
                dsimp only
                go_wp2_with fail
                refine hs1.out.mono ?_
                rintro e w15 ⟨rfl, hw15⟩
                obtain ⟨w12, hw12⟩ : ∃ w12, w12 = w15 := ⟨_, rfl⟩
                rw [← hw12] at hw15 ⊢
                obtain rfl : w9 = w12 := hw15.symm
                clear hw12 hw15
                dsimp only
                go_wp2_with fail
                refine hs2.out.mono ?_
                rintro e w15 ⟨rfl, hw15⟩
                obtain ⟨w12, hw12⟩ : ∃ w12, w12 = w15 := ⟨_, rfl⟩
                rw [← hw12] at hw15 ⊢
                obtain rfl : w9 = w12 := hw15.symm
                clear hw12 hw15
                dsimp only
                go_wp2_with fail
                go_ret
                exact ⟨rfl, hfin⟩
              · have d6 : decide ((j : Int) < (n1 : Int)) = false := by simp; omega
                clear hlt
                go_wp2_with fail
                refine hcr.out.mono ?_
                rintro e w7 ⟨⟨v7, rfl⟩, x7, hD7, hc7, _, _⟩
                obtain ⟨g1, g2⟩ := hSt.out.crash picks
                have hok7 := hok.crash picks
                have hF7 := hF.chg hc7 (hD.noU8)
                have hb7 : Below base wj w7 := hc7.below hbw (fun k hk e => by have := hD.base_le k e; omega)
                have hb27 := hbr.trans hb7
                have hbw7 := Nat.le_trans hbw hb7.size
                obtain ⟨M7, hM7⟩ : ∃ M7, M7 = crashM M picks := ⟨_, rfl⟩
                rw [← hM7] at hD7 g1 g2 hok7
                have hr1 := read_any nm w7 hnm hD7 hok7
                have hr2 := fun wy (hy : Below w7.heap.size w7 wy) => durable_any nm wy hnm (hD7.below hy) hok7
                rw [show bytesOf M7.now nm = vo.getD [] by unfold bytesOf; rw [g1], g1, ← hvs.out] at hr1
                rw [show bytesOf M7.safe nm = vo.getD [] by unfold bytesOf; rw [g2], g2, ← hvs.out] at hr2
                replace hr1 := Lib.hid hr1
                replace hr2 := Lib.hid hr2
                replace hF7 := Lib.hid hF7
                clear hcr hD hok hF hSt hc7 hD7 hM7 g1 g2 hok7 hb7 hbr
                dsimp only
                go_wp2_with fail
                refine hr1.out.mono ?_
                rintro e w8 ⟨v8, rfl, hO8, hb8⟩
                have hU8 := Rds.own hO8
                have hF8 := Rds.file (hF7.out.below hb8 (Nat.le_refl _))
                have hb28 := hb27.trans (hb8.mono hbw7)
                have hr2' := hr2.out w8 hb8
                replace hr2' := Lib.hid hr2'
                clear hr1 hr2 hF7 hO8 hb27
                dsimp only
                go_wp2_with fail
                refine hr2'.out.mono ?_
                rintro e w9 ⟨v9, rfl, hO9, hb9⟩
                have hU9 := Rds.own hO9
                have hs1 := same_rds (hU8.below hb9) (hF8.below hb9)
                have hs2 := same_rds hU9 (hF8.below hb9)
                rw [decide_eq_true rfl] at hs1 hs2
                have hb29 := hb28.trans (hb9.mono (Nat.le_trans hbw7 hb8.size))
                have hfin : Below w.heap.size w w9 := hb16.trans (hb29.mono hwb)
                have hvv : (vs == vs) = true := by cases vs <;> rfl
                replace hs1 := Lib.hid hs1
                replace hs2 := Lib.hid hs2
                clear hr2' hU8 hU9 hF8 hO9
                dsimp only
                go_wp2_with fail
                refine hs1.out.mono ?_
                rintro e w15 ⟨rfl, hw15⟩
                obtain ⟨w12, hw12⟩ : ∃ w12, w12 = w15 := ⟨_, rfl⟩
                rw [← hw12] at hw15 ⊢
                obtain rfl : w9 = w12 := hw15.symm
                clear hw12 hw15
                dsimp only
                go_wp2_with fail
                refine hs2.out.mono ?_
                rintro e w15 ⟨rfl, hw15⟩
                obtain ⟨w12, hw12⟩ : ∃ w12, w12 = w15 := ⟨_, rfl⟩
                rw [← hw12] at hw15 ⊢
                obtain rfl : w9 = w12 := hw15.symm
                clear hw12 hw15
                dsimp only
                go_wp2_with fail
                go_ret
                exact ⟨rfl, hfin⟩
        · have dz : (((syncM (failM M false) nm).1 : Int) != 0) = true := by simp; omega
          clear hsy hD4 hok4 hc5 hb5 hD5 hok5 hz hx12 hpk2
          dsimp only
          go_wp2_with fail
          go_ret
          exact ⟨rfl, hb15⟩
/-- A script and a name, as they lie. -/
def TwP (B : Nat) (w : World) (cs : List Value) (t : List SM × ByteArray) : Prop := ∃ ao cap, cs = [.slice ao t.1.length cap, .string t.2] ∧ SlA B 5 (StP B) w ao cap t.1 ∧ t.2.size ≤ maxLen
set_option maxRecDepth 100000 in
theorem two_trod {H : Type} {enc : TypeId × Value → H} {w : World} {held : Bool} {fuel : Nat} {cs : List Value} {x : DataW H × List MemPlace} {B : Nat} (h : DataW.trod enc Try.prog w 0 (fun _ => true) held fuel 39 cs = some x) (hp : ∀ p ∈ x.2, p.block < B) (hw : ∀ k ∈ x.1.weights Try.prog 39, k ≤ reachBytes) : ∃ t, TwP B w cs t := by
  obtain ⟨a, ao0, cap0, hc, _, hn⟩ := RMillracelaw04Two.of_trod h hp
  obtain ⟨ys, n, _, rfl, hl, hlen, hf⟩ := DataW.trod_struct Try.underlying39 h
  have hl2 : ys.length = 2 := hlen
  have hi : 0 < ys.length := by omega
  subst hc
  have g1 : DataW.trod enc Try.prog w 0 (fun _ => true) held n 37 [.slice ao0 a.fScript.length cap0] = ys[0]? := hf 0 _ rfl
  rw [List.getElem?_eq_getElem hi] at g1
  have hp1 : ∀ p ∈ ys[0].2, p.block < B := fun p hq => hp p (List.mem_flatMap.2 ⟨ys[0], List.getElem_mem hi, hq⟩)
  obtain ⟨xs, ao, cap, h1, h2⟩ := steps_trod g1 hp1 (part_sized (j := 0) Try.underlying39 rfl (by rw [List.getElem?_map, List.getElem?_eq_getElem hi]; rfl) hw)
  exact ⟨(xs, a.fName), ao, cap, by
    simp only [List.cons.injEq, and_true] at h1
    rw [h1], h2, hn⟩
theorem stands_row {w : World} (cs : Array Value) (t : List SM × ByteArray) (h0 : TwP w.heap.size w (Value.cells (.agg cs)).toList t)
    (a1 : Option Addr) (len1 cap1 : Nat) (x1 : List SM) (h1 : RSl w.heap.size 5 (StP w.heap.size) w (Value.cells (.slice a1 len1 cap1)).toList x1) (_ : cap1 * 80 ≤ reachBytes)
    (a2 : Option Addr) (len2 cap2 : Nat) (x2 : List Int) (h2 : RSl w.heap.size 1 (RI .i64) w (Value.cells (.slice a2 len2 cap2)).toList x2) (_ : cap2 * 8 ≤ reachBytes) :
    Calls Try.prog 4 #[.agg cs, .slice a1 len1 cap1, .slice a2 len2 cap2] w fun e w' => e = .returned (.bool true) ∧ Below w.heap.size w w' := by
  obtain ⟨ao, cap, hcs, s0, hnm⟩ := h0
  obtain rfl : cs = #[.slice ao t.1.length cap, .string t.2] := by
    apply Array.ext'
    simpa [Value.cells] using hcs
  obtain ⟨b1, c1, e1, s1⟩ := h1
  obtain ⟨rfl, rfl, rfl⟩ : a1 = b1 ∧ len1 = x1.length ∧ cap1 = c1 := by simpa [Value.cells] using e1
  obtain ⟨b2, c2, e2, s2⟩ := h2
  obtain ⟨rfl, rfl, rfl⟩ : a2 = b2 ∧ len2 = x2.length ∧ cap2 = c2 := by simpa [Value.cells] using e2
  exact stands_any t.2 hnm ao a1 cap cap1 t.1 x1 a2 cap2 x2 w s0 s1 s2
end Go.Proofs.Ytjhbeahkojippaa
