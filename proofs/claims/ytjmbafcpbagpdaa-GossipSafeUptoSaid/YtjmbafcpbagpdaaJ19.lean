/- Gossip: the walk of GossipSafe. -/
import Derived.Test.YtjmbafcpbagpdaaJ18
import Derived.Test.YtjmbafcpbagpdaaJ15
namespace Go.Proofs.Ytjmbafcpbagpdaa
open Go.RowKit Go.Shelf Go.Maps
set_option linter.unusedVariables false
set_option linter.unusedSimpArgs false

set_option maxRecDepth 100000 in
set_option maxHeartbeats 8000000 in
theorem gsafe_walk (ops : List TOp) (cap : Nat) (ao : Option Addr) (k : Int) (bl : List TCount) (ba : Option Addr) (bc : Nat) (mv : List TMillracelaw19Move) (ma : Option Addr) (mc : Nat) (w : World) (hx : SlA w.heap.size 7 (ROp w.heap.size) w ao cap ops) (hz : ∀ o ∈ ops, o.fIn.length ≤ 1048576)
    (hb : SlA w.heap.size 4 (RCount w.heap.size) w ba bc bl) (hbz : bl.length ≤ 1048576) (hmv : SlA w.heap.size 5 (RMillracelaw19Move w.heap.size) w ma mc mv) :
    Calls Try.prog 3 #[.agg #[.slice ao ops.length cap, .int .i64 k, .slice ba bl.length bc], .slice ma mv.length mc] w fun e w' => e = .returned (.bool true) ∧ Below w.heap.size w w' := by
  obtain ⟨jS, hiS, hS0, hS1, hS2⟩ := info_parts infoS
  have hzi : ∀ o ∈ ops, o.fIn.length * 8 ≤ 140737488355328 := fun o ho => by have := hz o ho; omega
  have hN := fun W (hb2 : Below w.heap.size w W) => gnew_all k bl ba bc 16777301 ops ao cap W (imp_ops2 hx hb2) hzi (hb.imp hb2 hb2.size (fun _ _ _ h => h.imp hb2 hb2.size)) (by omega)
  obtain ⟨n, hn⟩ : ∃ n, n = ops.length := ⟨_, rfl⟩
  rw [← hn] at hN ⊢
  obtain ⟨nb, hnb⟩ : ∃ nb, nb = bl.length := ⟨_, rfl⟩
  rw [← hnb] at hN hbz ⊢
  obtain ⟨nm, hm⟩ : ∃ nm, nm = mv.length := ⟨_, rfl⟩
  rw [← hm]
  replace hN := Lib.hid hN
  replace hn := Lib.hid hn
  replace hnb := Lib.hid hnb
  replace hm := Lib.hid hm
  go_enter Try.func3, Try.ntmps3
  go_wp2_with fail
  refine (gknown_any _).mono ?_
  rintro e w1 ⟨rfl, hb1⟩
  have hX1 : Blk w1 w.heap.size #[.slice ao n cap, .int .i64 k, .slice ba nb bc] 27 := (Blk.new w _ _).below hb1 (by simp)
  have hbel1 : Below w.heap.size w w1 := (below_allocJ w (.cells #[.slice ao n cap, .int .i64 k, .slice ba nb bc] 27)).trans (hb1.mono (by simp))
  have hw1 : w.heap.size + 1 ≤ w1.heap.size := hX1.lt
  clear hb1
  have x0 := hX1.cellAt (i := 0) (v := .slice ao n cap) rfl
  have x1 := hX1.cellAt (i := 1) (v := .int .i64 k) rfl
  have x2 := hX1.cellAt (i := 2) (v := .slice ba nb bc) rfl
  dsimp only
  go_wp2_with fail
  refine (hN.out w1 hbel1).mono ?_
  rintro e w2 ⟨hb12, hbadx, hgoodx⟩
  have hX2 := hX1.below hb12 hX1.lt
  have hbel2 := hbel1.trans (hb12.mono hbel1.size)
  have hs2 := hb12.size
  clear hX1 x0 x1 x2 hN hb
  have x0 := hX2.cellAt (i := 0) (v := .slice ao n cap) rfl
  by_cases hge : newGE ops k bl = 0
  · obtain ⟨g1, p1, rfl, hpg1, hG2⟩ := hgoodx hge
    have hS0' := SI.start (ops := ops) hge (by rw [← hnb.out]; exact hbz)
    have hok := hG2.ok
    obtain ⟨kk, rfl⟩ : ∃ kk : Nat, k = (kk : Int) := by
      have h8 := hS0'.ai.n8
      exact ⟨k.toNat, by omega⟩
    rw [Int.toNat_natCast] at hG2 hS0'
    have h8 := hS0'.ai.n8
    obtain ⟨m0, hm0⟩ : ∃ m0, m0 = newGM kk bl := ⟨_, rfl⟩
    rw [← hm0] at hG2 hS0'
    have hI0 : SaI w2 w2 (w.heap.size + 1) w1.heap.size w2.heap.size g1 p1 ops kk 0 m0 (.slice none 0 0) [] := ⟨⟨_, hG2.tight50 ⟨_, hS0'.ai⟩, fun g hg => by cases hg⟩, ⟨_, hS0'⟩, OffS.nil _ _, Below.refl _ _, by omega, by omega, fun s hs => by cases hs⟩
    have hmost := (okG_of_check hok).most
    have hn16 : n ≤ 16 := by rw [hn.out]; exact hmost
    have d16 : decide ((16 : Int) < (n : Int)) = false := by simp; omega
    have hlen := hmv.len
    rw [← hm.out] at hlen
    replace hm0 := Lib.hid hm0
    replace hok := Lib.hid hok
    clear hgoodx hbadx hG2 hS0' hb12 hge
    obtain ⟨z0, hz0⟩ : ∃ z0, z0 = w.heap.size := ⟨_, rfl⟩
    rw [← hz0] at hbel2 hX2 hI0 hx hmv x0 ⊢
    replace hz0 := Lib.hid hz0
    have hkz : ¬ (kk = 0) := by omega
    have hun : IntKind.u64.wrap (kk : Int) = kk := by show (kk : Int) % 18446744073709551616 = kk; omega
    replace hpg1 := Lib.hid hpg1
    dsimp only
    go_upto_block 0 with fail
    clear x0
    go_cut [7, 8] from 9 (fun x7 x8 wx => ∃ (i : Nat) (m : GM) (D : List TStamp), SaI w2 wx (z0 + 1) w1.heap.size w2.heap.size g1 p1 ops kk i m x7 D)
    case first =>
      as_aux_lemma =>
        go_wp2_with fail
        go_loopw [7, 8] (fun x7 x8 wr => ∃ (i : Nat) (m : GM) (D : List TStamp), i ≤ nm ∧ i ≤ 50 ∧ x8 = .int .i64 i ∧ D.length ≤ 300 ∧ SaI w2 wr (z0 + 1) w1.heap.size w2.heap.size g1 p1 ops kk i m x7 D) (fun _ x8 _ => 50 - (intOf x8).toNat)
        case atStart => exact ⟨0, m0, [], Nat.zero_le _, by omega, rfl, by simp, hI0⟩
        case round =>
          clear hI0
          obtain ⟨i, m, D, him, hi5, rfl, hDl, hI⟩ := hrel
          obtain ⟨av, cv, hvD, _, hcv⟩ := hI.row.slice
          obtain ⟨nD, hnD⟩ : ∃ nD, nD = D.length := ⟨_, rfl⟩
          rw [← hnD] at hvD hDl
          subst hvD
          replace hnD := Lib.hid hnD
          by_cases hlt : i < nm ∧ i < 50
          · have hi1 := hlt.1
            have hi2 := hlt.2
            have d1 : decide ((i : Int) < (nm : Int)) = true := by simp; omega
            have d2 : decide ((i : Int) < 50) = true := by simp; omega
            have hix : i < mv.length := by rw [← hm.out]; exact hi1
            have hbr := hbel2.trans (hI.bel.mono (Nat.le_succ _))
            have hXr := hX2.below hI.bel (Nat.lt_succ_self _)
            have xk := hXr.cellAt (i := 1) (v := .int .i64 (kk : Int)) rfl
            obtain ⟨b2, off2, rfl, hb2l, _⟩ := hmv.addr (by omega)
            obtain ⟨q, hq⟩ : ∃ q, mv[i] = q := ⟨_, rfl⟩
            obtain ⟨f0, f1, f2, f3, f4, _⟩ := RMillracelaw19Move.at (hmv.imp hbr (Nat.le_refl _) (fun _ _ _ h => h.imp hbr (Nat.le_refl _))) hix hq
            obtain ⟨kw, hkw, hwk⟩ := mod_okJ q.fWorker kk (by omega) (by omega)
            clear hlt hq
            go_upto_region 11 with fail
            refine Code.wp_world ?_
            intro w5 hw5
            have hb5 : Below wr.heap.size wr w5 := by rw [hw5]; exact (Below.refl _ _).alloc (Nat.le_refl _) _
            have hB5 : Blk w5 wr.heap.size #[.int .i64 q.fKind, .int .i64 q.fWorker, .int .i64 q.fTo, .int .i64 q.fI, .int .i64 q.fWhich] 36 := by rw [hw5]; exact Blk.new _ _ _
            have hI5 := hI.below hb5
            have hX5 := hX2.below hI5.bel (Nat.lt_succ_self _)
            clear hI hXr xk hw5 f0 f1 f2 f3 f4
            have xk := hX5.cellAt (i := 1) (v := .int .i64 (kk : Int)) rfl
            have q0 := hB5.cellAt (i := 0) (v := .int .i64 q.fKind) rfl
            have q1 := hB5.cellAt (i := 1) (v := .int .i64 q.fWorker) rfl
            have q2 := hB5.cellAt (i := 2) (v := .int .i64 q.fTo) rfl
            have q3 := hB5.cellAt (i := 3) (v := .int .i64 q.fI) rfl
            have q4 := hB5.cellAt (i := 4) (v := .int .i64 q.fWhich) rfl
            go_upto_region 12 with fail
            clear hwk
            by_cases hk1 : q.fKind = 1
            · have dk : decide (q.fKind = 1) = true := by simpa using hk1
              have dk' : (q.fKind == 1) = true := by simpa using hk1
              obtain ⟨kt, hkt, hwt⟩ := mod_okJ q.fTo kk (by omega) (by omega)
              have hDv := hI5.dlv (kw : Int) (kt : Int)
              replace hDv := Lib.hid hDv
              clear hk1
              go_wp2_with fail
              refine hDv.out.mono ?_
              rintro e w6 ⟨rfl, hI6⟩
              have hJ := hI6.succ hi2
              obtain ⟨mJ, hmJ⟩ : ∃ mJ, mJ = dlvM ops m (kw : Int) (kt : Int) := ⟨_, rfl⟩
              rw [← hmJ] at hJ
              replace hmJ := Lib.hid hmJ
              clear hDv hI5 hI6 hX5 hB5 hwt xk q0 q1 q2 q3 q4
              dsimp only
              as_aux_lemma =>
                have hTr := hJ.truth hpg1.out hzi
                replace hTr := Lib.hid hTr
                go_wp2_with fail
                refine hTr.out.mono ?_
                rintro e wT ⟨tb, rfl, hJ1, hTT, hbT⟩
                clear hTr hJ hbT
                dsimp only
                go_wp2_with fail
                go_loopw [13] (fun x13 wr => ∃ j : Nat, j ≤ nD ∧ x13 = .int .i64 j ∧ SaI w2 wr (z0 + 1) w1.heap.size w2.heap.size g1 p1 ops kk (i + 1) mJ (.slice av nD cv) D ∧ TTr wr tb ops (mJ.c 0) (.slice av nD cv)) (fun x13 _ => nD - (intOf x13).toNat)
                case atStart => exact ⟨0, Nat.zero_le _, rfl, hJ1, hTT⟩
                case round =>
                  clear hJ1 hTT
                  obtain ⟨j, hjn, rfl, hJ, hT⟩ := hrel
                  by_cases hj : j < nD
                  · have hjx : j < D.length := by rw [← hnD.out]; exact hj
                    obtain ⟨g, ko, cp, hv, hcp1, hcp2, r0, r1, r2⟩ := hJ.row.at' hjx
                    rw [← hnD.out] at hv hcp1
                    cases hv
                    have hds := hJ.dn D[j] (List.getElem_mem _)
                    have hDn := hT.done D[j]
                    rw [hds] at hDn
                    obtain ⟨s, hs⟩ : ∃ s, D[j] = s := ⟨_, rfl⟩
                    rw [hs] at r0 r1 r2 hDn
                    unfold mkS at hDn
                    replace hDn := Lib.hid hDn
                    clear hds hs
                    go_wp2_with fail
                    refine hDn.out.mono ?_
                    rintro e wU ⟨rfl, hbU⟩
                    have hJ2 := hJ.below hbU
                    have hT2 := hT.below hbU
                    clear hDn hJ hT r0 r1 r2
                    dsimp only
                    go_wp2_with fail
                    go_roundw
                    case rel => exact ⟨j + 1, by omega, by go_num, hJ2, hT2⟩
                    case measure => simp [intOf]; omega
                  · obtain rfl : j = nD := by omega
                    clear hj
                    go_wp2_with fail
                    go_loopw [7, 14] (fun x7 x14 wr => ∃ (f : Nat) (D : List TStamp), f ≤ kk ∧ x14 = .int .i64 f ∧ D.length ≤ 300 + f * n ∧ SaI w2 wr (z0 + 1) w1.heap.size w2.heap.size g1 p1 ops kk (i + 1) mJ x7 D ∧ TTr wr tb ops (mJ.c 0) x7) (fun _ x14 _ => kk - (intOf x14).toNat)
                    case atStart => exact ⟨0, D, Nat.zero_le _, rfl, by have := hnD.out; omega, hJ, hT⟩
                    case round =>
                      clear hJ hT
                      obtain ⟨f, E, hfk, rfl, hEl, hJ, hT⟩ := hrel
                      obtain ⟨aE, cE, hvE, _, hcE⟩ := hJ.row.slice
                      obtain ⟨nE, hnE⟩ : ∃ nE, nE = E.length := ⟨_, rfl⟩
                      rw [← hnE] at hvE hEl
                      subst hvE
                      replace hnE := Lib.hid hnE
                      have hXr := hX2.below hJ.bel (Nat.lt_succ_self _)
                      have xk := hXr.cellAt (i := 1) (v := .int .i64 (kk : Int)) rfl
                      by_cases hf : f < kk
                      · go_wp2_with fail
                        go_loopw [7, 15] (fun x7 x15 wr => ∃ (g : Nat) (E : List TStamp), g ≤ n ∧ x15 = .int .i64 g ∧ E.length ≤ 300 + f * n + g ∧ SaI w2 wr (z0 + 1) w1.heap.size w2.heap.size g1 p1 ops kk (i + 1) mJ x7 E ∧ TTr wr tb ops (mJ.c 0) x7) (fun _ x15 _ => n - (intOf x15).toNat)
                        case atStart => exact ⟨0, E, Nat.zero_le _, rfl, by have := hnE.out; omega, hJ, hT⟩
                        case round =>
                          clear hJ hT hXr xk hEl hnE hcE
                          obtain ⟨g, G, hgn, rfl, hGl, hJ, hT⟩ := hrel
                          obtain ⟨aG, cG, hvG, _, hcG⟩ := hJ.row.slice
                          obtain ⟨nG, hnG⟩ : ∃ nG, nG = G.length := ⟨_, rfl⟩
                          rw [← hnG] at hvG hGl
                          subst hvG
                          replace hnG := Lib.hid hnG
                          have hXr := hX2.below hJ.bel (Nat.lt_succ_self _)
                          have xg := hXr.cellAt (i := 0) (v := .slice ao n cap) rfl
                          by_cases hg : g < n
                          · have hfn : f * n ≤ 8 * 16 := Nat.mul_le_mul (by omega) (by omega)
                            go_upto_region 30 with fail
                            obtain ⟨e3, he3⟩ : ∃ e3 : Int, e3 = (i : Int) % 3 := ⟨_, rfl⟩
                            rw [← he3]
                            replace he3 := Lib.hid he3
                            refine Code.wp_world ?_
                            intro w5 hw5
                            have hb5 : Below wr.heap.size wr w5 := by rw [hw5]; exact (Below.refl _ _).alloc (Nat.le_refl _) _
                            have hB5 : Blk w5 wr.heap.size #[.int .i64 (g : Int), .int .i64 e3, .int .i64 0] 47 := by rw [hw5]; exact Blk.new _ _ _
                            have hJ5 := hJ.below hb5
                            have hT5 := hT.below hb5
                            have hse : (#[.int .i64 (g : Int), .int .i64 e3, .int .i64 0] : Array Value) = (encS ⟨(g : Int), ⟨e3, 0⟩⟩).toArray := rfl
                            replace hse := Lib.hid hse
                            obtain ⟨d, hd, hC⟩ := hJ5.wdone hok.out hf ⟨(g : Int), ⟨e3, 0⟩⟩
                            unfold mkS at hC
                            dsimp only at hC
                            replace hC := Lib.hid hC
                            clear hJ hT hw5 hb5 hXr xg
                            have s0 := hB5.cellAt (i := 0) (v := .int .i64 (g : Int)) rfl
                            have s1 := hB5.cellAt (i := 1) (v := .int .i64 e3) rfl
                            have s2 := hB5.cellAt (i := 2) (v := .int .i64 0) rfl
                            go_wp2_with fail
                            refine hC.out.mono ?_
                            rintro e w8 ⟨rfl, hJ8, hb8⟩
                            have hB8 := hB5.below hb8 hB5.lt
                            have hT8 := hT5.below hb8
                            clear hC hJ5 hT5 hB5 s0 s1 s2 hb8
                            have s0 := hB8.cellAt (i := 0) (v := .int .i64 (g : Int)) rfl
                            have s1 := hB8.cellAt (i := 1) (v := .int .i64 e3) rfl
                            have s2 := hB8.cellAt (i := 2) (v := .int .i64 0) rfl
                            cases d with
                            | false =>
                              dsimp only
                              go_wp2_with fail
                              go_roundw
                              case rel => exact ⟨g + 1, G, by omega, by go_num, by have := hnG.out; omega, hJ8, hT8⟩
                              case measure => simp [intOf]; omega
                            | true =>
                              have hds := hd rfl
                              have hDn := hT8.done ⟨(g : Int), ⟨e3, 0⟩⟩
                              rw [hds] at hDn
                              unfold mkS at hDn
                              dsimp only at hDn
                              replace hDn := Lib.hid hDn
                              replace hds := Lib.hid hds
                              dsimp only
                              go_wp2_with fail
                              refine hDn.out.mono ?_
                              rintro e w9 ⟨rfl, hb9⟩
                              have hJ9 := hJ8.below hb9
                              have hT9 := hT8.below hb9
                              have hB9 := hB8.below hb9 hB8.lt
                              have hs9 := hJ9.bel.size
                              clear hDn hJ8 hT8 hB8 s0 s1 s2 hb9 hd
                              have s0 := hB9.cellAt (i := 0) (v := .int .i64 (g : Int)) rfl
                              have s1 := hB9.cellAt (i := 1) (v := .int .i64 e3) rfl
                              have s2 := hB9.cellAt (i := 2) (v := .int .i64 0) rfl
                              dsimp only
                              go_wp2_with (at_builtin; refine Shut.out ?kapx)
                              unfold Shut
                              rw [hse.out]
                              refine wpList_appS rfl _ _ 34 rfl Try.underlying34 hiS hS0 hS1 hS2 (by decide) ⟨(g : Int), ⟨e3, 0⟩⟩ rfl hJ9.row rfl (by rw [← hnG.out]; unfold maxLen; omega) (by rw [← hnG.out]; omega) hs9 (fun g2 k2 cp2 w10 hr10 hg10 hp10 => ?_)
                              have hp11 : ∀ x, (Value.slice (some ⟨g2, k2, none⟩) (G.length + 1) cp2).ownBlock = some x → (Value.slice aG nG cG).ownBlock = some x ∨ w9.heap.size ≤ x := fun x e => by
                                obtain rfl : g2 = x := by simpa [Value.ownBlock] using e
                                exact hp10
                              have hJ10 := hJ9.app hg10 hp11 hr10 hds.out
                              have hT10 := hT9.app hg10 hp11
                              clear hr10 hg10 hp10 hp11 hJ9 hT9 hB9 s0 s1 s2
                              go_wp2_with fail
                              go_roundw
                              case rel => exact ⟨g + 1, G ++ [⟨(g : Int), ⟨e3, 0⟩⟩], by omega, by go_num, by rw [List.length_append, List.length_singleton]; have := hnG.out; omega, hJ10, hT10⟩
                              case measure => simp [intOf]; omega
                          · obtain rfl : g = n := by omega
                            clear hg hXr
                            go_wp2_with fail
                            go_roundw
                            case rel => exact ⟨f + 1, G, by omega, by go_num, by have := hnG.out; rw [Nat.add_mul]; omega, hJ, hT⟩
                            case measure => simp [intOf]; omega
                      · obtain rfl : f = kk := by omega
                        have hkn : f * n ≤ 8 * 16 := Nat.mul_le_mul (by omega) (by omega)
                        clear hXr hf
                        by_cases hL : 300 < nE
                        · have dL : decide ((300 : Int) < (nE : Int)) = true := by simp; omega
                          obtain ⟨g2, o2, rfl, hnE2, hcE2, hJd⟩ := hJ.drop 200 (by omega)
                          have hdl : (E.drop 200).length ≤ 300 := by rw [List.length_drop, ← hnE2]; omega
                          have hc0 : ¬ (cE = 200) := by omega
                          have hc1 : (200 : Int) ≤ (nE : Int) := by omega
                          have hc2 : 200 ≤ nE := by omega
                          have hc3 : 200 ≤ cE := by omega
                          replace hnE2 := Lib.hid hnE2
                          replace hdl := Lib.hid hdl
                          clear hJ hT
                          go_wp2_with fail
                          go_roundw
                          case rel => exact ⟨i + 1, mJ, E.drop 200, by omega, by omega, by go_num, hdl.out, hJd⟩
                          case measure => simp [intOf]; omega
                        · have dL : decide ((300 : Int) < (nE : Int)) = false := by simp; omega
                          go_wp2_with fail
                          go_roundw
                          case rel => exact ⟨i + 1, mJ, E, by omega, by omega, by go_num, by have := hnE.out; omega, hJ⟩
                          case measure => simp [intOf]; omega
            · have dk : decide (q.fKind = 1) = false := by simpa using hk1
              have dk' : (q.fKind == 1) = false := by simpa using hk1
              have hbr5 := hbel2.trans (hI5.bel.mono (Nat.le_succ _))
              have xg := hX5.cellAt (i := 0) (v := .slice ao n cap) rfl
              obtain ⟨X, hG5, hvX⟩ := hI5.gx
              have hSt := step_any q.fKind q.fWorker q.fTo q.fI q.fWhich ao cap z0 w5 hG5 hpg1.out hzi (by omega) (by have := hX5.lt; omega) (imp_ops hx hbr5) (by have := hn.out; omega) (next_lenJ (by have := hn.out; omega) hz)
              rw [← hn.out] at hSt
              replace hSt := Lib.hid hSt
              clear hk1
              go_wp2_with fail
              refine hSt.out.mono ?_
              rintro e w6 ⟨hb6, v6, l, rfl, hown6, hl⟩
              have hI6 := hI5.below hb6
              obtain ⟨⟨la, lc, rfl, hsl⟩, hll, hlt⟩ := step_rows hok.out (by have := hn.out; omega) hown6 hl
              have hno : ∀ a, la = some a → w5.heap.size ≤ a.block := fun a e => (hown6.lt a.block (by rw [e]; rfl)).1
              rcases hl with rfl | ⟨s, t, rfl, hs, hws, ht, htl⟩
              · have hJ := hI6.succ hi2
                obtain ⟨mJ, hmJ⟩ : ∃ mJ, mJ = m := ⟨_, rfl⟩
                rw [← hmJ] at hJ
                replace hmJ := Lib.hid hmJ
                obtain ⟨nl, hnl⟩ : ∃ nl, nl = ([] : List TCount).length := ⟨_, rfl⟩
                rw [← hnl]
                have hl0 : nl = 0 := hnl
                have dl : decide ((0 : Int) < (nl : Int)) = false := by rw [hl0]; rfl
                have dl2 : decide (0 < nl) = false := by rw [hl0]; rfl
                replace hnl := Lib.hid hnl
                clear hl0
                clear hSt hsl xk xg q0 q1 q2 q3 q4 hX5 hB5 hI5 hI6 hG5 hvX hown6
                dsimp only
                as_aux_lemma =>
                  have hTr := hJ.truth hpg1.out hzi
                  replace hTr := Lib.hid hTr
                  go_wp2_with fail
                  refine hTr.out.mono ?_
                  rintro e wT ⟨tb, rfl, hJ1, hTT, hbT⟩
                  clear hTr hJ hbT
                  dsimp only
                  go_wp2_with fail
                  go_loopw [13] (fun x13 wr => ∃ j : Nat, j ≤ nD ∧ x13 = .int .i64 j ∧ SaI w2 wr (z0 + 1) w1.heap.size w2.heap.size g1 p1 ops kk (i + 1) mJ (.slice av nD cv) D ∧ TTr wr tb ops (mJ.c 0) (.slice av nD cv)) (fun x13 _ => nD - (intOf x13).toNat)
                  case atStart => exact ⟨0, Nat.zero_le _, rfl, hJ1, hTT⟩
                  case round =>
                    clear hJ1 hTT
                    obtain ⟨j, hjn, rfl, hJ, hT⟩ := hrel
                    by_cases hj : j < nD
                    · have hjx : j < D.length := by rw [← hnD.out]; exact hj
                      obtain ⟨g, ko, cp, hv, hcp1, hcp2, r0, r1, r2⟩ := hJ.row.at' hjx
                      rw [← hnD.out] at hv hcp1
                      cases hv
                      have hds := hJ.dn D[j] (List.getElem_mem _)
                      have hDn := hT.done D[j]
                      rw [hds] at hDn
                      obtain ⟨s, hs⟩ : ∃ s, D[j] = s := ⟨_, rfl⟩
                      rw [hs] at r0 r1 r2 hDn
                      unfold mkS at hDn
                      replace hDn := Lib.hid hDn
                      clear hds hs
                      go_wp2_with fail
                      refine hDn.out.mono ?_
                      rintro e wU ⟨rfl, hbU⟩
                      have hJ2 := hJ.below hbU
                      have hT2 := hT.below hbU
                      clear hDn hJ hT r0 r1 r2
                      dsimp only
                      go_wp2_with fail
                      go_roundw
                      case rel => exact ⟨j + 1, by omega, by go_num, hJ2, hT2⟩
                      case measure => simp [intOf]; omega
                    · obtain rfl : j = nD := by omega
                      clear hj
                      go_wp2_with fail
                      go_loopw [7, 14] (fun x7 x14 wr => ∃ (f : Nat) (D : List TStamp), f ≤ kk ∧ x14 = .int .i64 f ∧ D.length ≤ 300 + f * n ∧ SaI w2 wr (z0 + 1) w1.heap.size w2.heap.size g1 p1 ops kk (i + 1) mJ x7 D ∧ TTr wr tb ops (mJ.c 0) x7) (fun _ x14 _ => kk - (intOf x14).toNat)
                      case atStart => exact ⟨0, D, Nat.zero_le _, rfl, by have := hnD.out; omega, hJ, hT⟩
                      case round =>
                        clear hJ hT
                        obtain ⟨f, E, hfk, rfl, hEl, hJ, hT⟩ := hrel
                        obtain ⟨aE, cE, hvE, _, hcE⟩ := hJ.row.slice
                        obtain ⟨nE, hnE⟩ : ∃ nE, nE = E.length := ⟨_, rfl⟩
                        rw [← hnE] at hvE hEl
                        subst hvE
                        replace hnE := Lib.hid hnE
                        have hXr := hX2.below hJ.bel (Nat.lt_succ_self _)
                        have xk := hXr.cellAt (i := 1) (v := .int .i64 (kk : Int)) rfl
                        by_cases hf : f < kk
                        · go_wp2_with fail
                          go_loopw [7, 15] (fun x7 x15 wr => ∃ (g : Nat) (E : List TStamp), g ≤ n ∧ x15 = .int .i64 g ∧ E.length ≤ 300 + f * n + g ∧ SaI w2 wr (z0 + 1) w1.heap.size w2.heap.size g1 p1 ops kk (i + 1) mJ x7 E ∧ TTr wr tb ops (mJ.c 0) x7) (fun _ x15 _ => n - (intOf x15).toNat)
                          case atStart => exact ⟨0, E, Nat.zero_le _, rfl, by have := hnE.out; omega, hJ, hT⟩
                          case round =>
                            clear hJ hT hXr xk hEl hnE hcE
                            obtain ⟨g, G, hgn, rfl, hGl, hJ, hT⟩ := hrel
                            obtain ⟨aG, cG, hvG, _, hcG⟩ := hJ.row.slice
                            obtain ⟨nG, hnG⟩ : ∃ nG, nG = G.length := ⟨_, rfl⟩
                            rw [← hnG] at hvG hGl
                            subst hvG
                            replace hnG := Lib.hid hnG
                            have hXr := hX2.below hJ.bel (Nat.lt_succ_self _)
                            have xg := hXr.cellAt (i := 0) (v := .slice ao n cap) rfl
                            by_cases hg : g < n
                            · have hfn : f * n ≤ 8 * 16 := Nat.mul_le_mul (by omega) (by omega)
                              go_upto_region 30 with fail
                              obtain ⟨e3, he3⟩ : ∃ e3 : Int, e3 = (i : Int) % 3 := ⟨_, rfl⟩
                              rw [← he3]
                              replace he3 := Lib.hid he3
                              refine Code.wp_world ?_
                              intro w5 hw5
                              have hb5 : Below wr.heap.size wr w5 := by rw [hw5]; exact (Below.refl _ _).alloc (Nat.le_refl _) _
                              have hB5 : Blk w5 wr.heap.size #[.int .i64 (g : Int), .int .i64 e3, .int .i64 0] 47 := by rw [hw5]; exact Blk.new _ _ _
                              have hJ5 := hJ.below hb5
                              have hT5 := hT.below hb5
                              have hse : (#[.int .i64 (g : Int), .int .i64 e3, .int .i64 0] : Array Value) = (encS ⟨(g : Int), ⟨e3, 0⟩⟩).toArray := rfl
                              replace hse := Lib.hid hse
                              obtain ⟨d, hd, hC⟩ := hJ5.wdone hok.out hf ⟨(g : Int), ⟨e3, 0⟩⟩
                              unfold mkS at hC
                              dsimp only at hC
                              replace hC := Lib.hid hC
                              clear hJ hT hw5 hb5 hXr xg
                              have s0 := hB5.cellAt (i := 0) (v := .int .i64 (g : Int)) rfl
                              have s1 := hB5.cellAt (i := 1) (v := .int .i64 e3) rfl
                              have s2 := hB5.cellAt (i := 2) (v := .int .i64 0) rfl
                              go_wp2_with fail
                              refine hC.out.mono ?_
                              rintro e w8 ⟨rfl, hJ8, hb8⟩
                              have hB8 := hB5.below hb8 hB5.lt
                              have hT8 := hT5.below hb8
                              clear hC hJ5 hT5 hB5 s0 s1 s2 hb8
                              have s0 := hB8.cellAt (i := 0) (v := .int .i64 (g : Int)) rfl
                              have s1 := hB8.cellAt (i := 1) (v := .int .i64 e3) rfl
                              have s2 := hB8.cellAt (i := 2) (v := .int .i64 0) rfl
                              cases d with
                              | false =>
                                dsimp only
                                go_wp2_with fail
                                go_roundw
                                case rel => exact ⟨g + 1, G, by omega, by go_num, by have := hnG.out; omega, hJ8, hT8⟩
                                case measure => simp [intOf]; omega
                              | true =>
                                have hds := hd rfl
                                have hDn := hT8.done ⟨(g : Int), ⟨e3, 0⟩⟩
                                rw [hds] at hDn
                                unfold mkS at hDn
                                dsimp only at hDn
                                replace hDn := Lib.hid hDn
                                replace hds := Lib.hid hds
                                dsimp only
                                go_wp2_with fail
                                refine hDn.out.mono ?_
                                rintro e w9 ⟨rfl, hb9⟩
                                have hJ9 := hJ8.below hb9
                                have hT9 := hT8.below hb9
                                have hB9 := hB8.below hb9 hB8.lt
                                have hs9 := hJ9.bel.size
                                clear hDn hJ8 hT8 hB8 s0 s1 s2 hb9 hd
                                have s0 := hB9.cellAt (i := 0) (v := .int .i64 (g : Int)) rfl
                                have s1 := hB9.cellAt (i := 1) (v := .int .i64 e3) rfl
                                have s2 := hB9.cellAt (i := 2) (v := .int .i64 0) rfl
                                dsimp only
                                go_wp2_with (at_builtin; refine Shut.out ?kapy)
                                unfold Shut
                                rw [hse.out]
                                refine wpList_appS rfl _ _ 34 rfl Try.underlying34 hiS hS0 hS1 hS2 (by decide) ⟨(g : Int), ⟨e3, 0⟩⟩ rfl hJ9.row rfl (by rw [← hnG.out]; unfold maxLen; omega) (by rw [← hnG.out]; omega) hs9 (fun g2 k2 cp2 w10 hr10 hg10 hp10 => ?_)
                                have hp11 : ∀ x, (Value.slice (some ⟨g2, k2, none⟩) (G.length + 1) cp2).ownBlock = some x → (Value.slice aG nG cG).ownBlock = some x ∨ w9.heap.size ≤ x := fun x e => by
                                  obtain rfl : g2 = x := by simpa [Value.ownBlock] using e
                                  exact hp10
                                have hJ10 := hJ9.app hg10 hp11 hr10 hds.out
                                have hT10 := hT9.app hg10 hp11
                                clear hr10 hg10 hp10 hp11 hJ9 hT9 hB9 s0 s1 s2
                                go_wp2_with fail
                                go_roundw
                                case rel => exact ⟨g + 1, G ++ [⟨(g : Int), ⟨e3, 0⟩⟩], by omega, by go_num, by rw [List.length_append, List.length_singleton]; have := hnG.out; omega, hJ10, hT10⟩
                                case measure => simp [intOf]; omega
                            · obtain rfl : g = n := by omega
                              clear hg hXr
                              go_wp2_with fail
                              go_roundw
                              case rel => exact ⟨f + 1, G, by omega, by go_num, by have := hnG.out; rw [Nat.add_mul]; omega, hJ, hT⟩
                              case measure => simp [intOf]; omega
                        · obtain rfl : f = kk := by omega
                          have hkn : f * n ≤ 8 * 16 := Nat.mul_le_mul (by omega) (by omega)
                          clear hXr hf
                          by_cases hL : 300 < nE
                          · have dL : decide ((300 : Int) < (nE : Int)) = true := by simp; omega
                            obtain ⟨g2, o2, rfl, hnE2, hcE2, hJd⟩ := hJ.drop 200 (by omega)
                            have hdl : (E.drop 200).length ≤ 300 := by rw [List.length_drop, ← hnE2]; omega
                            have hc0 : ¬ (cE = 200) := by omega
                            have hc1 : (200 : Int) ≤ (nE : Int) := by omega
                            have hc2 : 200 ≤ nE := by omega
                            have hc3 : 200 ≤ cE := by omega
                            replace hnE2 := Lib.hid hnE2
                            replace hdl := Lib.hid hdl
                            clear hJ hT
                            go_wp2_with fail
                            go_roundw
                            case rel => exact ⟨i + 1, mJ, E.drop 200, by omega, by omega, by go_num, hdl.out, hJd⟩
                            case measure => simp [intOf]; omega
                          · have dL : decide ((300 : Int) < (nE : Int)) = false := by simp; omega
                            go_wp2_with fail
                            go_roundw
                            case rel => exact ⟨i + 1, mJ, E, by omega, by omega, by go_num, by have := hnE.out; omega, hJ⟩
                            case measure => simp [intOf]; omega
              · have hD1 := hI6.doing (hG5.below hb6) hvX hi2 hpg1.out hok.out (by have := hn.out; omega) hkw hs hws ht htl la lc hsl (fun _ a e hf => by have := hno a e; have := hG5.foot_lt hf; omega)
                have hml := mov_len s t
                obtain ⟨nl, hnl⟩ : ∃ nl, nl = (movC s t).length := ⟨_, rfl⟩
                rw [← hnl] at hD1 hml ⊢
                have hl0 : 0 < nl := by omega
                have dl : decide ((0 : Int) < (nl : Int)) = true := by simp; omega
                have dl2 : decide (0 < nl) = true := by simp; omega
                have hl1 : (0 : Int) < (nl : Int) := by omega
                replace hnl := Lib.hid hnl
                replace hD1 := Lib.hid hD1
                clear hSt hsl xk xg q0 q1 q2 q3 q4 hX5 hB5 hown6 hml
                dsimp only
                go_wp2_with fail
                refine hD1.out.mono ?_
                rintro e w7 ⟨rfl, mJ, hJ⟩
                clear hD1 hI5 hI6 hG5 hvX
                dsimp only
                as_aux_lemma =>
                  have hTr := hJ.truth hpg1.out hzi
                  replace hTr := Lib.hid hTr
                  go_wp2_with fail
                  refine hTr.out.mono ?_
                  rintro e wT ⟨tb, rfl, hJ1, hTT, hbT⟩
                  clear hTr hJ hbT
                  dsimp only
                  go_wp2_with fail
                  go_loopw [13] (fun x13 wr => ∃ j : Nat, j ≤ nD ∧ x13 = .int .i64 j ∧ SaI w2 wr (z0 + 1) w1.heap.size w2.heap.size g1 p1 ops kk (i + 1) mJ (.slice av nD cv) D ∧ TTr wr tb ops (mJ.c 0) (.slice av nD cv)) (fun x13 _ => nD - (intOf x13).toNat)
                  case atStart => exact ⟨0, Nat.zero_le _, rfl, hJ1, hTT⟩
                  case round =>
                    clear hJ1 hTT
                    obtain ⟨j, hjn, rfl, hJ, hT⟩ := hrel
                    by_cases hj : j < nD
                    · have hjx : j < D.length := by rw [← hnD.out]; exact hj
                      obtain ⟨g, ko, cp, hv, hcp1, hcp2, r0, r1, r2⟩ := hJ.row.at' hjx
                      rw [← hnD.out] at hv hcp1
                      cases hv
                      have hds := hJ.dn D[j] (List.getElem_mem _)
                      have hDn := hT.done D[j]
                      rw [hds] at hDn
                      obtain ⟨s, hs⟩ : ∃ s, D[j] = s := ⟨_, rfl⟩
                      rw [hs] at r0 r1 r2 hDn
                      unfold mkS at hDn
                      replace hDn := Lib.hid hDn
                      clear hds hs
                      go_wp2_with fail
                      refine hDn.out.mono ?_
                      rintro e wU ⟨rfl, hbU⟩
                      have hJ2 := hJ.below hbU
                      have hT2 := hT.below hbU
                      clear hDn hJ hT r0 r1 r2
                      dsimp only
                      go_wp2_with fail
                      go_roundw
                      case rel => exact ⟨j + 1, by omega, by go_num, hJ2, hT2⟩
                      case measure => simp [intOf]; omega
                    · obtain rfl : j = nD := by omega
                      clear hj
                      go_wp2_with fail
                      go_loopw [7, 14] (fun x7 x14 wr => ∃ (f : Nat) (D : List TStamp), f ≤ kk ∧ x14 = .int .i64 f ∧ D.length ≤ 300 + f * n ∧ SaI w2 wr (z0 + 1) w1.heap.size w2.heap.size g1 p1 ops kk (i + 1) mJ x7 D ∧ TTr wr tb ops (mJ.c 0) x7) (fun _ x14 _ => kk - (intOf x14).toNat)
                      case atStart => exact ⟨0, D, Nat.zero_le _, rfl, by have := hnD.out; omega, hJ, hT⟩
                      case round =>
                        clear hJ hT
                        obtain ⟨f, E, hfk, rfl, hEl, hJ, hT⟩ := hrel
                        obtain ⟨aE, cE, hvE, _, hcE⟩ := hJ.row.slice
                        obtain ⟨nE, hnE⟩ : ∃ nE, nE = E.length := ⟨_, rfl⟩
                        rw [← hnE] at hvE hEl
                        subst hvE
                        replace hnE := Lib.hid hnE
                        have hXr := hX2.below hJ.bel (Nat.lt_succ_self _)
                        have xk := hXr.cellAt (i := 1) (v := .int .i64 (kk : Int)) rfl
                        by_cases hf : f < kk
                        · go_wp2_with fail
                          go_loopw [7, 15] (fun x7 x15 wr => ∃ (g : Nat) (E : List TStamp), g ≤ n ∧ x15 = .int .i64 g ∧ E.length ≤ 300 + f * n + g ∧ SaI w2 wr (z0 + 1) w1.heap.size w2.heap.size g1 p1 ops kk (i + 1) mJ x7 E ∧ TTr wr tb ops (mJ.c 0) x7) (fun _ x15 _ => n - (intOf x15).toNat)
                          case atStart => exact ⟨0, E, Nat.zero_le _, rfl, by have := hnE.out; omega, hJ, hT⟩
                          case round =>
                            clear hJ hT hXr xk hEl hnE hcE
                            obtain ⟨g, G, hgn, rfl, hGl, hJ, hT⟩ := hrel
                            obtain ⟨aG, cG, hvG, _, hcG⟩ := hJ.row.slice
                            obtain ⟨nG, hnG⟩ : ∃ nG, nG = G.length := ⟨_, rfl⟩
                            rw [← hnG] at hvG hGl
                            subst hvG
                            replace hnG := Lib.hid hnG
                            have hXr := hX2.below hJ.bel (Nat.lt_succ_self _)
                            have xg := hXr.cellAt (i := 0) (v := .slice ao n cap) rfl
                            by_cases hg : g < n
                            · have hfn : f * n ≤ 8 * 16 := Nat.mul_le_mul (by omega) (by omega)
                              go_upto_region 30 with fail
                              obtain ⟨e3, he3⟩ : ∃ e3 : Int, e3 = (i : Int) % 3 := ⟨_, rfl⟩
                              rw [← he3]
                              replace he3 := Lib.hid he3
                              refine Code.wp_world ?_
                              intro w5 hw5
                              have hb5 : Below wr.heap.size wr w5 := by rw [hw5]; exact (Below.refl _ _).alloc (Nat.le_refl _) _
                              have hB5 : Blk w5 wr.heap.size #[.int .i64 (g : Int), .int .i64 e3, .int .i64 0] 47 := by rw [hw5]; exact Blk.new _ _ _
                              have hJ5 := hJ.below hb5
                              have hT5 := hT.below hb5
                              have hse : (#[.int .i64 (g : Int), .int .i64 e3, .int .i64 0] : Array Value) = (encS ⟨(g : Int), ⟨e3, 0⟩⟩).toArray := rfl
                              replace hse := Lib.hid hse
                              obtain ⟨d, hd, hC⟩ := hJ5.wdone hok.out hf ⟨(g : Int), ⟨e3, 0⟩⟩
                              unfold mkS at hC
                              dsimp only at hC
                              replace hC := Lib.hid hC
                              clear hJ hT hw5 hb5 hXr xg
                              have s0 := hB5.cellAt (i := 0) (v := .int .i64 (g : Int)) rfl
                              have s1 := hB5.cellAt (i := 1) (v := .int .i64 e3) rfl
                              have s2 := hB5.cellAt (i := 2) (v := .int .i64 0) rfl
                              go_wp2_with fail
                              refine hC.out.mono ?_
                              rintro e w8 ⟨rfl, hJ8, hb8⟩
                              have hB8 := hB5.below hb8 hB5.lt
                              have hT8 := hT5.below hb8
                              clear hC hJ5 hT5 hB5 s0 s1 s2 hb8
                              have s0 := hB8.cellAt (i := 0) (v := .int .i64 (g : Int)) rfl
                              have s1 := hB8.cellAt (i := 1) (v := .int .i64 e3) rfl
                              have s2 := hB8.cellAt (i := 2) (v := .int .i64 0) rfl
                              cases d with
                              | false =>
                                dsimp only
                                go_wp2_with fail
                                go_roundw
                                case rel => exact ⟨g + 1, G, by omega, by go_num, by have := hnG.out; omega, hJ8, hT8⟩
                                case measure => simp [intOf]; omega
                              | true =>
                                have hds := hd rfl
                                have hDn := hT8.done ⟨(g : Int), ⟨e3, 0⟩⟩
                                rw [hds] at hDn
                                unfold mkS at hDn
                                dsimp only at hDn
                                replace hDn := Lib.hid hDn
                                replace hds := Lib.hid hds
                                dsimp only
                                go_wp2_with fail
                                refine hDn.out.mono ?_
                                rintro e w9 ⟨rfl, hb9⟩
                                have hJ9 := hJ8.below hb9
                                have hT9 := hT8.below hb9
                                have hB9 := hB8.below hb9 hB8.lt
                                have hs9 := hJ9.bel.size
                                clear hDn hJ8 hT8 hB8 s0 s1 s2 hb9 hd
                                have s0 := hB9.cellAt (i := 0) (v := .int .i64 (g : Int)) rfl
                                have s1 := hB9.cellAt (i := 1) (v := .int .i64 e3) rfl
                                have s2 := hB9.cellAt (i := 2) (v := .int .i64 0) rfl
                                dsimp only
                                go_wp2_with (at_builtin; refine Shut.out ?kapz)
                                unfold Shut
                                rw [hse.out]
                                refine wpList_appS rfl _ _ 34 rfl Try.underlying34 hiS hS0 hS1 hS2 (by decide) ⟨(g : Int), ⟨e3, 0⟩⟩ rfl hJ9.row rfl (by rw [← hnG.out]; unfold maxLen; omega) (by rw [← hnG.out]; omega) hs9 (fun g2 k2 cp2 w10 hr10 hg10 hp10 => ?_)
                                have hp11 : ∀ x, (Value.slice (some ⟨g2, k2, none⟩) (G.length + 1) cp2).ownBlock = some x → (Value.slice aG nG cG).ownBlock = some x ∨ w9.heap.size ≤ x := fun x e => by
                                  obtain rfl : g2 = x := by simpa [Value.ownBlock] using e
                                  exact hp10
                                have hJ10 := hJ9.app hg10 hp11 hr10 hds.out
                                have hT10 := hT9.app hg10 hp11
                                clear hr10 hg10 hp10 hp11 hJ9 hT9 hB9 s0 s1 s2
                                go_wp2_with fail
                                go_roundw
                                case rel => exact ⟨g + 1, G ++ [⟨(g : Int), ⟨e3, 0⟩⟩], by omega, by go_num, by rw [List.length_append, List.length_singleton]; have := hnG.out; omega, hJ10, hT10⟩
                                case measure => simp [intOf]; omega
                            · obtain rfl : g = n := by omega
                              clear hg hXr
                              go_wp2_with fail
                              go_roundw
                              case rel => exact ⟨f + 1, G, by omega, by go_num, by have := hnG.out; rw [Nat.add_mul]; omega, hJ, hT⟩
                              case measure => simp [intOf]; omega
                        · obtain rfl : f = kk := by omega
                          have hkn : f * n ≤ 8 * 16 := Nat.mul_le_mul (by omega) (by omega)
                          clear hXr hf
                          by_cases hL : 300 < nE
                          · have dL : decide ((300 : Int) < (nE : Int)) = true := by simp; omega
                            obtain ⟨g2, o2, rfl, hnE2, hcE2, hJd⟩ := hJ.drop 200 (by omega)
                            have hdl : (E.drop 200).length ≤ 300 := by rw [List.length_drop, ← hnE2]; omega
                            have hc0 : ¬ (cE = 200) := by omega
                            have hc1 : (200 : Int) ≤ (nE : Int) := by omega
                            have hc2 : 200 ≤ nE := by omega
                            have hc3 : 200 ≤ cE := by omega
                            replace hnE2 := Lib.hid hnE2
                            replace hdl := Lib.hid hdl
                            clear hJ hT
                            go_wp2_with fail
                            go_roundw
                            case rel => exact ⟨i + 1, mJ, E.drop 200, by omega, by omega, by go_num, hdl.out, hJd⟩
                            case measure => simp [intOf]; omega
                          · have dL : decide ((300 : Int) < (nE : Int)) = false := by simp; omega
                            go_wp2_with fail
                            go_roundw
                            case rel => exact ⟨i + 1, mJ, E, by omega, by omega, by go_num, by have := hnE.out; omega, hJ⟩
                            case measure => simp [intOf]; omega
          · have hcase : i = nm ∨ (i < nm ∧ i = 50) := by omega
            clear hlt
            rcases hcase with rfl | ⟨d1, rfl⟩
            all_goals
              go_wp2_with fail
              go_meet
              case rel => exact ⟨_, m, D, hI⟩
    case rest =>
      clear hI0
      obtain ⟨i, m, D, hI⟩ := hcut
      have he0 : EmpS kk 0 0 m := EmpS.none
      clear hmv hlen
      go_upto_block 8 with fail
      go_cut [17] from 18 (fun x17 wx => ∃ (m : GM), SaI w2 wx (z0 + 1) w1.heap.size w2.heap.size g1 p1 ops kk i m u7 D ∧ EmpS kk kk 0 m)
      case first =>
        as_aux_lemma =>
          go_wp2_with fail
          go_loopw [17] (fun x17 wr => ∃ (f : Nat) (m : GM), f ≤ kk ∧ x17 = .int .i64 f ∧ SaI w2 wr (z0 + 1) w1.heap.size w2.heap.size g1 p1 ops kk i m u7 D ∧ EmpS kk f 0 m) (fun x17 _ => kk - (intOf x17).toNat)
          case atStart => exact ⟨0, m, Nat.zero_le _, rfl, hI, he0⟩
          case round =>
            clear hI he0
            obtain ⟨f, m, hfk, rfl, hI, he⟩ := hrel
            have hXr := hX2.below hI.bel (Nat.lt_succ_self _)
            have xk := hXr.cellAt (i := 1) (v := .int .i64 (kk : Int)) rfl
            by_cases hf : f < kk
            · go_wp2_with fail
              go_loopw [18] (fun x18 wr => ∃ (g : Nat) (m : GM), g ≤ kk ∧ x18 = .int .i64 g ∧ SaI w2 wr (z0 + 1) w1.heap.size w2.heap.size g1 p1 ops kk i m u7 D ∧ EmpS kk f g m) (fun x18 _ => kk - (intOf x18).toNat)
              case atStart => exact ⟨0, m, Nat.zero_le _, rfl, hI, he⟩
              case round =>
                clear hI he hXr xk
                obtain ⟨g, m, hgk, rfl, hI, he⟩ := hrel
                have hXr := hX2.below hI.bel (Nat.lt_succ_self _)
                have xk := hXr.cellAt (i := 1) (v := .int .i64 (kk : Int)) rfl
                by_cases hg : g < kk
                · clear hXr
                  go_wp2_with fail
                  clear xk
                  go_loopw [163] (fun _ wr => ∃ (m : GM), SaI w2 wr (z0 + 1) w1.heap.size w2.heap.size g1 p1 ops kk i m u7 D ∧ EmpS kk f g m) (fun _ wr => wayN wr g1 (f * 8 + g))
                  case atStart => exact ⟨m, hI, he⟩
                  case round =>
                    clear hI he
                    obtain ⟨m, hI, he⟩ := hrel
                    have hW := hI.wait hf hg
                    obtain ⟨hmn, hm8⟩ := hI.mn
                    by_cases hw : m.wy (f * 8 + g) = []
                    · rw [hw] at hW
                      have he1 := he.next hw
                      replace hW := Lib.hid hW
                      clear he hw
                      go_wp2_with fail
                      refine hW.out.mono ?_
                      rintro e w' ⟨rfl, hww⟩
                      rw [hww]
                      clear hww w' hW
                      dsimp only
                      go_wp2_with fail
                      go_roundw
                      case rel => exact ⟨g + 1, m, by omega, by go_num, hI, he1⟩
                      case measure => simp [intOf]; omega
                    · obtain ⟨e0, ew⟩ := dlv_go (ops := ops) (by omega) (by omega) hw
                      have hDv := hI.dlv (f : Int) (g : Int)
                      rw [e0] at hDv
                      have he1 := he.x (ops := ops) (by omega) (by omega)
                      have hm1 := hI.way (k := f * 8 + g) (by omega)
                      have hlp := List.length_pos_iff.2 hw
                      have hlt1 : ((dlvM ops m (f : Int) (g : Int)).wy (f * 8 + g)).length < (m.wy (f * 8 + g)).length := by
                        rw [ew, if_pos rfl, List.length_tail]
                        omega
                      obtain ⟨nw, hnw⟩ : ∃ nw, nw = (m.wy (f * 8 + g)).length := ⟨_, rfl⟩
                      rw [← hnw] at hW hm1 hlt1 hlp
                      have dw : decide ((0 : Int) < (nw : Int)) = true := by simp; omega
                      have dw2 : decide (0 < nw) = true := by simp; omega
                      replace hnw := Lib.hid hnw
                      replace hW := Lib.hid hW
                      replace hDv := Lib.hid hDv
                      replace hm1 := Lib.hid hm1
                      clear e0 ew he hw
                      go_wp2_with fail
                      refine hW.out.mono ?_
                      rintro e w' ⟨rfl, hww⟩
                      rw [hww]
                      clear hww w' hW
                      dsimp only
                      go_wp2_with fail
                      refine hDv.out.mono ?_
                      rintro e w6 ⟨rfl, hI6⟩
                      have hm2 := hI6.way (k := f * 8 + g) (by omega)
                      replace hm2 := Lib.hid hm2
                      clear hDv hI
                      dsimp only
                      go_wp2_with fail
                      go_roundw
                      case rel => exact ⟨_, hI6, he1⟩
                      case measure => rw [hm1.out, hm2.out]; exact hlt1
                · obtain rfl : g = kk := by omega
                  have he1 := he.row
                  clear he hg hXr
                  go_wp2_with fail
                  go_roundw
                  case rel => exact ⟨f + 1, m, by omega, by go_num, hI, he1⟩
                  case measure => simp [intOf]; omega
            · obtain rfl : f = kk := by omega
              clear hXr hf
              go_wp2_with fail
              go_meet
              case rel => exact ⟨m, hI, he⟩
      case rest =>
        clear hI he0
        obtain ⟨m, hI, he⟩ := hcut
        have hv : ∀ b, b < kk → m.c (b + 1) = m.c 0 := fun b hb => hI.fin hb (fun a ha => he a b ha hb (.inl ha))
        replace hv := Lib.hid hv
        clear he
        have hTr := hI.truth hpg1.out hzi
        replace hTr := Lib.hid hTr
        go_wp2_with fail
        refine hTr.out.mono ?_
        rintro e wT ⟨tb, rfl, hI1, hTT, hbT⟩
        clear hTr hI hbT
        dsimp only
        go_wp2_with fail
        go_loopw [20] (fun x20 wr => ∃ f : Nat, f ≤ kk ∧ x20 = .int .i64 f ∧ SaI w2 wr (z0 + 1) w1.heap.size w2.heap.size g1 p1 ops kk i m u7 D ∧ TTr wr tb ops (m.c 0) u7) (fun x20 _ => kk - (intOf x20).toNat)
        case atStart => exact ⟨0, Nat.zero_le _, rfl, hI1, hTT⟩
        case round =>
          clear hI1 hTT
          obtain ⟨f, hfk, rfl, hI, hT⟩ := hrel
          have hXr := hX2.below hI.bel (Nat.lt_succ_self _)
          have xk := hXr.cellAt (i := 1) (v := .int .i64 (kk : Int)) rfl
          by_cases hf : f < kk
          · have hvf := hv.out f hf
            replace hvf := Lib.hid hvf
            go_wp2_with fail
            go_loopw [21] (fun x21 wr => ∃ g : Nat, g ≤ n ∧ x21 = .int .i64 g ∧ SaI w2 wr (z0 + 1) w1.heap.size w2.heap.size g1 p1 ops kk i m u7 D ∧ TTr wr tb ops (m.c 0) u7) (fun x21 _ => n - (intOf x21).toNat)
            case atStart => exact ⟨0, Nat.zero_le _, rfl, hI, hT⟩
            case round =>
              clear hI hT hXr xk
              obtain ⟨g, hgn, rfl, hI, hT⟩ := hrel
              have hXr := hX2.below hI.bel (Nat.lt_succ_self _)
              have xg := hXr.cellAt (i := 0) (v := .slice ao n cap) rfl
              by_cases hg : g < n
              · have hF1 := hI.front hf (g : Int)
                replace hF1 := Lib.hid hF1
                clear hXr
                go_wp2_with fail
                refine hF1.out.mono ?_
                rintro e w12 ⟨hb12, hI12, cs1, v1, f1, rfl, hc1, hn1, ho1, hi1⟩
                have hT12 := hT.below hb12
                have hF2 := hT12.front (g : Int)
                replace hF2 := Lib.hid hF2
                clear hF1 xg hI hT
                dsimp only
                go_wp2_with fail
                refine hF2.out.mono ?_
                rintro e w13 ⟨hb13, cs2, v2, f2, rfl, hc2, hn2, ho2, hi2⟩
                have hI13 := hI12.below hb13
                have hT13 := hT12.below hb13
                have hff : f1 = f2 := fronts_same hn1 hn2 (hc1.trans (hvf.out.trans hc2.symm)) hi1 hi2
                subst hff
                have hsm := sameTimes_eq ho1 hb13 ho2
                replace hsm := Lib.hid hsm
                clear hF2 hi1 hi2 ho1 ho2 hc1 hc2 hI12 hT12
                dsimp only
                go_wp2_with fail
                refine hsm.out.mono ?_
                rintro e w14 ⟨rfl, hb14⟩
                have hI14 := hI13.below hb14
                have hT14 := hT13.below hb14
                clear hI13 hT13 hsm
                dsimp only
                go_wp2_with fail
                go_roundw
                case rel => exact ⟨g + 1, by omega, by go_num, hI14, hT14⟩
                case measure => simp [intOf]; omega
              · obtain rfl : g = n := by omega
                clear hg hXr
                go_wp2_with fail
                go_roundw
                case rel => exact ⟨f + 1, by omega, by go_num, hI, hT⟩
                case measure => simp [intOf]; omega
          · obtain rfl : f = kk := by omega
            have hbE := hbel2.trans (hI.bel.mono (Nat.le_succ _))
            rw [hz0.out] at hbE
            clear hf hXr
            go_wp2_with fail
            go_ret
            exact ⟨rfl, hbE⟩
  · have he := hbadx hge
    obtain ⟨ge, hge2⟩ : ∃ ge, ge = newGE ops k bl := ⟨_, rfl⟩
    rw [← hge2] at he hge
    replace hge2 := Lib.hid hge2
    subst he
    have f1 : (ge == 0) = false := by simpa using hge
    have f2 : (ge != 0) = true := by simpa using hge
    clear hbadx hgoodx hge x0 hb12
    dsimp only
    go_wp2_with fail
    go_ret
    exact ⟨rfl, hbel2⟩
end Go.Proofs.Ytjmbafcpbagpdaa

/- Gossip: GossipSafe at the arguments as they come. -/
namespace Go.Proofs.Ytjmbafcpbagpdaa
open Go.RowKit Go.Maps
set_option linter.unusedVariables false
set_option linter.unusedSimpArgs false

theorem gsafe_row {w : World} (cs : Array Value) (x : TCaseG) (hx : RCaseB w.heap.size w (Value.cells (.agg cs)).toList x)
    (a1 : Option Addr) (len1 cap1 : Nat) (l1 : List TMillracelaw19Move) (hl1 : RSl w.heap.size 5 (RMillracelaw19Move w.heap.size) w (Value.cells (.slice a1 len1 cap1)).toList l1) :
    Calls Try.prog 3 #[.agg cs, .slice a1 len1 cap1] w fun e w' => e = .returned (.bool true) ∧ Below w.heap.size w w' := by
  obtain ⟨ao, cap, ba, bc, h1, h2, h3, h4, h5, h6⟩ := hx
  obtain rfl : cs = #[.slice ao x.ops.length cap, .int .i64 x.k, .slice ba x.b.length bc] := by cases cs; simpa [Value.cells] using h1
  obtain ⟨b1, c1, q1, q2⟩ := hl1
  obtain ⟨rfl, rfl, rfl⟩ : a1 = b1 ∧ len1 = l1.length ∧ cap1 = c1 := by simpa [Value.cells] using q1
  exact gsafe_walk x.ops cap ao x.k x.b ba bc l1 a1 cap1 w h2 h3 h4 h5 q2
end Go.Proofs.Ytjmbafcpbagpdaa
