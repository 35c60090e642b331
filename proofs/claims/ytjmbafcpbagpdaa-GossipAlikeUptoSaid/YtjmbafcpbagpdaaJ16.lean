/- Gossip: the walk of GossipAlike. -/
import Derived.Test.YtjmbafcpbagpdaaJ14
import Derived.Test.YtjmbafcpbagpdaaJ15
namespace Go.Proofs.Ytjmbafcpbagpdaa
open Go.RowKit Go.Shelf Go.Maps
set_option linter.unusedVariables false
set_option linter.unusedSimpArgs false

set_option maxRecDepth 100000 in
set_option maxHeartbeats 8000000 in
theorem galike_walk (ops : List TOp) (cap : Nat) (ao : Option Addr) (k : Int) (bl : List TCount) (ba : Option Addr) (bc : Nat) (mv : List TMillracelaw19Move) (ma : Option Addr) (mc : Nat) (w : World) (hx : SlA w.heap.size 7 (ROp w.heap.size) w ao cap ops) (hz : ∀ o ∈ ops, o.fIn.length ≤ 1048576)
    (hb : SlA w.heap.size 4 (RCount w.heap.size) w ba bc bl) (hbz : bl.length ≤ 1048576) (hmv : SlA w.heap.size 5 (RMillracelaw19Move w.heap.size) w ma mc mv) :
    Calls Try.prog 5 #[.agg #[.slice ao ops.length cap, .int .i64 k, .slice ba bl.length bc], .slice ma mv.length mc] w fun e w' => e = .returned (.bool true) ∧ Below w.heap.size w w' := by
  have hzi : ∀ o ∈ ops, o.fIn.length * 8 ≤ 140737488355328 := fun o ho => by have := hz o ho; omega
  have hN := fun W (hb2 : Below w.heap.size w W) => gnew_all k bl ba bc 16777301 ops ao cap W (imp_ops2 hx hb2) hzi (hb.imp hb2 hb2.size (fun _ _ _ h => h.imp hb2 hb2.size)) (by omega)
  obtain ⟨n, hn⟩ : ∃ n, n = ops.length := ⟨_, rfl⟩
  rw [← hn] at hN ⊢
  obtain ⟨nb, hnb⟩ : ∃ nb, nb = bl.length := ⟨_, rfl⟩
  rw [← hnb] at hN hbz ⊢
  obtain ⟨nm, hm⟩ : ∃ nm, nm = mv.length := ⟨_, rfl⟩
  rw [← hm]
  replace hN := Lib.hid hN
  replace hn := Lib.hid hn
  replace hnb := Lib.hid hnb
  replace hm := Lib.hid hm
  go_enter Try.func5, Try.ntmps5
  go_wp2_with fail
  refine (gknown_any _).mono ?_
  rintro e w1 ⟨rfl, hb1⟩
  have hX1 : Blk w1 w.heap.size #[.slice ao n cap, .int .i64 k, .slice ba nb bc] 27 := (Blk.new w _ _).below hb1 (by simp)
  have hbel1 : Below w.heap.size w w1 := (below_allocJ w (.cells #[.slice ao n cap, .int .i64 k, .slice ba nb bc] 27)).trans (hb1.mono (by simp))
  have hw1 : w.heap.size + 1 ≤ w1.heap.size := hX1.lt
  clear hb1
  have x0 := hX1.cellAt (i := 0) (v := .slice ao n cap) rfl
  have x1 := hX1.cellAt (i := 1) (v := .int .i64 k) rfl
  have x2 := hX1.cellAt (i := 2) (v := .slice ba nb bc) rfl
  dsimp only
  go_wp2_with fail
  refine (hN.out w1 hbel1).mono ?_
  rintro e w2 ⟨hb12, hbadx, hgoodx⟩
  have hX2 := hX1.below hb12 hX1.lt
  have hbel2 := hbel1.trans (hb12.mono hbel1.size)
  have hs2 := hb12.size
  clear hX1 x0 x1 x2
  have x0 := hX2.cellAt (i := 0) (v := .slice ao n cap) rfl
  have x1 := hX2.cellAt (i := 1) (v := .int .i64 k) rfl
  have x2 := hX2.cellAt (i := 2) (v := .slice ba nb bc) rfl
  have hNy := hN.out w2 hbel2
  replace hNy := Lib.hid hNy
  clear hN hb
  by_cases hge : newGE ops k bl = 0
  · obtain ⟨g1, p1, rfl, hpg1, hG2⟩ := hgoodx hge
    dsimp only
    go_wp2_with fail
    refine hNy.out.mono ?_
    rintro e w3 ⟨hb23, _, hgoody⟩
    obtain ⟨g2, p2, rfl, hpg2, hG3⟩ := hgoody hge
    have hbel3 := hbel2.trans (hb23.mono hbel2.size)
    have hX3 := hX2.below hb23 hX2.lt
    have hs3 := hb23.size
    have hA0 := AI.start (ops := ops) hge (by rw [← hnb.out]; exact hbz)
    have hT3 : Two w3 w3 (w.heap.size + 1) w1.heap.size w2.heap.size (fun _ => False) g1 p1 (newGM k.toNat bl) w2.heap.size w3.heap.size (fun _ => False) g2 p2 (newGM k.toNat bl) ops bl.length 16777301 :=
      ⟨hG2.below hb23, hG3, fun k h1 h2 => by rcases h1 with h1 | h1 <;> rcases h2 with h2 | h2 <;> omega, Below.refl _ _, by omega, by omega, by omega⟩
    have hok := hG3.ok
    obtain ⟨kk, rfl⟩ : ∃ kk : Nat, k = (kk : Int) := by
      have h8 := hA0.n8
      exact ⟨k.toNat, by omega⟩
    rw [Int.toNat_natCast] at hT3 hA0
    have h8 := hA0.n8
    obtain ⟨m0, hm0⟩ : ∃ m0, m0 = newGM kk bl := ⟨_, rfl⟩
    rw [← hm0] at hT3 hA0
    have hI0 : AlkI w3 w3 (w.heap.size + 1) w1.heap.size w2.heap.size g1 p1 w2.heap.size w3.heap.size g2 p2 ops kk 0 0 m0 m0 := ⟨⟨_, _, hT3.tight ⟨_, hA0⟩ ⟨_, hA0⟩⟩, ⟨_, hA0⟩, ⟨_, hA0⟩⟩
    have hmost := (okG_of_check hok).most
    have hlen := hmv.len
    rw [← hm.out] at hlen
    replace hm0 := Lib.hid hm0
    replace hok := Lib.hid hok
    clear hgoodx hgoody hbadx hNy hT3 hG2 hG3 hA0 hb12 hb23 hX2 x0 x1 x2 hge
    obtain ⟨z0, hz0⟩ : ∃ z0, z0 = w.heap.size := ⟨_, rfl⟩
    rw [← hz0] at hbel3 hX3 hI0 hx hmv ⊢
    replace hz0 := Lib.hid hz0
    have hkz : ¬ (kk = 0) := by omega
    have hun : IntKind.u64.wrap (kk : Int) = kk := by show (kk : Int) % 18446744073709551616 = kk; omega
    replace hpg1 := Lib.hid hpg1
    replace hpg2 := Lib.hid hpg2
    dsimp only
    go_upto_block 0 with fail
    go_cut [9] from 10 (fun x9 wx => ∃ (i : Nat) (mx my : GM), i ≤ 50 ∧ AlkI w3 wx (z0 + 1) w1.heap.size w2.heap.size g1 p1 w2.heap.size w3.heap.size g2 p2 ops kk i i mx my ∧ mx.c 0 = my.c 0)
    case first =>
      as_aux_lemma =>
        go_wp2_with fail
        go_loopw [9] (fun x9 wr => ∃ (i : Nat) (mx my : GM), i ≤ nm ∧ i ≤ 50 ∧ x9 = .int .i64 i ∧ AlkI w3 wr (z0 + 1) w1.heap.size w2.heap.size g1 p1 w2.heap.size w3.heap.size g2 p2 ops kk i i mx my ∧ mx.c 0 = my.c 0) (fun x9 _ => 50 - (intOf x9).toNat)
        case atStart => exact ⟨0, m0, m0, Nat.zero_le _, by omega, rfl, hI0, rfl⟩
        case round =>
          clear hI0
          obtain ⟨i, mx, my, him, hi5, rfl, hI, hc0⟩ := hrel
          replace hc0 := Lib.hid hc0
          by_cases hlt : i < nm ∧ i < 50
          · have hi1 := hlt.1
            have hi2 := hlt.2
            have d1 : decide ((i : Int) < (nm : Int)) = true := by simp; omega
            have d2 : decide ((i : Int) < 50) = true := by simp; omega
            have hix : i < mv.length := by rw [← hm.out]; exact hi1
            have hbr := hbel3.trans (hI.bel.mono (Nat.le_succ _))
            have hXr := hX3.below hI.bel (Nat.lt_succ_self _)
            have xk := hXr.cellAt (i := 1) (v := .int .i64 (kk : Int)) rfl
            obtain ⟨b2, off2, rfl, hb2l, _⟩ := hmv.addr (by omega)
            obtain ⟨q, hq⟩ : ∃ q, mv[i] = q := ⟨_, rfl⟩
            obtain ⟨f0, f1, f2, f3, f4, _⟩ := RMillracelaw19Move.at (hmv.imp hbr (Nat.le_refl _) (fun _ _ _ h => h.imp hbr (Nat.le_refl _))) hix hq
            obtain ⟨kw, hkw, hwk⟩ := mod_okJ q.fWorker kk (by omega) (by omega)
            clear hlt hq
            go_upto_region 11 with fail
            refine Code.wp_world ?_
            intro w5 hw5
            have hb5 : Below wr.heap.size wr w5 := by rw [hw5]; exact (Below.refl _ _).alloc (Nat.le_refl _) _
            have hB5 : Blk w5 wr.heap.size #[.int .i64 q.fKind, .int .i64 q.fWorker, .int .i64 q.fTo, .int .i64 q.fI, .int .i64 q.fWhich] 36 := by rw [hw5]; exact Blk.new _ _ _
            have hI5 := hI.below hb5
            have hX5 := hX3.below hI5.bel (Nat.lt_succ_self _)
            clear hI hXr xk hw5 f0 f1 f2 f3 f4
            have xk := hX5.cellAt (i := 1) (v := .int .i64 (kk : Int)) rfl
            have q0 := hB5.cellAt (i := 0) (v := .int .i64 q.fKind) rfl
            have q1 := hB5.cellAt (i := 1) (v := .int .i64 q.fWorker) rfl
            have q2 := hB5.cellAt (i := 2) (v := .int .i64 q.fTo) rfl
            have q3 := hB5.cellAt (i := 3) (v := .int .i64 q.fI) rfl
            have q4 := hB5.cellAt (i := 4) (v := .int .i64 q.fWhich) rfl
            go_upto_region 12 with fail
            clear hwk
            by_cases hk1 : q.fKind = 1
            · have dk : decide (q.fKind = 1) = true := by simpa using hk1
              have dk' : (q.fKind == 1) = true := by simpa using hk1
              obtain ⟨kt, hkt, hwt⟩ := mod_okJ q.fTo kk (by omega) (by omega)
              have hDv := hI5.dX (kw : Int) (kt : Int)
              replace hDv := Lib.hid hDv
              clear hk1
              go_wp2_with fail
              refine hDv.out.mono ?_
              rintro e w6 ⟨rfl, hI6⟩
              have hc6 := (AI.dlvM_c0 (ops := ops) mx (kw : Int) (kt : Int)).trans hc0.out
              have hI7 : AlkI w3 w6 (z0 + 1) w1.heap.size w2.heap.size g1 p1 w2.heap.size w3.heap.size g2 p2 ops kk (i + 1) (i + 1) (dlvM ops mx (kw : Int) (kt : Int)) my := ⟨hI6.two, AI.succ' hI6.ax hi2, AI.succ' hI6.ay hi2⟩
              replace hc6 := Lib.hid hc6
              clear hDv hI5 hI6 hX5 hB5 hwt xk q0 q1 q2 q3 q4
              dsimp only
              go_wp2_with fail
              go_roundw
              case rel => exact ⟨i + 1, _, _, by omega, by omega, by go_num, hI7, hc6.out⟩
              case measure => simp [intOf]; omega
            · have dk : decide (q.fKind = 1) = false := by simpa using hk1
              have dk' : (q.fKind == 1) = false := by simpa using hk1
              have hbr5 := hbel3.trans (hI5.bel.mono (Nat.le_succ _))
              have xg := hX5.cellAt (i := 0) (v := .slice ao n cap) rfl
              obtain ⟨X1, X2, hT5⟩ := hI5.two
              have hSt := step_any q.fKind q.fWorker q.fTo q.fI q.fWhich ao cap z0 w5 hT5.gx hpg1.out hzi (by omega) (by have := hX5.lt; omega) (imp_ops hx hbr5) (by have := hn.out; omega) (next_lenJ (by have := hn.out; omega) hz)
              rw [← hn.out] at hSt
              replace hSt := Lib.hid hSt
              clear hk1
              go_wp2_with fail
              refine hSt.out.mono ?_
              rintro e w6 ⟨hb6, v6, l, rfl, hown6, hl⟩
              obtain ⟨⟨la, lc, rfl, hsl⟩, hll, hlt⟩ := step_rows hok.out (by have := hn.out; omega) hown6 hl
              have hT6 := hT5.below hb6
              have hno : ∀ a, la = some a → w5.heap.size ≤ a.block := fun a e => (hown6.lt a.block (by rw [e]; rfl)).1
              have hD1 := alk_doX hT6 hI5.ax hI5.ay hi2 hpg1.out (kw : Int) l la lc hsl hll hlt (fun _ a e hf => by have := hno a e; have := hT5.gx.foot_lt hf; omega)
              obtain ⟨K1, hK1⟩ := hI5.ax
              obtain ⟨K2, hK2⟩ := hI5.ay
              have hde := AI.doE_eq hK1 hK2 hc0.out (kw : Int) l
              have hdm := AI.doM_eq hK1 hK2 hc0.out (kw : Int) l
              obtain ⟨nl, hnl⟩ : ∃ nl, nl = l.length := ⟨_, rfl⟩
              obtain ⟨ud, hud⟩ : ∃ ud, ud = doE ops mx (kw : Int) l := ⟨_, rfl⟩
              rw [← hud] at hde hD1
              rw [← hnl] at hown6 hD1 ⊢
              replace hnl := Lib.hid hnl
              replace hud := Lib.hid hud
              replace hD1 := Lib.hid hD1
              replace hde := Lib.hid hde
              replace hdm := Lib.hid hdm
              clear hSt hsl xk xg q0 q1 q2 q3 q4 hX5 hB5
              dsimp only
              go_wp2_with fail
              refine hD1.out.mono ?_
              rintro e w7 ⟨rfl, hc7, X1', hax7, hT7⟩
              have hown7 := hown6.chg hc7 (fun g e1 hf => by have := (hown6.lt g e1).1; have := hT5.gx.foot_lt hf; omega)
              obtain ⟨⟨la', lc', he', hsl7⟩, _, _⟩ := step_rows hok.out (by have := hn.out; omega) hown7 hl
              rw [← hnl.out] at he'
              cases he'
              have hD2 := alk_doY hT7 hax7 hI5.ay hi2 hpg2.out (kw : Int) l la lc hsl7 hll hlt (fun _ a e hf => by have := hno a e; have := hT5.gy.foot_lt hf; omega)
              rw [← hnl.out, ← hde.out] at hD2
              replace hD2 := Lib.hid hD2
              clear hD1 hown6 hown7 hsl7 hc7 hT6
              dsimp only
              go_wp2_with fail
              refine hD2.out.mono ?_
              rintro e w8 ⟨rfl, hc8, X2', hay8, hT8⟩
              have hI8 : AlkI w3 w8 (z0 + 1) w1.heap.size w2.heap.size g1 p1 w2.heap.size w3.heap.size g2 p2 ops kk (i + 1) (i + 1) (doM ops mx (kw : Int) l) (doM ops my (kw : Int) l) := ⟨⟨X1', X2', hT8⟩, hax7, hay8⟩
              have hvv : (ud != ud) = false := by simp
              clear hD2 hT7 hT8 hc8 hT5 hI5
              dsimp only
              go_wp2_with fail
              go_roundw
              case rel => exact ⟨i + 1, _, _, by omega, by omega, by go_num, hI8, hdm.out⟩
              case measure => simp [intOf]; omega
          · have hcase : i = nm ∨ (i < nm ∧ i = 50) := by omega
            clear hlt
            rcases hcase with rfl | ⟨d1, rfl⟩
            all_goals
              go_wp2_with fail
              go_meet
              case rel => exact ⟨_, mx, my, hi5, hI, hc0.out⟩
    case rest =>
      clear hI0
      obtain ⟨i, mx, my, hi5, hI, hc0⟩ := hcut
      have hI0 : AlkI w3 wc (z0 + 1) w1.heap.size w2.heap.size g1 p1 w2.heap.size w3.heap.size g2 p2 ops kk 50 50 mx my := ⟨hI.two, by obtain ⟨K, h⟩ := hI.ax; exact ⟨K, h.to50⟩, by obtain ⟨K, h⟩ := hI.ay; exact ⟨K, h.to50⟩⟩
      have he0 : EmpT kk 0 0 mx my := EmpT.none
      replace hc0 := Lib.hid hc0
      clear hI hmv hlen
      go_upto_block 2 with fail
      go_cut [13] from 14 (fun x13 wx => ∃ (mx my : GM), AlkI w3 wx (z0 + 1) w1.heap.size w2.heap.size g1 p1 w2.heap.size w3.heap.size g2 p2 ops kk 50 50 mx my ∧ mx.c 0 = my.c 0 ∧ EmpT kk kk 0 mx my)
      case first =>
        as_aux_lemma =>
          go_wp2_with fail
          go_loopw [13] (fun x13 wr => ∃ (f : Nat) (mx my : GM), f ≤ kk ∧ x13 = .int .i64 f ∧ AlkI w3 wr (z0 + 1) w1.heap.size w2.heap.size g1 p1 w2.heap.size w3.heap.size g2 p2 ops kk 50 50 mx my ∧ mx.c 0 = my.c 0 ∧ EmpT kk f 0 mx my) (fun x13 _ => kk - (intOf x13).toNat)
          case atStart => exact ⟨0, mx, my, Nat.zero_le _, rfl, hI0, hc0.out, he0⟩
          case round =>
            clear hI0 hc0 he0
            obtain ⟨f, mx, my, hfk, rfl, hI, hc0, he⟩ := hrel
            replace hc0 := Lib.hid hc0
            have hXr := hX3.below hI.bel (Nat.lt_succ_self _)
            have xk := hXr.cellAt (i := 1) (v := .int .i64 (kk : Int)) rfl
            by_cases hf : f < kk
            · go_wp2_with fail
              go_loopw [14] (fun x14 wr => ∃ (g : Nat) (mx my : GM), g ≤ kk ∧ x14 = .int .i64 g ∧ AlkI w3 wr (z0 + 1) w1.heap.size w2.heap.size g1 p1 w2.heap.size w3.heap.size g2 p2 ops kk 50 50 mx my ∧ mx.c 0 = my.c 0 ∧ EmpT kk f g mx my) (fun x14 _ => kk - (intOf x14).toNat)
              case atStart => exact ⟨0, mx, my, Nat.zero_le _, rfl, hI, hc0.out, he⟩
              case round =>
                clear hI hc0 he hXr xk
                obtain ⟨g, mx, my, hgk, rfl, hI, hc0, he⟩ := hrel
                replace hc0 := Lib.hid hc0
                have hXr := hX3.below hI.bel (Nat.lt_succ_self _)
                have xk := hXr.cellAt (i := 1) (v := .int .i64 (kk : Int)) rfl
                by_cases hg : g < kk
                · clear hXr
                  go_wp2_with fail
                  clear xk
                  go_loopw [115] (fun _ wr => ∃ (mx my : GM), AlkI w3 wr (z0 + 1) w1.heap.size w2.heap.size g1 p1 w2.heap.size w3.heap.size g2 p2 ops kk 50 50 mx my ∧ mx.c 0 = my.c 0 ∧ EmpT kk f g mx my) (fun _ wr => wayN wr g1 (f * 8 + g))
                  case atStart => exact ⟨mx, my, hI, hc0.out, he⟩
                  case round =>
                    clear hI hc0 he
                    obtain ⟨mx, my, hI, hc0, he⟩ := hrel
                    replace hc0 := Lib.hid hc0
                    have hDv := hI.dX (f : Int) (g : Int)
                    have hnx := hI.nx
                    by_cases hw : mx.wy (f * 8 + g) = []
                    · obtain ⟨e7, em⟩ := dlv_end (ops := ops) (by omega) (by omega) hw
                      rw [e7, em] at hDv
                      replace hDv := Lib.hid hDv
                      replace hw := Lib.hid hw
                      clear e7 em
                      go_wp2_with fail
                      refine hDv.out.mono ?_
                      rintro e w5 ⟨rfl, hI5⟩
                      clear hDv hI
                      dsimp only
                      go_wp2_with fail
                      go_loopw [120] (fun _ wr => ∃ (my : GM), AlkI w3 wr (z0 + 1) w1.heap.size w2.heap.size g1 p1 w2.heap.size w3.heap.size g2 p2 ops kk 50 50 mx my ∧ mx.c 0 = my.c 0 ∧ EmpT kk f g mx my) (fun _ wr => wayN wr g2 (f * 8 + g))
                      case atStart => exact ⟨my, hI5, hc0.out, he⟩
                      case round =>
                        clear hI5 hc0 he hnx
                        obtain ⟨my, hI, hc0, he⟩ := hrel
                        replace hc0 := Lib.hid hc0
                        have hDv := hI.dY (f : Int) (g : Int)
                        have hnx := hI.nx
                        by_cases hv : my.wy (f * 8 + g) = []
                        · obtain ⟨e7, em⟩ := dlv_end (ops := ops) (by omega) (by omega) hv
                          rw [e7, em] at hDv
                          replace hDv := Lib.hid hDv
                          have he1 := he.next hw.out hv
                          clear e7 em he hv
                          go_wp2_with fail
                          refine hDv.out.mono ?_
                          rintro e w6 ⟨rfl, hI6⟩
                          clear hDv hI
                          dsimp only
                          go_wp2_with fail
                          go_roundw
                          case rel => exact ⟨g + 1, mx, my, by omega, by go_num, hI6, hc0.out, he1⟩
                          case measure => simp [intOf]; omega
                        · obtain ⟨e0, ew⟩ := dlv_go (ops := ops) (by omega) (by omega) hv
                          rw [e0] at hDv
                          have he1 := he.y (ops := ops) (by omega) (by omega)
                          have hc1 := hc0.out.trans (AI.dlvM_c0 (ops := ops) my (f : Int) (g : Int)).symm
                          have hm1 := hI.way2 (k := f * 8 + g) (by omega)
                          have hlt1 : ((dlvM ops my (f : Int) (g : Int)).wy (f * 8 + g)).length < (my.wy (f * 8 + g)).length := by
                            rw [ew, if_pos rfl, List.length_tail]
                            have := List.length_pos_iff.2 hv
                            omega
                          replace hDv := Lib.hid hDv
                          replace hc1 := Lib.hid hc1
                          replace hm1 := Lib.hid hm1
                          clear e0 ew he hv
                          go_wp2_with fail
                          refine hDv.out.mono ?_
                          rintro e w6 ⟨rfl, hI6⟩
                          have hm2 := hI6.way2 (k := f * 8 + g) (by omega)
                          replace hm2 := Lib.hid hm2
                          clear hDv hI
                          dsimp only
                          go_wp2_with fail
                          go_roundw
                          case rel => exact ⟨_, hI6, hc1.out, he1⟩
                          case measure => rw [hm1.out, hm2.out]; exact hlt1
                    · obtain ⟨e0, ew⟩ := dlv_go (ops := ops) (by omega) (by omega) hw
                      rw [e0] at hDv
                      have he1 := he.x (ops := ops) (by omega) (by omega)
                      have hc1 := (AI.dlvM_c0 (ops := ops) mx (f : Int) (g : Int)).trans hc0.out
                      have hm1 := hI.way1 (k := f * 8 + g) (by omega)
                      have hlt1 : ((dlvM ops mx (f : Int) (g : Int)).wy (f * 8 + g)).length < (mx.wy (f * 8 + g)).length := by
                        rw [ew, if_pos rfl, List.length_tail]
                        have := List.length_pos_iff.2 hw
                        omega
                      replace hDv := Lib.hid hDv
                      replace hc1 := Lib.hid hc1
                      replace hm1 := Lib.hid hm1
                      clear e0 ew he hw
                      go_wp2_with fail
                      refine hDv.out.mono ?_
                      rintro e w6 ⟨rfl, hI6⟩
                      have hm2 := hI6.way1 (k := f * 8 + g) (by omega)
                      replace hm2 := Lib.hid hm2
                      clear hDv hI
                      dsimp only
                      go_wp2_with fail
                      go_roundw
                      case rel => exact ⟨_, _, hI6, hc1.out, he1⟩
                      case measure => rw [hm1.out, hm2.out]; exact hlt1
                · obtain rfl : g = kk := by omega
                  have he1 := he.row
                  clear he hg hXr
                  go_wp2_with fail
                  go_roundw
                  case rel => exact ⟨f + 1, mx, my, by omega, by go_num, hI, hc0.out, he1⟩
                  case measure => simp [intOf]; omega
            · obtain rfl : f = kk := by omega
              clear hXr hf
              go_wp2_with fail
              go_meet
              case rel => exact ⟨mx, my, hI, hc0.out, he⟩
      case rest =>
        clear hI0 hc0 he0
        obtain ⟨mx, my, hI0, hc0, he⟩ := hcut
        have hv := hI0.fin hc0 he
        have hnx := hI0.nx
        have hn16 : n ≤ 16 := by have := hn.out; omega
        replace hv := Lib.hid hv
        clear he hc0
        go_wp2_with fail
        go_loopw [15] (fun x15 wr => ∃ f : Nat, f ≤ kk ∧ x15 = .int .i64 f ∧ AlkI w3 wr (z0 + 1) w1.heap.size w2.heap.size g1 p1 w2.heap.size w3.heap.size g2 p2 ops kk 50 50 mx my) (fun x15 _ => kk - (intOf x15).toNat)
        case atStart => exact ⟨0, Nat.zero_le _, rfl, hI0⟩
        case round =>
          clear hI0
          obtain ⟨f, hfk, rfl, hI⟩ := hrel
          have hXr := hX3.below hI.bel (Nat.lt_succ_self _)
          have xk := hXr.cellAt (i := 1) (v := .int .i64 (kk : Int)) rfl
          by_cases hf : f < kk
          · have hvf := hv.out f hf
            replace hvf := Lib.hid hvf
            go_wp2_with fail
            go_loopw [16] (fun x16 wr => ∃ g : Nat, g ≤ n ∧ x16 = .int .i64 g ∧ AlkI w3 wr (z0 + 1) w1.heap.size w2.heap.size g1 p1 w2.heap.size w3.heap.size g2 p2 ops kk 50 50 mx my) (fun x16 _ => n - (intOf x16).toNat)
            case atStart => exact ⟨0, Nat.zero_le _, rfl, hI⟩
            case round =>
              clear hI hXr xk
              obtain ⟨g, hgn, rfl, hI⟩ := hrel
              have hXr := hX3.below hI.bel (Nat.lt_succ_self _)
              have xg := hXr.cellAt (i := 0) (v := .slice ao n cap) rfl
              by_cases hg : g < n
              · obtain ⟨X1, X2, hT⟩ := hI.two
                have hF1 := gfront_any (f : Int) (g : Int) hT.gx (by omega)
                replace hF1 := Lib.hid hF1
                clear hXr
                go_wp2_with fail
                refine hF1.out.mono ?_
                rintro e w12 ⟨hb12, hgd, _⟩
                obtain ⟨cs1, v1, f1, rfl, hc1, hn1, ho1, hi1⟩ := hgd ⟨by omega, by omega⟩
                have hT12 := hT.below hb12
                have hI12 := hI.below hb12
                have hF2 := gfront_any (f : Int) (g : Int) hT12.gy (by omega)
                replace hF2 := Lib.hid hF2
                clear hF1 hgd xg
                dsimp only
                go_wp2_with fail
                refine hF2.out.mono ?_
                rintro e w13 ⟨hb13, hgd, _⟩
                obtain ⟨cs2, v2, f2, rfl, hc2, hn2, ho2, hi2⟩ := hgd ⟨by omega, by omega⟩
                have hI13 := hI12.below hb13
                rw [Int.toNat_natCast] at hc1 hc2
                have hff : f1 = f2 := fronts_same hn1 hn2 (hc1.trans (hvf.out.trans hc2.symm)) hi1 hi2
                subst hff
                have hsm := sameTimes_eq ho1 hb13 ho2
                replace hsm := Lib.hid hsm
                clear hF2 hgd hi1 hi2 ho1 ho2 hc1 hc2 hT hT12 hI hI12
                dsimp only
                go_wp2_with fail
                refine hsm.out.mono ?_
                rintro e w14 ⟨rfl, hb14⟩
                have hI14 := hI13.below hb14
                clear hI13 hsm
                dsimp only
                go_wp2_with fail
                go_roundw
                case rel => exact ⟨g + 1, by omega, by go_num, hI14⟩
                case measure => simp [intOf]; omega
              · obtain rfl : g = n := by omega
                clear hg hXr
                go_wp2_with fail
                go_roundw
                case rel => exact ⟨f + 1, by omega, by go_num, hI⟩
                case measure => simp [intOf]; omega
          · obtain rfl : f = kk := by omega
            have hbE := hbel3.trans (hI.bel.mono (Nat.le_succ _))
            rw [hz0.out] at hbE
            clear hf hXr
            go_wp2_with fail
            go_ret
            exact ⟨rfl, hbE⟩
  · have he := hbadx hge
    obtain ⟨ge, hge2⟩ : ∃ ge, ge = newGE ops k bl := ⟨_, rfl⟩
    rw [← hge2] at he hge
    replace hge2 := Lib.hid hge2
    subst he
    have f1 : (ge == 0) = false := by simpa using hge
    have f2 : (ge != 0) = true := by simpa using hge
    have f3 : (ge != ge) = false := by simp
    have f4 : (ge == ge) = true := by simp
    dsimp only
    go_wp2_with fail
    refine hNy.out.mono ?_
    rintro e w3 ⟨hb23, hbady, _⟩
    have he := hbady (by rw [← hge2.out]; exact hge)
    rw [← hge2.out] at he
    subst he
    have hbel3 := hbel2.trans (hb23.mono hbel2.size)
    clear hbadx hgoodx hNy hbady hge x0 x1 x2 hb23 hb12
    dsimp only
    go_wp2_with fail
    go_ret
    exact ⟨rfl, hbel3⟩
end Go.Proofs.Ytjmbafcpbagpdaa

/- Gossip: GossipAlike at the arguments as they come. -/
namespace Go.Proofs.Ytjmbafcpbagpdaa
open Go.RowKit Go.Maps
set_option linter.unusedVariables false
set_option linter.unusedSimpArgs false

theorem galike_row {w : World} (cs : Array Value) (x : TCaseG) (hx : RCaseB w.heap.size w (Value.cells (.agg cs)).toList x)
    (a1 : Option Addr) (len1 cap1 : Nat) (l1 : List TMillracelaw19Move) (hl1 : RSl w.heap.size 5 (RMillracelaw19Move w.heap.size) w (Value.cells (.slice a1 len1 cap1)).toList l1) :
    Calls Try.prog 5 #[.agg cs, .slice a1 len1 cap1] w fun e w' => e = .returned (.bool true) ∧ Below w.heap.size w w' := by
  obtain ⟨ao, cap, ba, bc, h1, h2, h3, h4, h5, h6⟩ := hx
  obtain rfl : cs = #[.slice ao x.ops.length cap, .int .i64 x.k, .slice ba x.b.length bc] := by cases cs; simpa [Value.cells] using h1
  obtain ⟨b1, c1, q1, q2⟩ := hl1
  obtain ⟨rfl, rfl, rfl⟩ : a1 = b1 ∧ len1 = l1.length ∧ cap1 = c1 := by simpa [Value.cells] using q1
  exact galike_walk x.ops cap ao x.k x.b ba bc l1 a1 cap1 w h2 h3 h4 h5 q2
end Go.Proofs.Ytjmbafcpbagpdaa
