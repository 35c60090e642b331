/- Gossip: the walk of GossipRuns. -/
import Derived.Test.YtjmbafcpbagpdaaGreatH8
namespace Go.Proofs.YtjmbafcpbagpdaaGreat
open Go.RowKit Go.Shelf Go.Maps
attribute [local go_sem] Oper.semAt_some
set_option linter.unusedVariables false
set_option linter.unusedSimpArgs false


set_option maxRecDepth 100000 in
set_option maxHeartbeats 8000000 in
theorem gruns_walk (ops : List TOp) (cap : Nat) (ao : Option Addr) (k : Int) (bl : List TCount) (ba : Option Addr) (bc : Nat) (st : List TStepG) (sa : Option Addr) (sc : Nat) (ts : List TStamp) (ta : Option Addr) (tc : Nat) (w : World) (hx : SlA w.heap.size 7 (ROp w.heap.size) w ao cap ops) (hz : ∀ o ∈ ops, o.fIn.length ≤ 1048576)
    (hb : SlA w.heap.size 4 (RCount w.heap.size) w ba bc bl) (hbz : bl.length ≤ 1048576) (hst : SlA w.heap.size 4 (RStepG w.heap.size) w sa sc st) (hts : SlA w.heap.size 3 (RStamp w.heap.size) w ta tc ts) :
    Calls Tryz.prog 3 #[.agg #[.slice ao ops.length cap, .int .i64 k, .slice ba bl.length bc], .slice sa st.length sc, .slice ta ts.length tc] w fun e w' => e = .returned (.bool true) ∧ Below w.heap.size w w' := by
  have hzi : ∀ o ∈ ops, o.fIn.length * 8 ≤ 140737488355328 := fun o ho => by have := hz o ho; omega
  have hN := fun W (hb2 : Below w.heap.size w W) => gnew_all k bl ba bc 1048576 ops ao cap W (imp_ops2 hx hb2) hzi (hb.imp hb2 hb2.size (fun _ _ _ h => h.imp hb2 hb2.size)) (by omega)
  have hR := fun W (hb2 : Below w.heap.size w W) => (by
    by_cases hok : (gcheck ops).2 = 0
    · exact rnew_ok k bl ba bc ops ao cap W (imp_ops2 hx hb2) hok (hb.imp hb2 hb2.size (fun _ _ _ h => h.imp hb2 hb2.size)) hbz
    · exact rnew_no k (.slice ba bl.length bc) bl ops ao cap W (imp_ops2 hx hb2) hok : Calls Tryz.prog 6 #[.agg #[.slice ao ops.length cap], .int .i64 k, .slice ba bl.length bc] W (RnewP W ops (.slice ao ops.length cap) k bl))
  have hxW := fun W (hb : Below w.heap.size w W) => imp_ops2 hx hb
  have hstW := fun W (hb : Below w.heap.size w W) => hst.imp hb (Nat.le_refl _) (E' := RStepG w.heap.size) (fun _ _ _ h => RStepG.imp h hb (Nat.le_refl _))
  have htsW := fun W (hb : Below w.heap.size w W) => hts.imp hb (Nat.le_refl _) (E' := RStamp w.heap.size) (fun _ _ _ h => RStamp.imp h hb (Nat.le_refl _))
  have hslen := hst.len
  have htlen := hts.len
  obtain ⟨gv, hgv⟩ : ∃ gv : Value, gv = .slice ao ops.length cap := ⟨_, rfl⟩
  obtain ⟨n, hn⟩ : ∃ n, n = ops.length := ⟨_, rfl⟩
  obtain ⟨nb, hnb⟩ : ∃ nb, nb = bl.length := ⟨_, rfl⟩
  obtain ⟨ns, hns⟩ : ∃ ns, ns = st.length := ⟨_, rfl⟩
  obtain ⟨nt, hnt⟩ : ∃ nt, nt = ts.length := ⟨_, rfl⟩
  rw [← hn] at hN hR ⊢
  rw [← hnb] at hN hR hbz ⊢
  rw [← hns] at hslen ⊢
  rw [← hnt] at htlen ⊢
  replace hN := Lib.hid hN
  replace hR := Lib.hid hR
  replace hxW := Lib.hid hxW
  replace hstW := Lib.hid hstW
  replace htsW := Lib.hid htsW
  replace hn := Lib.hid hn
  replace hnb := Lib.hid hnb
  replace hns := Lib.hid hns
  replace hnt := Lib.hid hnt
  replace hgv := Lib.hid hgv
  clear hst hts
  refine calls_of_marks Tryz.func3 rfl ?_
  simp only [Tryz.ntmps3, List.size_toArray, List.length_cons, List.length_nil, Nat.reduceAdd, Nat.reduceSub, Array.replicate_succ, Array.replicate_zero, List.push_toArray, List.append_toArray, List.nil_append, List.cons_append]
  go_wp2_with fail
  refine (gknown_any _).mono ?_
  rintro e w1 ⟨rfl, hb1⟩
  have hX1 : Blk w1 w.heap.size #[.slice ao n cap, .int .i64 k, .slice ba nb bc] 27 := ((Blk.new w _ _).alloc _).below hb1 (by simp; omega)
  have hZ1 : Blk w1 (w.heap.size + 1) #[.bool false] 4 := (Blk.new_at (w.alloc (.cells #[.slice ao n cap, .int .i64 k, .slice ba nb bc] 27)) #[.bool false] 4 (by simp)).below hb1 (by simp)
  have hbel1 : Below w.heap.size w w1 := (((Below.refl w.heap.size w).alloc (Nat.le_refl _) (.cells #[.slice ao n cap, .int .i64 k, .slice ba nb bc] 27)).alloc (by simp) (.cells #[.bool false] 4)).trans (hb1.mono (by simp; omega))
  have hw1 : w.heap.size + 2 ≤ w1.heap.size := hZ1.lt
  clear hb1
  have x0 := hX1.cellAt (i := 0) (v := .slice ao n cap) rfl
  have x1 := hX1.cellAt (i := 1) (v := .int .i64 k) rfl
  have x2 := hX1.cellAt (i := 2) (v := .slice ba nb bc) rfl
  dsimp only
  go_wp2_with fail
  refine (hN.out w1 hbel1).mono ?_
  rintro e w2 ⟨hb12, hbadx, hgoodx⟩
  have hX2 := hX1.below hb12 hX1.lt
  have hZ2 := hZ1.below hb12 hZ1.lt
  have hbel2 := hbel1.trans (hb12.mono hbel1.size)
  have hs2 := hb12.size
  have hR2 := hR.out w2 hbel2
  replace hR2 := Lib.hid hR2
  clear hX1 hZ1 x0 x1 x2 hN hb hbel1 hR
  have x0 := hX2.cellAt (i := 0) (v := .slice ao n cap) rfl
  have x1 := hX2.cellAt (i := 1) (v := .int .i64 k) rfl
  have x2 := hX2.cellAt (i := 2) (v := .slice ba nb bc) rfl
  by_cases hge : newGE ops k bl = 0
  rotate_left
  · have he := hbadx hge
    subst he
    clear hbadx hgoodx
    obtain ⟨ge, hge2⟩ : ∃ ge, ge = newGE ops k bl := ⟨_, rfl⟩
    rw [← hge2] at hge ⊢
    replace hge2 := Lib.hid hge2
    dsimp only
    go_wp2_with fail
    refine hR2.out.mono ?_
    rintro e w3 ⟨hb23, hbad3, -⟩
    have he := hbad3 (by rw [← hge2.out]; exact hge)
    subst he
    rw [← hge2.out]
    have hX3 := hX2.below hb23 hX2.lt
    have hZ3 := hZ2.below hb23 hZ2.lt
    have hbel3 := hbel2.trans (hb23.mono hbel2.size)
    have d0 : (ge != ge) = false := by simp
    have d1 : (ge != 0) = true := by simpa using hge
    clear hbad3 hX2 hZ2 hbel2 hR2 x0 x1 x2 hge hb23 hX3 hb12
    dsimp only
    go_upto_region 5 with fail
    refine Code.wp_world ?_
    intro w4 hw4
    have hb34 : Below w3.heap.size w3 w4 := by rw [hw4]; exact below_allocJ _ _
    have hM4 : Blk w4 w3.heap.size #[.pointer none] 35 := by rw [hw4]; exact Blk.new _ _ _
    have hZ4 := hZ3.below hb34 hZ3.lt
    have hbel4 := hbel3.trans (hb34.mono hbel3.size)
    clear hw4 hb34 hZ3 hbel3
    have z0 := hZ4.cellAt (i := 0) (v := .bool false) rfl
    have fz := hZ4.frozen 0
    have m0 := hM4.cellAt (i := 0) (v := .pointer none) rfl
    go_upto_region 8 with fail
    have hch5 := (Blk.set hZ4 0 (.bool true)).cellAt (i := 0) (v := .bool true) rfl
    have hbel5 : Below w.heap.size w (w4.setCell ⟨w.heap.size + 1, 0, none⟩ (.bool true)) := Below.setCell hbel4 (p := ⟨w.heap.size + 1, 0, none⟩) (by show w.heap.size ≤ w.heap.size + 1; omega) _
    go_wp2_with fail
    refine leavesM_marks [] _ trivial hbel5.size (fun w' hs => ?_)
    have hr6 := hs.cell hch5
    exact ⟨.bool true, by simp [results, Tryz.results3, go_sem, hr6], rfl, hbel5.trans hs.below⟩
  · obtain ⟨g1, p1, rfl, hpg1, hG2⟩ := hgoodx hge
    have hok : (gcheck ops).2 = 0 := hG2.ok
    have hk8 : k.toNat ≤ 8 := hG2.n8
    have hk1 : 1 ≤ k.toNat := hG2.n1
    have hAk := AlikeG.start hge (by rw [← hnb.out]; exact hbz)
    have hP0 := pos_new hge (by rw [← hnb.out]; exact hbz) k.toNat
    dsimp only
    go_wp2_with fail
    refine hR2.out.mono ?_
    rintro e w3 ⟨hb23, -, hgood3⟩
    obtain ⟨q, Z, rfl, ⟨hq1, hq2, hq3⟩, hZZ, hRG⟩ := hgood3 hge
    have hs23 := hb23.size
    dsimp only
    clear x0 x1 x2 hbadx hgoodx hgood3 hR2
    go_upto_region 5 with fail
    refine Code.wp_world ?_
    intro w4 hw4
    have hb34 : Below w3.heap.size w3 w4 := by rw [hw4]; exact below_allocJ _ _
    have hM4 : Blk w4 w3.heap.size #[.pointer (some ⟨q.rb, 0, none⟩)] 35 := by rw [hw4]; exact Blk.new _ _ _
    have hlts := hRG.lts
    have hI4 : GR w w4 (w.heap.size + 1) w3.heap.size (.slice ao n cap) (.int .i64 k) (.slice ba nb bc) w1.heap.size w2.heap.size (fun _ => False) g1 p1 ops (newGM k.toNat bl) 1048576 Z q k.toNat (fun _ => (updL ops [] bl).2) (fun _ => []) := by
      have hXe : ∀ b, Foot w1.heap.size w2.heap.size (fun _ => False) b → w1.heap.size ≤ b ∧ b < w2.heap.size := fun b h => h.elim id (fun h => h.elim)
      refine ⟨((hG2.mono (by rw [← hnb.out]; exact hbz)).below hb23).below hb34, hRG.below hb34, (hX2.below hb23 hX2.lt).below hb34 (hX2.below hb23 hX2.lt).lt, (hZ2.below hb23 hZ2.lt).below hb34 (hZ2.below hb23 hZ2.lt).lt, hM4, hbel2.trans ((hb23.mono hbel2.size).trans (hb34.mono (by have := hbel2.size; omega))), fun b hb hf => ?_, fun b hb => ⟨fun hf => ?_, ?_, ?_⟩, by omega, by omega, by omega⟩
      · have := hXe b hf
        rcases hb with z | rfl | rfl | rfl
        · have := hZZ b z; omega
        · omega
        · omega
        · omega
      · have := hXe b hf
        omega
      · omega
      · omega
    obtain ⟨kk, hkk⟩ : ∃ kk, kk = k.toNat := ⟨_, rfl⟩
    rw [← hkk] at hI4 hAk hk8 hk1 hP0
    obtain ⟨rz, hrz⟩ : ∃ rz, rz = w.heap.size + 1 := ⟨_, rfl⟩
    obtain ⟨mb, hmb⟩ : ∃ mb, mb = w3.heap.size := ⟨_, rfl⟩
    rw [← hrz, ← hmb] at hI4 ⊢
    replace hrz := Lib.hid hrz
    replace hmb := Lib.hid hmb
    replace hkk := Lib.hid hkk
    replace hok := Lib.hid hok
    replace hpg1 := Lib.hid hpg1
    obtain ⟨m0, hm0⟩ : ∃ m0, m0 = newGM kk bl := ⟨_, rfl⟩
    rw [← hm0] at hI4 hAk hP0
    replace hP0 := Lib.hid hP0
    obtain ⟨V0, hV0⟩ : ∃ V0 : Nat → List TCount, V0 = fun _ => (updL ops [] bl).2 := ⟨_, rfl⟩
    rw [← hV0] at hI4 hAk
    obtain ⟨Y0, hY0⟩ : ∃ Y0 : Nat → List (List TCount), Y0 = fun _ => [] := ⟨_, rfl⟩
    rw [← hY0] at hI4 hAk
    clear hw4 hb34 hM4 hRG hG2 hX2 hZ2 hbel2 hb23 hb12 hs2 hs23 hlts hZZ hq1 hq2 hq3 hm0 hV0 hY0 hge hw1
    have m0c := hI4.mbb.cellAt (i := 0) (v := .pointer (some ⟨q.rb, 0, none⟩)) rfl
    go_upto_block 0 with fail
    clear m0c
    go_cut [11] from 12 to 296 (fun x11 wx => ∃ (X : Nat → Prop) (m : GM) (N : Nat) (Z : Nat → Prop) (V : Nat → List TCount) (Y : Nat → List (List TCount)), N ≤ 67108864 ∧ GR w wx rz mb (.slice ao n cap) (.int .i64 k) (.slice ba nb bc) w1.heap.size w2.heap.size X g1 p1 ops m N Z q kk V Y ∧ AlikeG m kk V Y N ∧ Hid (∀ s, 0 ≤ m.c 0 s))
    case first =>
      as_aux_lemma =>
        --<L1
        go_wp2_with fail
        go_loopw [11] (fun x11 wr => ∃ (i : Nat) (X : Nat → Prop) (m : GM) (Z : Nat → Prop) (V : Nat → List TCount) (Y : Nat → List (List TCount)), i ≤ ns ∧ i ≤ 60 ∧ x11 = .int .i64 i ∧ GR w wr rz mb (.slice ao n cap) (.int .i64 k) (.slice ba nb bc) w1.heap.size w2.heap.size X g1 p1 ops m ((i + 1) * 1048576) Z q kk V Y ∧ AlikeG m kk V Y ((i + 1) * 1048576) ∧ Hid (∀ s, 0 ≤ m.c 0 s)) (fun x11 _ => 60 - (intOf x11).toNat)
        case atStart => exact ⟨0, _, m0, _, V0, Y0, Nat.zero_le _, by omega, rfl, by rw [Nat.zero_add, Nat.one_mul]; exact hI4, by rw [Nat.zero_add, Nat.one_mul]; exact hAk, hP0⟩
        case round =>
          clear hI4 hAk hP0
          obtain ⟨i, X, m, Z, V, Y, hin, hi60, rfl, hI, hAk, hP⟩ := hrel
          obtain ⟨N, hN⟩ : ∃ N, N = (i + 1) * 1048576 := ⟨_, rfl⟩
          have hN2 : (i + 1 + 1) * 1048576 = N + 1048576 := by omega
          rw [← hN] at hI hAk
          have hNb : N ≤ 67108864 := by omega
          replace hN := Lib.hid hN
          replace hN2 := Lib.hid hN2
          by_cases hlt : i < ns ∧ i < 60
          rotate_left
          · have hcase : ns ≤ i ∨ (i < ns ∧ 60 ≤ i) := by omega
            clear hlt
            rcases hcase with hc | ⟨hc1, hc2⟩
            · have d1 : decide ((i : Int) < (ns : Int)) = false := by simp; omega
              have d1' : decide (i < ns) = false := by simp; omega
              go_wp2_with fail
              go_meet
              case rel => exact ⟨X, m, N, Z, V, Y, hNb, hI, hAk, hP⟩
            · have d1 : decide ((i : Int) < (ns : Int)) = true := by simp; omega
              have d1' : decide (i < ns) = true := by simpa using hc1
              have d2 : decide ((i : Int) < 60) = false := by simp; omega
              have d2' : decide (i < 60) = false := by simp; omega
              go_wp2_with fail
              go_meet
              case rel => exact ⟨X, m, N, Z, V, Y, hNb, hI, hAk, hP⟩
          obtain ⟨hi1, hi2⟩ := hlt
          have d1 : decide ((i : Int) < (ns : Int)) = true := by simp; omega
          have d1' : decide (i < ns) = true := by simpa using hi1
          have d2 : decide ((i : Int) < 60) = true := by simp; omega
          have d2' : decide (i < 60) = true := by simpa using hi2
          have hil : i < st.length := by rw [← hns.out]; exact hi1
          have hsr := hstW.out w (Below.refl _ _)
          obtain ⟨b2, off2, rfl, hb2l, _⟩ := hsr.addr (by omega)
          obtain ⟨x, hx⟩ : ∃ x, st[i] = x := ⟨_, rfl⟩
          obtain ⟨la, lc, e0, e1, e2, e3, hls, hlz⟩ := RStepG.at hsr hil hx
          have hlW := fun W (hb : Below w.heap.size w W) => hls.imp hb (Nat.le_refl _) (E' := RCount w.heap.size) (fun _ _ _ h => rcount_free h)
          have hbr := hI.bel
          replace e0 := (hbr.cell (p := ⟨b2, off2 + i * 4, none⟩) hb2l).trans e0
          replace e1 := (hbr.cell (p := ⟨b2, off2 + i * 4 + 1, none⟩) hb2l).trans e1
          replace e2 := (hbr.cell (p := ⟨b2, off2 + i * 4 + 2, none⟩) hb2l).trans e2
          replace e3 := (hbr.cell (p := ⟨b2, off2 + i * 4 + 3, none⟩) hb2l).trans e3
          obtain ⟨nl, hnl⟩ : ∃ nl, nl = x.l.length := ⟨_, rfl⟩
          rw [← hnl] at e3
          have hD1 := fun W (h : GR w W rz mb (.slice ao n cap) (.int .i64 k) (.slice ba nb bc) w1.heap.size w2.heap.size X g1 p1 ops m N Z q kk V Y) => (by rw [hn.out] at h ⊢; exact h.do1 hpg1.out x.fr x.l la lc (hlW W h.bel) hlz hNb : Calls Tryz.prog 7 #[.pointer (some ⟨g1, 0, none⟩), .int .i64 x.fr, .slice la x.l.length lc] W fun e W1 => e = .returned (.int .i64 (doE ops m x.fr x.l)) ∧ Chg (Foot w1.heap.size w2.heap.size X) W W1 ∧ ∃ X', GR w W1 rz mb (.slice ao n cap) (.int .i64 k) (.slice ba nb bc) w1.heap.size w2.heap.size X' g1 p1 ops (doM ops m x.fr x.l) (N + 1048576) Z q kk V Y)
          have hD2 := fun W X' (h : GR w W rz mb (.slice ao n cap) (.int .i64 k) (.slice ba nb bc) w1.heap.size w2.heap.size X' g1 p1 ops (doM ops m x.fr x.l) (N + 1048576) Z q kk V Y) => (by rw [hn.out] at h ⊢; exact h.do2 hAk (hxW.out W h.bel) hok.out x.fr x.l la lc (hlW W h.bel) hlz hNb : Calls Tryz.prog 8 #[.pointer (some ⟨q.rb, 0, none⟩), .int .i64 x.fr, .slice la x.l.length lc] W fun e W1 => e = .returned (.int .i64 (doE ops m x.fr x.l)) ∧ Chg (fun i => i = q.vb ∨ i = q.yb) W W1 ∧ ∃ Z' V' Y', GR w W1 rz mb (.slice ao n cap) (.int .i64 k) (.slice ba nb bc) w1.heap.size w2.heap.size X' g1 p1 ops (doM ops m x.fr x.l) (N + 1048576) Z' q kk V' Y' ∧ AlikeG (doM ops m x.fr x.l) kk V' Y' (N + 1048576))
          have hL1 := fun W (h : GR w W rz mb (.slice ao n cap) (.int .i64 k) (.slice ba nb bc) w1.heap.size w2.heap.size X g1 p1 ops m N Z q kk V Y) => h.dlv1 x.fr x.tg hNb
          have hhd : ∀ i, i < 64 → ((m.wy i).headD []).length ≤ 1048576 := fun i hi => hI.gx.headlen hi
          have hL2 := fun W X' (h : GR w W rz mb (.slice ao n cap) (.int .i64 k) (.slice ba nb bc) w1.heap.size w2.heap.size X' g1 p1 ops (dlvM ops m x.fr x.tg) (N + 1048576) Z q kk V Y) => (by rw [hn.out] at h ⊢; exact h.dlv2 hAk (hxW.out W h.bel) hok.out x.fr x.tg hNb hhd : Calls Tryz.prog 10 #[.pointer (some ⟨q.rb, 0, none⟩), .int .i64 x.fr, .int .i64 x.tg] W fun e W1 => e = .returned (.int .i64 (dlvE m x.fr x.tg)) ∧ Chg (fun i => i = q.vb ∨ i = q.yb) W W1 ∧ ∃ Z' V' Y', GR w W1 rz mb (.slice ao n cap) (.int .i64 k) (.slice ba nb bc) w1.heap.size w2.heap.size X' g1 p1 ops (dlvM ops m x.fr x.tg) (N + 1048576) Z' q kk V' Y' ∧ AlikeG (dlvM ops m x.fr x.tg) kk V' Y' (N + 1048576))
          rw [← hnl] at hD1 hD2
          replace hnl := Lib.hid hnl
          replace hD1 := Lib.hid hD1
          replace hD2 := Lib.hid hD2
          replace hL1 := Lib.hid hL1
          replace hL2 := Lib.hid hL2
          clear hsr hx hls hlW hbr hhd
          go_upto_region 13 with fail
          refine Code.wp_world ?_
          intro w5 hw5
          have hb5 : Below wr.heap.size wr w5 := by rw [hw5]; exact below_allocJ _ _
          have hB5 : Blk w5 wr.heap.size #[.int .i64 x.kind, .int .i64 x.fr, .int .i64 x.tg, .slice la nl lc] 39 := by rw [hw5]; exact Blk.new _ _ _
          have hI5 := hI.below hb5
          have hBx := hI.gx.out (b := wr.heap.size) (Nat.le_refl _)
          have hlt5 := hI.rg.lts
          obtain ⟨bx, hbx⟩ : ∃ bx, bx = wr.heap.size := ⟨_, rfl⟩
          rw [← hbx] at hB5 hBx hlt5 ⊢
          clear hbx hw5 hb5 hI e0 e1 e2 e3
          by_cases hk0 : x.kind = 0
          ·
            as_aux_lemma =>
              --<C0
              have dk0 : (x.kind == 0) = true := by simpa using hk0
              have dk1 : (x.kind == 1) = false := by simp [hk0]
              have b0 := hB5.cellAt (i := 0) (v := .int .i64 x.kind) rfl
              have b1 := hB5.cellAt (i := 1) (v := .int .i64 x.fr) rfl
              have b3 := hB5.cellAt (i := 3) (v := .slice la nl lc) rfl
              have m0c := hI5.mbb.cellAt (i := 0) (v := .pointer (some ⟨q.rb, 0, none⟩)) rfl
              obtain ⟨E, hE⟩ : ∃ E, E = doE ops m x.fr x.l := ⟨_, rfl⟩
              have hD1' := fun W h => hD1.out W h
              have hD2' := fun W X' h => hD2.out W X' h
              rw [← hE] at hD1' hD2'
              have dE : (E != E) = false := by simp
              replace hE := Lib.hid hE
              clear hk0 hD1 hD2 hL1 hL2
              replace hD1' := Lib.hid hD1'
              replace hD2' := Lib.hid hD2'
              refine wp_region_tree (fun wx => wx.cell? ⟨bx, 0, none⟩ = some (.int .i64 x.kind) ∧ wx.cell? ⟨bx, 1, none⟩ = some (.int .i64 x.fr) ∧ wx.cell? ⟨bx, 3, none⟩ = some (.slice la nl lc) ∧ wx.cell? ⟨mb, 0, none⟩ = some (.pointer (some ⟨q.rb, 0, none⟩))) 37 38 (by kernel_rfl) rfl (by kernel_rfl) (fun d _ _ _ _ h => by cases d <;> exact h) (⟨b0, b1, b3, m0c⟩) (fun opz T hOps hT hTok hHeld => ?_)
              have hI6 := hI5.below (Below.drew (Below.refl w5.heap.size w5))
              have hB6 := hB5.drew
              generalize w5.drew = w6 at hI6 hB6 hHeld ⊢
              clear hI5 hB5 b0 b1 b3 m0c
              (refine wpTree_q 0 hTok hOps (by kernel_rfl) rfl rfl ⟨?_, ?_, ?_⟩; rotate_left; (focus (intro wx hSx; (try dsimp only at hSx); go_simp; (try with_reducible rfl))); (simp only [Act.put, List.setIfInBounds_toArray, List.set_cons_zero, List.set_cons_succ]))
              (refine wpTree_q 1 hTok hOps (by kernel_rfl) rfl rfl ⟨?_, ?_, ?_⟩; rotate_left; (focus (intro wx hSx; (try dsimp only at hSx); go_simp; (try with_reducible rfl))); (simp only [Act.put, List.setIfInBounds_toArray, List.set_cons_zero, List.set_cons_succ]))
              (refine wpTree_q 2 hTok hOps (by kernel_rfl) rfl rfl ⟨?_, ?_, ?_⟩; rotate_left; (focus (intro wx hSx; (try dsimp only at hSx); go_simp; (try with_reducible rfl))); (simp only [Act.put, List.setIfInBounds_toArray, List.set_cons_zero, List.set_cons_succ]))
              (refine wpTree_q 3 hTok hOps (by kernel_rfl) rfl rfl ⟨?_, ?_, ?_⟩; rotate_left; (focus (intro wx hSx; (try dsimp only at hSx); go_simp; (try with_reducible rfl))); (simp only [Act.put, List.setIfInBounds_toArray, List.set_cons_zero, List.set_cons_succ]))
              (refine wpTree_qg 4 hTok hOps (by kernel_rfl) rfl rfl ⟨?_, ?_, ?_⟩; rotate_left; (focus (intro wx hSx; (try dsimp only at hSx); go_simp; (try with_reducible rfl))); (simp only [Act.put, List.setIfInBounds_toArray, List.set_cons_zero, List.set_cons_succ]))
              (refine wpTree_qg 5 hTok hOps (by kernel_rfl) rfl rfl ⟨?_, ?_, ?_⟩; rotate_left; (focus (intro wx hSx; (try dsimp only at hSx); go_simp; (try with_reducible rfl))); (simp only [Act.put, List.setIfInBounds_toArray, List.set_cons_zero, List.set_cons_succ]))
              (refine wpTree_qg 6 hTok hOps (by kernel_rfl) rfl rfl ⟨?_, ?_, ?_⟩; rotate_left; (focus (intro wx hSx; (try dsimp only at hSx); go_simp; (try with_reducible rfl))); (simp only [Act.put, List.setIfInBounds_toArray, List.set_cons_zero, List.set_cons_succ]))
              (refine wpTree_qg 7 hTok hOps (by kernel_rfl) rfl rfl ⟨?_, ?_, ?_⟩; rotate_left; (focus (intro wx hSx; (try dsimp only at hSx); go_simp; (try with_reducible rfl))); (simp only [Act.put, List.setIfInBounds_toArray, List.set_cons_zero, List.set_cons_succ]))
              (refine wpTree_qg 8 hTok hOps (by kernel_rfl) rfl rfl ⟨?_, ?_, ?_⟩; rotate_left; (focus (intro wx hSx; (try dsimp only at hSx); go_simp; (try with_reducible rfl))); (simp only [Act.put, List.setIfInBounds_toArray, List.set_cons_zero, List.set_cons_succ]))
              (refine wpTree_qg 10 hTok hOps (by kernel_rfl) rfl rfl ⟨?_, ?_, ?_⟩; rotate_left; (focus (intro wx hSx; (try dsimp only at hSx); go_simp; (try with_reducible rfl))); (simp only [Act.put, List.setIfInBounds_toArray, List.set_cons_zero, List.set_cons_succ]))
              (refine wpTree_qg 11 hTok hOps (by kernel_rfl) rfl rfl ⟨?_, ?_, ?_⟩; rotate_left; (focus (intro wx hSx; (try dsimp only at hSx); go_simp; (try with_reducible rfl))); (simp only [Act.put, List.setIfInBounds_toArray, List.set_cons_zero, List.set_cons_succ]))
              (refine wpTree_qg 12 hTok hOps (by kernel_rfl) rfl rfl ⟨?_, ?_, ?_⟩; rotate_left; (focus (intro wx hSx; (try dsimp only at hSx); go_simp; (try with_reducible rfl))); (simp only [Act.put, List.setIfInBounds_toArray, List.set_cons_zero, List.set_cons_succ]))
              (refine wpTree_qg 13 hTok hOps (by kernel_rfl) rfl rfl ⟨?_, ?_, ?_⟩; rotate_left; (focus (intro wx hSx; (try dsimp only at hSx); go_simp; (try with_reducible rfl))); (simp only [Act.put, List.setIfInBounds_toArray, List.set_cons_zero, List.set_cons_succ]))
              (refine wpTree_qg 14 hTok hOps (by kernel_rfl) rfl rfl ⟨?_, ?_, ?_⟩; rotate_left; (focus (intro wx hSx; (try dsimp only at hSx); go_simp; (try with_reducible rfl))); (simp only [Act.put, List.setIfInBounds_toArray, List.set_cons_zero, List.set_cons_succ]))
              refine wpTree_1g 9 hOps (by kernel_rfl) (by decide) rfl rfl (fun K' hK => ?_)
              go_simp
              refine (hD1'.out _ hI6).mono ?_
              rintro e w7 ⟨rfl, hc7, X', hI7⟩
              have hB7 := hB6.chg hc7 hBx
              try dsimp only
              refine hK.out _ _ ⟨hB7.cellAt rfl, hB7.cellAt rfl, hB7.cellAt rfl, hI7.mbb.cellAt rfl⟩ ?_
              clear hK K'
              try simp only [Act.put, List.setIfInBounds_toArray, List.set_cons_zero, List.set_cons_succ]
              refine wpTree_1g 15 hOps (by kernel_rfl) (by decide) rfl rfl (fun K' hK => ?_)
              go_simp
              refine (hD2'.out _ _ hI7).mono ?_
              rintro e w8 ⟨rfl, hc8, Z', V', Y', hI8, hAk8⟩
              have hB8 := hB7.chg hc8 (by omega)
              try dsimp only
              refine hK.out _ _ ⟨hB8.cellAt rfl, hB8.cellAt rfl, hB8.cellAt rfl, hI8.mbb.cellAt rfl⟩ ?_
              clear hK K'
              try simp only [Act.put, List.setIfInBounds_toArray, List.set_cons_zero, List.set_cons_succ]
              (refine wpTree_qg 16 hTok hOps (by kernel_rfl) rfl rfl ⟨?_, ?_, ?_⟩; rotate_left; (focus (intro wx hSx; (try dsimp only at hSx); go_simp; (try with_reducible rfl))); (simp only [Act.put, List.setIfInBounds_toArray, List.set_cons_zero, List.set_cons_succ]))
              (refine wpTree_q 17 hTok hOps (by kernel_rfl) rfl rfl ⟨?_, ?_, ?_⟩; rotate_left; (focus (intro wx hSx; (try dsimp only at hSx); go_simp; (try with_reducible rfl))); (simp only [Act.put, List.setIfInBounds_toArray, List.set_cons_zero, List.set_cons_succ]))
              (refine wpTree_q 18 hTok hOps (by kernel_rfl) rfl rfl ⟨?_, ?_, ?_⟩; rotate_left; (focus (intro wx hSx; (try dsimp only at hSx); go_simp; (try with_reducible rfl))); (simp only [Act.put, List.setIfInBounds_toArray, List.set_cons_zero, List.set_cons_succ]))
              (refine wpTree_qg 19 hTok hOps (by kernel_rfl) rfl rfl ⟨?_, ?_, ?_⟩; rotate_left; (focus (intro wx hSx; (try dsimp only at hSx); go_simp; (try with_reducible rfl))); (simp only [Act.put, List.setIfInBounds_toArray, List.set_cons_zero, List.set_cons_succ]))
              (refine wpTree_qg 20 hTok hOps (by kernel_rfl) rfl rfl ⟨?_, ?_, ?_⟩; rotate_left; (focus (intro wx hSx; (try dsimp only at hSx); go_simp; (try with_reducible rfl))); (simp only [Act.put, List.setIfInBounds_toArray, List.set_cons_zero, List.set_cons_succ]))
              (refine wpTree_qg 21 hTok hOps (by kernel_rfl) rfl rfl ⟨?_, ?_, ?_⟩; rotate_left; (focus (intro wx hSx; (try dsimp only at hSx); go_simp; (try with_reducible rfl))); (simp only [Act.put, List.setIfInBounds_toArray, List.set_cons_zero, List.set_cons_succ]))
              (refine wpTree_qg 22 hTok hOps (by kernel_rfl) rfl rfl ⟨?_, ?_, ?_⟩; rotate_left; (focus (intro wx hSx; (try dsimp only at hSx); go_simp; (try with_reducible rfl))); (simp only [Act.put, List.setIfInBounds_toArray, List.set_cons_zero, List.set_cons_succ]))
              (refine wpTree_qn 23 hTok hOps (by kernel_rfl) rfl rfl ?_; (try simp only [Act.put, List.setIfInBounds_toArray, List.set_cons_zero, List.set_cons_succ]))
              (refine wpTree_qn 24 hTok hOps (by kernel_rfl) rfl rfl ?_; (try simp only [Act.put, List.setIfInBounds_toArray, List.set_cons_zero, List.set_cons_succ]))
              (refine wpTree_qn 25 hTok hOps (by kernel_rfl) rfl rfl ?_; (try simp only [Act.put, List.setIfInBounds_toArray, List.set_cons_zero, List.set_cons_succ]))
              (refine wpTree_qn 26 hTok hOps (by kernel_rfl) rfl rfl ?_; (try simp only [Act.put, List.setIfInBounds_toArray, List.set_cons_zero, List.set_cons_succ]))
              (refine wpTree_qn 27 hTok hOps (by kernel_rfl) rfl rfl ?_; (try simp only [Act.put, List.setIfInBounds_toArray, List.set_cons_zero, List.set_cons_succ]))
              (refine wpTree_qn 28 hTok hOps (by kernel_rfl) rfl rfl ?_; (try simp only [Act.put, List.setIfInBounds_toArray, List.set_cons_zero, List.set_cons_succ]))
              (refine wpTree_qn 29 hTok hOps (by kernel_rfl) rfl rfl ?_; (try simp only [Act.put, List.setIfInBounds_toArray, List.set_cons_zero, List.set_cons_succ]))
              (refine wpTree_qn 30 hTok hOps (by kernel_rfl) rfl rfl ?_; (try simp only [Act.put, List.setIfInBounds_toArray, List.set_cons_zero, List.set_cons_succ]))
              (refine wpTree_qn 31 hTok hOps (by kernel_rfl) rfl rfl ?_; (try simp only [Act.put, List.setIfInBounds_toArray, List.set_cons_zero, List.set_cons_succ]))
              (refine wpTree_qn 32 hTok hOps (by kernel_rfl) rfl rfl ?_; (try simp only [Act.put, List.setIfInBounds_toArray, List.set_cons_zero, List.set_cons_succ]))
              (refine wpTree_qn 33 hTok hOps (by kernel_rfl) rfl rfl ?_; (try simp only [Act.put, List.setIfInBounds_toArray, List.set_cons_zero, List.set_cons_succ]))
              (refine wpTree_qn 34 hTok hOps (by kernel_rfl) rfl rfl ?_; (try simp only [Act.put, List.setIfInBounds_toArray, List.set_cons_zero, List.set_cons_succ]))
              (refine wpTree_qn 35 hTok hOps (by kernel_rfl) rfl rfl ?_; (try simp only [Act.put, List.setIfInBounds_toArray, List.set_cons_zero, List.set_cons_succ]))
              (refine wpTree_qg 36 hTok hOps (by kernel_rfl) rfl rfl ⟨?_, ?_, ?_⟩; rotate_left; (focus (intro wx hSx; (try dsimp only at hSx); go_simp; (try with_reducible rfl))); (simp only [Act.put, List.setIfInBounds_toArray, List.set_cons_zero, List.set_cons_succ]))
              refine wpTree_nil hOps (by kernel_rfl) ?_
              refine hT.out _ _ ?_
              simp only [List.drop_succ_cons, List.drop_zero]
              clear hOps hT hTok
              try clear hHeld
              clear hI6 hI7 hB6 hB7 hc7 hc8 hD1' hD2'
              have hP8 := pos_do (ops := ops) hAk hP.out x.fr x.l hlz
              obtain ⟨m', hm'⟩ : ∃ m', m' = doM ops m x.fr x.l := ⟨_, rfl⟩
              rw [← hm'] at hI8 hAk8 hP8
              replace hP8 := Lib.hid hP8
              clear hm' hAk hP
              have b1 := hB8.cellAt (i := 1) (v := .int .i64 x.fr) rfl
              have b2' := hB8.cellAt (i := 2) (v := .int .i64 x.tg) rfl
              have m0c := hI8.mbb.cellAt (i := 0) (v := .pointer (some ⟨q.rb, 0, none⟩)) rfl
              have f1 := Wd.cell b1 (World.lt_of_cell b1)
              have f2 := Wd.cell b2' (World.lt_of_cell b2')
              have f3 := Wd.cell m0c (World.lt_of_cell m0c)
              obtain ⟨wn, hwn⟩ : ∃ wn, wn = waitN m' x.fr x.tg := ⟨_, rfl⟩
              have hWa := fun u : Wd w8 => wait_any x.fr x.tg (hI8.below u.h).gx
              have hWb := fun u : Wd w8 => rwait_any x.fr x.tg (hI8.below u.h).rg
              rw [← hwn] at hWa
              rw [hAk8.wait x.fr x.tg, ← hwn] at hWb
              have dw : ((wn : Int) != (wn : Int)) = false := by simp
              replace hWa := Lib.hid hWa
              replace hWb := Lib.hid hWb
              replace hwn := Lib.hid hwn
              go_upto_region 15 with fail
              refine wp_region_below (by kernel_rfl) (by kernel_rfl) ?_
              repeat (go_big_quiet_step (first | (go_at_call 11; exact Calls.quiet_below_same (hWa.out _)) | (go_at_call 12; exact Calls.quiet_below (hWb.out _))))
              refine wpQuiet_nil ?_
              rintro _ ⟨u, rfl⟩
              have hI9 := hI8.below u.h
              obtain ⟨w9, hw9⟩ : ∃ w9, w9 = u.v := ⟨_, rfl⟩
              rw [← hw9] at hI9 ⊢
              clear hw9 f1 f2 f3 b1 b2' m0c hWa hWb hI8 hB8
              rw [← hN2.out] at hI9 hAk8
              go_wp2_with fail
              go_roundw
              case rel => exact ⟨i + 1, X', m', Z', V', Y', by omega, by omega, by go_num, hI9, hAk8, hP8⟩
              case measure => simp [intOf]; omega
              -->C0
          by_cases hk1 : x.kind = 1
          ·
            as_aux_lemma =>
              --<C1
              have dk0 : (x.kind == 0) = false := by simp [hk1]
              have dk1 : (x.kind == 1) = true := by simpa using hk1
              have b0 := hB5.cellAt (i := 0) (v := .int .i64 x.kind) rfl
              have b1 := hB5.cellAt (i := 1) (v := .int .i64 x.fr) rfl
              have b3 := hB5.cellAt (i := 2) (v := .int .i64 x.tg) rfl
              have m0c := hI5.mbb.cellAt (i := 0) (v := .pointer (some ⟨q.rb, 0, none⟩)) rfl
              obtain ⟨E, hE⟩ : ∃ E, E = dlvE m x.fr x.tg := ⟨_, rfl⟩
              have hD1' := fun W h => hL1.out W h
              have hD2' := fun W X' h => hL2.out W X' h
              rw [← hE] at hD1' hD2'
              have dE : (E != E) = false := by simp
              replace hE := Lib.hid hE
              clear hk0 hk1 hD1 hD2 hL1 hL2
              replace hD1' := Lib.hid hD1'
              replace hD2' := Lib.hid hD2'
              refine wp_region_tree (fun wx => wx.cell? ⟨bx, 0, none⟩ = some (.int .i64 x.kind) ∧ wx.cell? ⟨bx, 1, none⟩ = some (.int .i64 x.fr) ∧ wx.cell? ⟨bx, 2, none⟩ = some (.int .i64 x.tg) ∧ wx.cell? ⟨mb, 0, none⟩ = some (.pointer (some ⟨q.rb, 0, none⟩))) 37 38 (by kernel_rfl) rfl (by kernel_rfl) (fun d _ _ _ _ h => by cases d <;> exact h) (⟨b0, b1, b3, m0c⟩) (fun opz T hOps hT hTok hHeld => ?_)
              have hI6 := hI5.below (Below.drew (Below.refl w5.heap.size w5))
              have hB6 := hB5.drew
              generalize w5.drew = w6 at hI6 hB6 hHeld ⊢
              clear hI5 hB5 b0 b1 b3 m0c
              (refine wpTree_q 0 hTok hOps (by kernel_rfl) rfl rfl ⟨?_, ?_, ?_⟩; rotate_left; (focus (intro wx hSx; (try dsimp only at hSx); go_simp; (try with_reducible rfl))); (simp only [Act.put, List.setIfInBounds_toArray, List.set_cons_zero, List.set_cons_succ]))
              (refine wpTree_q 1 hTok hOps (by kernel_rfl) rfl rfl ⟨?_, ?_, ?_⟩; rotate_left; (focus (intro wx hSx; (try dsimp only at hSx); go_simp; (try with_reducible rfl))); (simp only [Act.put, List.setIfInBounds_toArray, List.set_cons_zero, List.set_cons_succ]))
              (refine wpTree_q 2 hTok hOps (by kernel_rfl) rfl rfl ⟨?_, ?_, ?_⟩; rotate_left; (focus (intro wx hSx; (try dsimp only at hSx); go_simp; (try with_reducible rfl))); (simp only [Act.put, List.setIfInBounds_toArray, List.set_cons_zero, List.set_cons_succ]))
              (refine wpTree_q 3 hTok hOps (by kernel_rfl) rfl rfl ⟨?_, ?_, ?_⟩; rotate_left; (focus (intro wx hSx; (try dsimp only at hSx); go_simp; (try with_reducible rfl))); (simp only [Act.put, List.setIfInBounds_toArray, List.set_cons_zero, List.set_cons_succ]))
              (refine wpTree_qn 4 hTok hOps (by kernel_rfl) rfl rfl ?_; (try simp only [Act.put, List.setIfInBounds_toArray, List.set_cons_zero, List.set_cons_succ]))
              (refine wpTree_qn 5 hTok hOps (by kernel_rfl) rfl rfl ?_; (try simp only [Act.put, List.setIfInBounds_toArray, List.set_cons_zero, List.set_cons_succ]))
              (refine wpTree_qn 6 hTok hOps (by kernel_rfl) rfl rfl ?_; (try simp only [Act.put, List.setIfInBounds_toArray, List.set_cons_zero, List.set_cons_succ]))
              (refine wpTree_qn 7 hTok hOps (by kernel_rfl) rfl rfl ?_; (try simp only [Act.put, List.setIfInBounds_toArray, List.set_cons_zero, List.set_cons_succ]))
              (refine wpTree_qn 8 hTok hOps (by kernel_rfl) rfl rfl ?_; (try simp only [Act.put, List.setIfInBounds_toArray, List.set_cons_zero, List.set_cons_succ]))
              (refine wpTree_qn 9 hTok hOps (by kernel_rfl) rfl rfl ?_; (try simp only [Act.put, List.setIfInBounds_toArray, List.set_cons_zero, List.set_cons_succ]))
              (refine wpTree_qn 10 hTok hOps (by kernel_rfl) rfl rfl ?_; (try simp only [Act.put, List.setIfInBounds_toArray, List.set_cons_zero, List.set_cons_succ]))
              (refine wpTree_qn 11 hTok hOps (by kernel_rfl) rfl rfl ?_; (try simp only [Act.put, List.setIfInBounds_toArray, List.set_cons_zero, List.set_cons_succ]))
              (refine wpTree_qn 12 hTok hOps (by kernel_rfl) rfl rfl ?_; (try simp only [Act.put, List.setIfInBounds_toArray, List.set_cons_zero, List.set_cons_succ]))
              (refine wpTree_qn 13 hTok hOps (by kernel_rfl) rfl rfl ?_; (try simp only [Act.put, List.setIfInBounds_toArray, List.set_cons_zero, List.set_cons_succ]))
              (refine wpTree_qn 14 hTok hOps (by kernel_rfl) rfl rfl ?_; (try simp only [Act.put, List.setIfInBounds_toArray, List.set_cons_zero, List.set_cons_succ]))
              (refine wpTree_qn 15 hTok hOps (by kernel_rfl) rfl rfl ?_; (try simp only [Act.put, List.setIfInBounds_toArray, List.set_cons_zero, List.set_cons_succ]))
              (refine wpTree_qn 16 hTok hOps (by kernel_rfl) rfl rfl ?_; (try simp only [Act.put, List.setIfInBounds_toArray, List.set_cons_zero, List.set_cons_succ]))
              (refine wpTree_q 17 hTok hOps (by kernel_rfl) rfl rfl ⟨?_, ?_, ?_⟩; rotate_left; (focus (intro wx hSx; (try dsimp only at hSx); go_simp; (try with_reducible rfl))); (simp only [Act.put, List.setIfInBounds_toArray, List.set_cons_zero, List.set_cons_succ]))
              (refine wpTree_q 18 hTok hOps (by kernel_rfl) rfl rfl ⟨?_, ?_, ?_⟩; rotate_left; (focus (intro wx hSx; (try dsimp only at hSx); go_simp; (try with_reducible rfl))); (simp only [Act.put, List.setIfInBounds_toArray, List.set_cons_zero, List.set_cons_succ]))
              (refine wpTree_qg 19 hTok hOps (by kernel_rfl) rfl rfl ⟨?_, ?_, ?_⟩; rotate_left; (focus (intro wx hSx; (try dsimp only at hSx); go_simp; (try with_reducible rfl))); (simp only [Act.put, List.setIfInBounds_toArray, List.set_cons_zero, List.set_cons_succ]))
              (refine wpTree_qg 20 hTok hOps (by kernel_rfl) rfl rfl ⟨?_, ?_, ?_⟩; rotate_left; (focus (intro wx hSx; (try dsimp only at hSx); go_simp; (try with_reducible rfl))); (simp only [Act.put, List.setIfInBounds_toArray, List.set_cons_zero, List.set_cons_succ]))
              (refine wpTree_qg 21 hTok hOps (by kernel_rfl) rfl rfl ⟨?_, ?_, ?_⟩; rotate_left; (focus (intro wx hSx; (try dsimp only at hSx); go_simp; (try with_reducible rfl))); (simp only [Act.put, List.setIfInBounds_toArray, List.set_cons_zero, List.set_cons_succ]))
              (refine wpTree_qg 22 hTok hOps (by kernel_rfl) rfl rfl ⟨?_, ?_, ?_⟩; rotate_left; (focus (intro wx hSx; (try dsimp only at hSx); go_simp; (try with_reducible rfl))); (simp only [Act.put, List.setIfInBounds_toArray, List.set_cons_zero, List.set_cons_succ]))
              (refine wpTree_qg 23 hTok hOps (by kernel_rfl) rfl rfl ⟨?_, ?_, ?_⟩; rotate_left; (focus (intro wx hSx; (try dsimp only at hSx); go_simp; (try with_reducible rfl))); (simp only [Act.put, List.setIfInBounds_toArray, List.set_cons_zero, List.set_cons_succ]))
              (refine wpTree_qg 24 hTok hOps (by kernel_rfl) rfl rfl ⟨?_, ?_, ?_⟩; rotate_left; (focus (intro wx hSx; (try dsimp only at hSx); go_simp; (try with_reducible rfl))); (simp only [Act.put, List.setIfInBounds_toArray, List.set_cons_zero, List.set_cons_succ]))
              (refine wpTree_qg 25 hTok hOps (by kernel_rfl) rfl rfl ⟨?_, ?_, ?_⟩; rotate_left; (focus (intro wx hSx; (try dsimp only at hSx); go_simp; (try with_reducible rfl))); (simp only [Act.put, List.setIfInBounds_toArray, List.set_cons_zero, List.set_cons_succ]))
              (refine wpTree_qg 26 hTok hOps (by kernel_rfl) rfl rfl ⟨?_, ?_, ?_⟩; rotate_left; (focus (intro wx hSx; (try dsimp only at hSx); go_simp; (try with_reducible rfl))); (simp only [Act.put, List.setIfInBounds_toArray, List.set_cons_zero, List.set_cons_succ]))
              (refine wpTree_qg 27 hTok hOps (by kernel_rfl) rfl rfl ⟨?_, ?_, ?_⟩; rotate_left; (focus (intro wx hSx; (try dsimp only at hSx); go_simp; (try with_reducible rfl))); (simp only [Act.put, List.setIfInBounds_toArray, List.set_cons_zero, List.set_cons_succ]))
              (refine wpTree_qg 29 hTok hOps (by kernel_rfl) rfl rfl ⟨?_, ?_, ?_⟩; rotate_left; (focus (intro wx hSx; (try dsimp only at hSx); go_simp; (try with_reducible rfl))); (simp only [Act.put, List.setIfInBounds_toArray, List.set_cons_zero, List.set_cons_succ]))
              (refine wpTree_qg 30 hTok hOps (by kernel_rfl) rfl rfl ⟨?_, ?_, ?_⟩; rotate_left; (focus (intro wx hSx; (try dsimp only at hSx); go_simp; (try with_reducible rfl))); (simp only [Act.put, List.setIfInBounds_toArray, List.set_cons_zero, List.set_cons_succ]))
              (refine wpTree_qg 31 hTok hOps (by kernel_rfl) rfl rfl ⟨?_, ?_, ?_⟩; rotate_left; (focus (intro wx hSx; (try dsimp only at hSx); go_simp; (try with_reducible rfl))); (simp only [Act.put, List.setIfInBounds_toArray, List.set_cons_zero, List.set_cons_succ]))
              (refine wpTree_qg 32 hTok hOps (by kernel_rfl) rfl rfl ⟨?_, ?_, ?_⟩; rotate_left; (focus (intro wx hSx; (try dsimp only at hSx); go_simp; (try with_reducible rfl))); (simp only [Act.put, List.setIfInBounds_toArray, List.set_cons_zero, List.set_cons_succ]))
              (refine wpTree_qg 33 hTok hOps (by kernel_rfl) rfl rfl ⟨?_, ?_, ?_⟩; rotate_left; (focus (intro wx hSx; (try dsimp only at hSx); go_simp; (try with_reducible rfl))); (simp only [Act.put, List.setIfInBounds_toArray, List.set_cons_zero, List.set_cons_succ]))
              refine wpTree_1g 28 hOps (by kernel_rfl) (by decide) rfl rfl (fun K' hK => ?_)
              go_simp
              refine (hD1'.out _ hI6).mono ?_
              rintro e w7 ⟨rfl, hc7, X', hI7⟩
              have hB7 := hB6.chg hc7 hBx
              try dsimp only
              refine hK.out _ _ ⟨hB7.cellAt rfl, hB7.cellAt rfl, hB7.cellAt rfl, hI7.mbb.cellAt rfl⟩ ?_
              clear hK K'
              try simp only [Act.put, List.setIfInBounds_toArray, List.set_cons_zero, List.set_cons_succ]
              refine wpTree_1g 34 hOps (by kernel_rfl) (by decide) rfl rfl (fun K' hK => ?_)
              go_simp
              refine (hD2'.out _ _ hI7).mono ?_
              rintro e w8 ⟨rfl, hc8, Z', V', Y', hI8, hAk8⟩
              have hB8 := hB7.chg hc8 (by omega)
              try dsimp only
              refine hK.out _ _ ⟨hB8.cellAt rfl, hB8.cellAt rfl, hB8.cellAt rfl, hI8.mbb.cellAt rfl⟩ ?_
              clear hK K'
              try simp only [Act.put, List.setIfInBounds_toArray, List.set_cons_zero, List.set_cons_succ]
              (refine wpTree_qg 35 hTok hOps (by kernel_rfl) rfl rfl ⟨?_, ?_, ?_⟩; rotate_left; (focus (intro wx hSx; (try dsimp only at hSx); go_simp; (try with_reducible rfl))); (simp only [Act.put, List.setIfInBounds_toArray, List.set_cons_zero, List.set_cons_succ]))
              (refine wpTree_qg 36 hTok hOps (by kernel_rfl) rfl rfl ⟨?_, ?_, ?_⟩; rotate_left; (focus (intro wx hSx; (try dsimp only at hSx); go_simp; (try with_reducible rfl))); (simp only [Act.put, List.setIfInBounds_toArray, List.set_cons_zero, List.set_cons_succ]))
              refine wpTree_nil hOps (by kernel_rfl) ?_
              refine hT.out _ _ ?_
              simp only [List.drop_succ_cons, List.drop_zero]
              clear hOps hT hTok
              try clear hHeld
              clear hI6 hI7 hB6 hB7 hc7 hc8 hD1' hD2'
              have hP8 := pos_dlv (ops := ops) hP.out x.fr x.tg
              obtain ⟨m', hm'⟩ : ∃ m', m' = dlvM ops m x.fr x.tg := ⟨_, rfl⟩
              rw [← hm'] at hI8 hAk8 hP8
              replace hP8 := Lib.hid hP8
              clear hm' hAk hP
              have b1 := hB8.cellAt (i := 1) (v := .int .i64 x.fr) rfl
              have b2' := hB8.cellAt (i := 2) (v := .int .i64 x.tg) rfl
              have m0c := hI8.mbb.cellAt (i := 0) (v := .pointer (some ⟨q.rb, 0, none⟩)) rfl
              have f1 := Wd.cell b1 (World.lt_of_cell b1)
              have f2 := Wd.cell b2' (World.lt_of_cell b2')
              have f3 := Wd.cell m0c (World.lt_of_cell m0c)
              obtain ⟨wn, hwn⟩ : ∃ wn, wn = waitN m' x.fr x.tg := ⟨_, rfl⟩
              have hWa := fun u : Wd w8 => wait_any x.fr x.tg (hI8.below u.h).gx
              have hWb := fun u : Wd w8 => rwait_any x.fr x.tg (hI8.below u.h).rg
              rw [← hwn] at hWa
              rw [hAk8.wait x.fr x.tg, ← hwn] at hWb
              have dw : ((wn : Int) != (wn : Int)) = false := by simp
              replace hWa := Lib.hid hWa
              replace hWb := Lib.hid hWb
              replace hwn := Lib.hid hwn
              go_upto_region 15 with fail
              refine wp_region_below (by kernel_rfl) (by kernel_rfl) ?_
              repeat (go_big_quiet_step (first | (go_at_call 11; exact Calls.quiet_below_same (hWa.out _)) | (go_at_call 12; exact Calls.quiet_below (hWb.out _))))
              refine wpQuiet_nil ?_
              rintro _ ⟨u, rfl⟩
              have hI9 := hI8.below u.h
              obtain ⟨w9, hw9⟩ : ∃ w9, w9 = u.v := ⟨_, rfl⟩
              rw [← hw9] at hI9 ⊢
              clear hw9 f1 f2 f3 b1 b2' m0c hWa hWb hI8 hB8
              rw [← hN2.out] at hI9 hAk8
              go_wp2_with fail
              go_roundw
              case rel => exact ⟨i + 1, X', m', Z', V', Y', by omega, by omega, by go_num, hI9, hAk8, hP8⟩
              case measure => simp [intOf]; omega
              -->C1
          ·
            as_aux_lemma =>
              --<C2
              have dk0 : (x.kind == 0) = false := by simpa using hk0
              have dk1 : (x.kind == 1) = false := by simpa using hk1
              have b0 := hB5.cellAt (i := 0) (v := .int .i64 x.kind) rfl
              have f0 := Wd.cell b0 (World.lt_of_cell b0)
              clear hk0 hk1 hD1 hD2 hL1 hL2
              refine wp_region_below (by kernel_rfl) (by kernel_rfl) ?_
              repeat (go_big_quiet_step (fail))
              refine wpQuiet_nil ?_
              rintro _ ⟨u, rfl⟩
              have hI8 := (hI5.below u.h).mono (N' := N + 1048576) (by omega)
              have hB8 := hB5.below u.h hB5.lt
              have hAk8 := hAk.mono (N' := N + 1048576) (by omega)
              obtain ⟨w8, hw8⟩ : ∃ w8, w8 = u.v := ⟨_, rfl⟩
              rw [← hw8] at hI8 hB8 ⊢
              clear hw8 f0 b0 hI5 hB5 hAk
              have hP8 := hP
              clear hP
              have b1 := hB8.cellAt (i := 1) (v := .int .i64 x.fr) rfl
              have b2' := hB8.cellAt (i := 2) (v := .int .i64 x.tg) rfl
              have m0c := hI8.mbb.cellAt (i := 0) (v := .pointer (some ⟨q.rb, 0, none⟩)) rfl
              have f1 := Wd.cell b1 (World.lt_of_cell b1)
              have f2 := Wd.cell b2' (World.lt_of_cell b2')
              have f3 := Wd.cell m0c (World.lt_of_cell m0c)
              obtain ⟨wn, hwn⟩ : ∃ wn, wn = waitN m x.fr x.tg := ⟨_, rfl⟩
              have hWa := fun u : Wd w8 => wait_any x.fr x.tg (hI8.below u.h).gx
              have hWb := fun u : Wd w8 => rwait_any x.fr x.tg (hI8.below u.h).rg
              rw [← hwn] at hWa
              rw [hAk8.wait x.fr x.tg, ← hwn] at hWb
              have dw : ((wn : Int) != (wn : Int)) = false := by simp
              replace hWa := Lib.hid hWa
              replace hWb := Lib.hid hWb
              replace hwn := Lib.hid hwn
              go_upto_region 15 with fail
              refine wp_region_below (by kernel_rfl) (by kernel_rfl) ?_
              repeat (go_big_quiet_step (first | (go_at_call 11; exact Calls.quiet_below_same (hWa.out _)) | (go_at_call 12; exact Calls.quiet_below (hWb.out _))))
              refine wpQuiet_nil ?_
              rintro _ ⟨u, rfl⟩
              have hI9 := hI8.below u.h
              obtain ⟨w9, hw9⟩ : ∃ w9, w9 = u.v := ⟨_, rfl⟩
              rw [← hw9] at hI9 ⊢
              clear hw9 f1 f2 f3 b1 b2' m0c hWa hWb hI8 hB8
              rw [← hN2.out] at hI9 hAk8
              go_wp2_with fail
              go_roundw
              case rel => exact ⟨i + 1, X, m, Z, V, Y, by omega, by omega, by go_num, hI9, hAk8, hP8⟩
              case measure => simp [intOf]; omega
              -->C2
        -->L1
    case rest =>
      clear hI4 hAk hP0
      obtain ⟨X, m, N, Z, V, Y, hN, hI, hAk, hP⟩ := hcut
      have hmost : n ≤ 16 := by rw [hn.out]; exact (okG_of_check hok.out).most
      have m0c := hI.mbb.cellAt (i := 0) (v := .pointer (some ⟨q.rb, 0, none⟩)) rfl
      go_upto_block 2 with fail
      clear m0c
      go_cut [13] from 14 to 296 (fun x13 wx => GR w wx rz mb (.slice ao n cap) (.int .i64 k) (.slice ba nb bc) w1.heap.size w2.heap.size X g1 p1 ops m N Z q kk V Y)
      case first =>
        as_aux_lemma =>
          --<L2
          go_wp2_with fail
          go_loopw [13] (fun x13 wr => ∃ f : Nat, f ≤ kk ∧ x13 = .int .i64 f ∧ GR w wr rz mb (.slice ao n cap) (.int .i64 k) (.slice ba nb bc) w1.heap.size w2.heap.size X g1 p1 ops m N Z q kk V Y) (fun x13 _ => kk - (intOf x13).toNat)
          case atStart => exact ⟨0, Nat.zero_le _, rfl, hI⟩
          case round =>
            clear hI
            obtain ⟨f, hf, rfl, hI⟩ := hrel
            have m0c := hI.mbb.cellAt (i := 0) (v := .pointer (some ⟨q.rb, 0, none⟩)) rfl
            have c1 := hI.rg.cells.2.1
            by_cases hfk : f < kk
            rotate_left
            · have d1 : decide ((f : Int) < (kk : Int)) = false := by simp; omega
              have d1' : decide (f < kk) = false := by simp; omega
              go_wp2_with fail
              go_meet
              case rel => exact hI
            have d1 : decide ((f : Int) < (kk : Int)) = true := by simp; omega
            have d1' : decide (f < kk) = true := by simpa using hfk
            have hmn := hAk.hn
            have hvf := hAk.vw f hfk
            go_wp2_with fail
            clear m0c c1
            go_loopw [14] (fun x14 wr => ∃ loc : Int, -1 ≤ loc ∧ loc ≤ n + 1 ∧ x14 = .int .i64 loc ∧ GR w wr rz mb (.slice ao n cap) (.int .i64 k) (.slice ba nb bc) w1.heap.size w2.heap.size X g1 p1 ops m N Z q kk V Y) (fun x14 _ => (n + 1 - intOf x14).toNat)
            case atStart => exact ⟨-1, by omega, by omega, rfl, hI⟩
            case round =>
              clear hI
              obtain ⟨loc, hl1, hl2, rfl, hI⟩ := hrel
              have cz := hI.cb.cellAt (i := 0) (v := .slice ao n cap) rfl
              by_cases hln : loc ≤ n
              ·
                as_aux_lemma =>
                  --<F3
                  have d2 : decide (loc ≤ (n : Int)) = true := by simpa using hln
                  have hwl : wrap64 (loc + 1) = loc + 1 := IntWalk.wrap64_in _ (by omega)
                  obtain ⟨va, vc, hvt, hvz⟩ := hI.rg.view (i := f) (by omega)
                  have hFr : ∀ W', Below wr.heap.size wr W' → _ := fun W' hb => gfront_any (f : Int) loc (hI.below hb).gx (by have := hN; omega)
                  have hAl : ∀ W', Below wr.heap.size wr W' → _ := fun W' hb => raliveA q.vb (.slice ao n cap) (V f) va vc W' (f * 2) (hvt.below hb) (hvz.sla.imp hb hb.size (fun _ _ _ h => h.imp hb hb.size)) (by have := hvf.len; omega)
                  obtain ⟨nA, hnA⟩ : ∃ nA, nA = (aliveL (V f)).length := ⟨_, rfl⟩
                  have hnAb : nA ≤ N := by rw [hnA]; exact Nat.le_trans (aliveL_len _) hvf.len
                  have hRf : ∀ W' (aa : Option Addr) (ca : Nat), Below wr.heap.size wr W' → SlA W'.heap.size 3 (RStamp W'.heap.size) W' aa ca (aliveL (V f)) → _ := fun W' aa ca hb hsl => rpfront_any ops cap ao (aliveL (V f)) ca aa loc W'.heap.size W' (Nat.le_refl _) (hxW.out W' (hI.bel.trans (hb.mono hI.bel.size))) hsl (by rw [← hnA]; omega)
                  rw [← hn.out, ← hnA] at hRf
                  obtain ⟨fr, hfr⟩ : ∃ fr, fr = frontT (timesS ops loc (aliveL (V f))) := ⟨_, rfl⟩
                  rw [← hfr] at hRf
                  have hfeq : ∀ cs f', (cs.map Prod.fst).Nodup → cntC cs = m.c (f + 1) → IsFront (timesS ops loc (aliveC cs)) f' → fr = f' := fun cs f' h1 h2 h3 => by rw [hfr]; exact front_alike hvf h1 h2 h3
                  have hAw : ∀ s ∈ aliveL (V f), wfS s := fun s hs => by
                    unfold aliveL at hs
                    obtain ⟨c, hc, rfl⟩ := List.mem_map.1 hs
                    have := rcount_wf hvz.sla c (List.mem_filter.1 hc).1
                    exact ⟨this.1, this.2.1, this.2.2.1⟩
                  have hcells : ∀ wx, Below wr.heap.size wr wx → wx.cell? ⟨w.heap.size, 0, none⟩ = some (.slice ao n cap) ∧ wx.cell? ⟨mb, 0, none⟩ = some (.pointer (some ⟨q.rb, 0, none⟩)) ∧ wx.cell? ⟨q.rb, 2, none⟩ = some (.slice (some ⟨q.vb, 0, none⟩) (kk + 1) q.vc) := fun wx hb =>
                    ⟨(hI.below hb).cb.cellAt rfl, (hI.below hb).mbb.cellAt rfl, (hI.below hb).rg.cells.2.2.1⟩
                  obtain ⟨_, m0c, c2⟩ := hcells wr (Below.refl _ _)
                  have hfn : (0 : Int) ≤ (f : Int) ∧ (f : Int) < (m.n : Int) := by rw [hmn]; omega
                  have hlnH := Lib.hid hln
                  replace hwl := Lib.hid hwl
                  replace hnA := Lib.hid hnA
                  replace hAw := Lib.hid hAw
                  replace hFr := Lib.hid hFr
                  replace hAl := Lib.hid hAl
                  replace hRf := Lib.hid hRf
                  replace hfeq := Lib.hid hfeq
                  replace hcells := Lib.hid hcells
                  replace hfn := Lib.hid hfn
                  clear hfr hln hvt hvz
                  go_upto_region 23 with fail
                  refine wp_region_tree (fun wx => wx.cell? ⟨w.heap.size, 0, none⟩ = some (.slice ao n cap) ∧ wx.cell? ⟨mb, 0, none⟩ = some (.pointer (some ⟨q.rb, 0, none⟩)) ∧ wx.cell? ⟨q.rb, 2, none⟩ = some (.slice (some ⟨q.vb, 0, none⟩) (kk + 1) q.vc)) 16 17 (by kernel_rfl) rfl (by kernel_rfl) (fun d _ _ _ _ h => by cases d <;> exact h) (⟨cz, m0c, c2⟩) (fun opz T hOps hT hTok hHeld => ?_)
                  refine wpTree_world ?_
                  intro wz hwz
                  have b4 : Below wr.heap.size wr wz := by rw [hwz]; exact Below.drew (Below.refl _ _)
                  clear hwz cz m0c c2 hHeld
                  (refine wpTree_q 0 hTok hOps (by kernel_rfl) rfl rfl ⟨?_, ?_, ?_⟩; rotate_left; (focus (intro wx hSx; (try dsimp only at hSx); go_simp; (try with_reducible rfl))); (simp only [Act.put, List.setIfInBounds_toArray, List.set_cons_zero, List.set_cons_succ]))
                  (refine wpTree_q 1 hTok hOps (by kernel_rfl) rfl rfl ⟨?_, ?_, ?_⟩; rotate_left; (focus (intro wx hSx; (try dsimp only at hSx); go_simp; (try with_reducible rfl))); (simp only [Act.put, List.setIfInBounds_toArray, List.set_cons_zero, List.set_cons_succ]))
                  (refine wpTree_q 2 hTok hOps (by kernel_rfl) rfl rfl ⟨?_, ?_, ?_⟩; rotate_left; (focus (intro wx hSx; (try dsimp only at hSx); go_simp; (try with_reducible rfl))); (simp only [Act.put, List.setIfInBounds_toArray, List.set_cons_zero, List.set_cons_succ]))
                  (refine wpTree_q 4 hTok hOps (by kernel_rfl) rfl rfl ⟨?_, ?_, ?_⟩; rotate_left; (focus (intro wx hSx; (try dsimp only at hSx); go_simp; (try with_reducible rfl))); (simp only [Act.put, List.setIfInBounds_toArray, List.set_cons_zero, List.set_cons_succ]))
                  (refine wpTree_q 5 hTok hOps (by kernel_rfl) rfl rfl ⟨?_, ?_, ?_⟩; rotate_left; (focus (intro wx hSx; (try dsimp only at hSx); go_simp; (try with_reducible rfl))); (simp only [Act.put, List.setIfInBounds_toArray, List.set_cons_zero, List.set_cons_succ]))
                  (refine wpTree_q 6 hTok hOps (by kernel_rfl) rfl rfl ⟨?_, ?_, ?_⟩; rotate_left; (focus (intro wx hSx; (try dsimp only at hSx); go_simp; (try with_reducible rfl))); (simp only [Act.put, List.setIfInBounds_toArray, List.set_cons_zero, List.set_cons_succ]))
                  (refine wpTree_q 7 hTok hOps (by kernel_rfl) rfl rfl ⟨?_, ?_, ?_⟩; rotate_left; (focus (intro wx hSx; (try dsimp only at hSx); go_simp; (try with_reducible rfl))); (simp only [Act.put, List.setIfInBounds_toArray, List.set_cons_zero, List.set_cons_succ]))
                  (refine wpTree_q 8 hTok hOps (by kernel_rfl) rfl rfl ⟨?_, ?_, ?_⟩; rotate_left; (focus (intro wx hSx; (try dsimp only at hSx); go_simp; (try with_reducible rfl))); (simp only [Act.put, List.setIfInBounds_toArray, List.set_cons_zero, List.set_cons_succ]))
                  (refine wpTree_q 9 hTok hOps (by kernel_rfl) rfl rfl ⟨?_, ?_, ?_⟩; rotate_left; (focus (intro wx hSx; (try dsimp only at hSx); go_simp; (try with_reducible rfl))); (simp only [Act.put, List.setIfInBounds_toArray, List.set_cons_zero, List.set_cons_succ]))
                  (refine wpTree_q 10 hTok hOps (by kernel_rfl) rfl rfl ⟨?_, ?_, ?_⟩; rotate_left; (focus (intro wx hSx; (try dsimp only at hSx); go_simp; (try with_reducible rfl))); (simp only [Act.put, List.setIfInBounds_toArray, List.set_cons_zero, List.set_cons_succ]))
                  (refine wpTree_qg 11 hTok hOps (by kernel_rfl) rfl rfl ⟨?_, ?_, ?_⟩; rotate_left; (focus (intro wx hSx; (try dsimp only at hSx); go_simp; rw [if_pos (by omega)])); (simp only [Act.put, List.setIfInBounds_toArray, List.set_cons_zero, List.set_cons_succ]))
                  (refine wpTree_q 13 hTok hOps (by kernel_rfl) rfl rfl ⟨?_, ?_, ?_⟩; rotate_left; (focus (intro wx hSx; (try dsimp only at hSx); go_simp; (try with_reducible rfl))); (simp only [Act.put, List.setIfInBounds_toArray, List.set_cons_zero, List.set_cons_succ]))
                  refine wpTree_1 3 hOps (by kernel_rfl) (by decide) rfl (fun K' hK => ?_)
                  go_simp
                  refine (hFr.out _ b4).mono ?_
                  rintro e wy ⟨bn, hgo, -⟩
                  obtain ⟨cs1, v1, f1, rfl, hc1, hn1, ho1, hi1⟩ := hgo hfn.out
                  dsimp only
                  obtain ⟨af, cf, rfl, hsf⟩ := ho1.sla
                  obtain rfl := hfeq.out cs1 f1 hn1 hc1 hi1
                  replace b4 := b4.trans (bn.mono b4.size)
                  clear hgo hc1 hn1 ho1 hi1 bn
                  try dsimp only
                  refine hK.out _ _ (hcells.out _ b4) ?_
                  clear hK K'
                  try simp only [Act.put, List.setIfInBounds_toArray, List.set_cons_zero, List.set_cons_succ]
                  refine wpTree_1 12 hOps (by kernel_rfl) (by decide) rfl (fun K' hK => ?_)
                  go_simp
                  refine (hAl.out _ b4).mono ?_
                  rintro e wx ⟨va2, rfl, hva, bn⟩
                  dsimp only
                  obtain ⟨aa, ca, rfl, hsa⟩ := hva.sla (E := RStamp wx.heap.size) encS_len (fun x hx => ⟨rfl, hAw.out x hx⟩)
                  rw [← hnA.out]
                  replace hsf := imp_times' (imp_times hsf bn) bn.size
                  replace b4 := b4.trans (bn.mono b4.size)
                  clear hva bn
                  try dsimp only
                  refine hK.out _ _ (hcells.out _ b4) ?_
                  clear hK K'
                  try simp only [Act.put, List.setIfInBounds_toArray, List.set_cons_zero, List.set_cons_succ]
                  refine wpTree_1 14 hOps (by kernel_rfl) (by decide) rfl (fun K' hK => ?_)
                  go_simp
                  refine (hRf.out wx aa ca b4 hsa).mono ?_
                  rintro e wv ⟨vr, rfl, hvr, bn⟩
                  dsimp only
                  obtain ⟨ar, cr9, rfl, hsr⟩ := hvr.sla
                  replace hsf := imp_times' (imp_times hsf bn) bn.size
                  replace b4 := b4.trans (bn.mono b4.size)
                  clear hvr bn hsa
                  try dsimp only
                  refine hK.out _ _ (hcells.out _ b4) ?_
                  clear hK K'
                  try simp only [Act.put, List.setIfInBounds_toArray, List.set_cons_zero, List.set_cons_succ]
                  refine wpTree_1 15 hOps (by kernel_rfl) (by decide) rfl (fun K' hK => ?_)
                  go_simp
                  have hss := sameTimes_any fr fr af ar cf cr9 wv wv.heap.size (Nat.le_refl _) hsf hsr
                  rw [sameTs_self] at hss
                  refine hss.mono ?_
                  clear hss
                  rintro e wu ⟨rfl, bn⟩
                  dsimp only
                  replace b4 := b4.trans (bn.mono b4.size)
                  clear bn hsf hsr
                  try dsimp only
                  refine hK.out _ _ (hcells.out _ b4) ?_
                  clear hK K'
                  try simp only [Act.put, List.setIfInBounds_toArray, List.set_cons_zero, List.set_cons_succ]
                  refine wpTree_nil hOps (by kernel_rfl) ?_
                  refine hT.out _ _ ?_
                  simp only [List.drop_succ_cons, List.drop_zero]
                  clear hOps hT hTok
                  try clear hHeld
                  have hIe := hI.below b4
                  clear hFr hAl hRf hcells hfeq hAw hI
                  go_wp2_with fail
                  go_roundw
                  case rel => exact ⟨loc + 1, by omega, by have := hlnH.out; omega, by first | rfl | rw [hwl.out], hIe⟩
                  case measure => (simp only [intOf]; try rw [hwl.out]); have := hlnH.out; omega
                  -->F3
              · have d2 : decide (loc ≤ (n : Int)) = false := by simpa using hln
                clear hln
                go_wp2_with fail
                clear cz
                go_loopw [15] (fun x15 wr => ∃ j : Nat, j ≤ nt ∧ j ≤ 20 ∧ x15 = .int .i64 j ∧ GR w wr rz mb (.slice ao n cap) (.int .i64 k) (.slice ba nb bc) w1.heap.size w2.heap.size X g1 p1 ops m N Z q kk V Y) (fun x15 _ => nt - (intOf x15).toNat)
                case atStart => exact ⟨0, Nat.zero_le _, by omega, rfl, hI⟩
                case round =>
                  clear hI
                  obtain ⟨j, hj, hj20, rfl, hI⟩ := hrel
                  by_cases hgo : j < nt ∧ j < 20
                  rotate_left
                  · have hcase : nt ≤ j ∨ (j < nt ∧ 20 ≤ j) := by omega
                    clear hgo
                    rcases hcase with hc | ⟨hc1, hc2⟩
                    · have d3 : decide ((j : Int) < (nt : Int)) = false := by simp; omega
                      have d3' : decide (j < nt) = false := by simp; omega
                      go_wp2_with fail
                      go_roundw
                      case rel => exact ⟨f + 1, by omega, by go_num, hI⟩
                      case measure => simp [intOf]; omega
                    · have d3 : decide ((j : Int) < (nt : Int)) = true := by simp; omega
                      have d3' : decide (j < nt) = true := by simpa using hc1
                      have d4 : decide ((j : Int) < 20) = false := by simp; omega
                      have d4' : decide (j < 20) = false := by simp; omega
                      go_wp2_with fail
                      go_roundw
                      case rel => exact ⟨f + 1, by omega, by go_num, hI⟩
                      case measure => simp [intOf]; omega
                  as_aux_lemma =>
                    --<D4
                    obtain ⟨hjt, hj2⟩ := hgo
                    have d3 : decide ((j : Int) < (nt : Int)) = true := by simp; omega
                    have d3' : decide (j < nt) = true := by simpa using hjt
                    have d4 : decide ((j : Int) < 20) = true := by simp; omega
                    have d4' : decide (j < 20) = true := by simpa using hj2
                    have hjl : j < ts.length := by rw [← hnt.out]; exact hjt
                    have hsr := htsW.out wr hI.bel
                    obtain ⟨b3, off3, rfl, hb3l, -⟩ := hsr.addr (by omega)
                    obtain ⟨cs0, -, hc0, hst⟩ := hsr.get j hjl
                    obtain ⟨s, hs⟩ : ∃ s, s = ts[j] := ⟨_, rfl⟩
                    rw [← hs] at hst
                    obtain ⟨rfl, ww0, ww1, ww2⟩ := hst
                    have e0 : wr.cell? ⟨b3, off3 + j * 3, none⟩ = some (.int .i64 s.fLoc) := by have := hc0 0 (by omega); simpa using this
                    have e1 : wr.cell? ⟨b3, off3 + j * 3 + 1, none⟩ = some (.int .i64 s.fT.fEpoch) := by have := hc0 1 (by omega); simpa [Nat.add_assoc] using this
                    have e2 : wr.cell? ⟨b3, off3 + j * 3 + 2, none⟩ = some (.int .i64 s.fT.fRound) := by have := hc0 2 (by omega); simpa [Nat.add_assoc] using this
                    have hcells : ∀ wx, Below wr.heap.size wr wx → wx.cell? ⟨mb, 0, none⟩ = some (.pointer (some ⟨q.rb, 0, none⟩)) ∧ wx.cell? ⟨q.rb, 1, none⟩ = some (.int .i64 kk) ∧ wx.cell? ⟨q.rb, 2, none⟩ = some (.slice (some ⟨q.vb, 0, none⟩) (kk + 1) q.vc) ∧ wx.cell? ⟨b3, off3 + j * 3, none⟩ = some (.int .i64 s.fLoc) ∧ wx.cell? ⟨b3, off3 + j * 3 + 1, none⟩ = some (.int .i64 s.fT.fEpoch) ∧ wx.cell? ⟨b3, off3 + j * 3 + 2, none⟩ = some (.int .i64 s.fT.fRound) := fun wx hb =>
                      ⟨(hI.below hb).mbb.cellAt rfl, (hI.below hb).rg.cells.2.1, (hI.below hb).rg.cells.2.2.1, (hb.cell (World.lt_of_cell e0)).trans e0, (hb.cell (World.lt_of_cell e1)).trans e1, (hb.cell (World.lt_of_cell e2)).trans e2⟩
                    obtain ⟨va, vc, hvt, hvz⟩ := hI.rg.view (i := f) (by omega)
                    obtain ⟨vn, vnc, hnt2, hnz⟩ := hI.rg.view (i := kk) (by omega)
                    have hgdf : ∀ i, i ≤ m.n → ∀ a, 0 < m.c i a → goodS ops a.fLoc a.fT.fEpoch a.fT.fRound = true := fun i hi a ha => gos_good hI.gx hi ha
                    obtain ⟨dn1, hdn1⟩ : ∃ dn1, dn1 = doneF ops (m.c (f + 1)) s := ⟨_, rfl⟩
                    obtain ⟨dn0, hdn0⟩ : ∃ dn0, dn0 = doneF ops (m.c 0) s := ⟨_, rfl⟩
                    have hD1 : ∀ W', Below wr.heap.size wr W' → Calls Tryz.prog 17 #[.pointer (some ⟨g1, 0, none⟩), .int .i64 (f : Int), .agg #[.int .i64 s.fLoc, .int .i64 s.fT.fEpoch, .int .i64 s.fT.fRound]] W' fun e w'' => e = .returned (.bool dn1) ∧ Below W'.heap.size W' w'' := fun W' hb => by
                      have := gdone_any (f : Int) s (hI.below hb).gx (by have := hN; omega)
                      rw [decide_eq_true (show (0 : Int) ≤ (f : Int) ∧ (f : Int) < (m.n : Int) by rw [hmn]; omega), Bool.true_and, Int.toNat_natCast, ← hdn1] at this
                      exact this
                    have hD2 : ∀ W', Below wr.heap.size wr W' → Calls Tryz.prog 18 #[.pointer (some ⟨q.vb, f * 2, none⟩), .agg #[.int .i64 s.fLoc, .int .i64 s.fT.fEpoch, .int .i64 s.fT.fRound]] W' fun e w'' => e = .returned (.bool dn1) ∧ Below W'.heap.size W' w'' := fun W' hb => by
                      have := rdoneA q.vb ops ao cap (V f) va vc s W' (f * 2) (by rw [← hn.out]; exact hvt.below hb) (hxW.out W' (hI.bel.trans (hb.mono hI.bel.size))) (hvz.sla.imp hb hb.size (fun _ _ _ h => h.imp hb hb.size)) (by have := hvf.len; omega) hok.out (fun a ha => hgdf (f + 1) (by omega) a ((hvf.alive a).1 ha))
                      rw [hvf.done, ← hdn1] at this
                      exact this
                    have hD0 : ∀ W', Below wr.heap.size wr W' → Calls Tryz.prog 18 #[.pointer (some ⟨q.vb, kk * 2, none⟩), .agg #[.int .i64 s.fLoc, .int .i64 s.fT.fEpoch, .int .i64 s.fT.fRound]] W' fun e w'' => e = .returned (.bool dn0) ∧ Below W'.heap.size W' w'' := fun W' hb => by
                      have := rdoneA q.vb ops ao cap (V kk) vn vnc s W' (kk * 2) (by rw [← hn.out]; exact hnt2.below hb) (hxW.out W' (hI.bel.trans (hb.mono hI.bel.size))) (hnz.sla.imp hb hb.size (fun _ _ _ h => h.imp hb hb.size)) (by have := hAk.tr.len; omega) hok.out (fun a ha => hgdf 0 (Nat.zero_le _) a ((hAk.tr.alive a).1 ha))
                      rw [hAk.tr.done, ← hdn0] at this
                      exact this
                    have hTr : ∀ W', Below wr.heap.size wr W' → _ := fun W' hb => true_any W' (hI.below hb).gx hpg1.out hzi (by have := hN; omega)
                    have hTd : ∀ W' base tb x cs', Tr W' base tb x ops cs' → cntC cs' = posF (m.c 0) → cs'.length ≤ N → Calls Tryz.prog 20 #[.pointer (some ⟨tb, 0, none⟩), .agg #[.int .i64 s.fLoc, .int .i64 s.fT.fEpoch, .int .i64 s.fT.fRound]] W' fun e w'' => e = .returned (.bool dn0) ∧ Below W'.heap.size W' w'' := fun W' base tb x cs' h1 h2 h3 => by
                      have := tdone_any s W' h1 (by omega)
                      rw [done_cs h1.nodup, h2, doneF_pos, ← hdn0] at this
                      exact this
                    have dd1 : (dn1 != dn1) = false := by simp
                    have dd0 : (dn0 != dn0) = false := by simp
                    obtain ⟨m0c, c1, c2, _, _, _⟩ := hcells wr (Below.refl _ _)
                    replace hdn1 := Lib.hid hdn1
                    replace hdn0 := Lib.hid hdn0
                    replace hs := Lib.hid hs
                    replace hcells := Lib.hid hcells
                    replace hD1 := Lib.hid hD1
                    replace hD2 := Lib.hid hD2
                    replace hD0 := Lib.hid hD0
                    replace hTr := Lib.hid hTr
                    replace hTd := Lib.hid hTd
                    clear hsr hc0 ww0 ww1 ww2 hvt hvz hnt2 hnz hgdf
                    go_upto_region 28 with fail
                    refine wp_region_tree (fun wx => wx.cell? ⟨mb, 0, none⟩ = some (.pointer (some ⟨q.rb, 0, none⟩)) ∧ wx.cell? ⟨q.rb, 1, none⟩ = some (.int .i64 kk) ∧ wx.cell? ⟨q.rb, 2, none⟩ = some (.slice (some ⟨q.vb, 0, none⟩) (kk + 1) q.vc) ∧ wx.cell? ⟨b3, off3 + j * 3, none⟩ = some (.int .i64 s.fLoc) ∧ wx.cell? ⟨b3, off3 + j * 3 + 1, none⟩ = some (.int .i64 s.fT.fEpoch) ∧ wx.cell? ⟨b3, off3 + j * 3 + 2, none⟩ = some (.int .i64 s.fT.fRound)) 42 43 (by kernel_rfl) rfl (by kernel_rfl) (fun d _ _ _ _ h => by cases d <;> exact h) (⟨m0c, c1, c2, e0, e1, e2⟩) (fun opz T hOps hT hTok hHeld => ?_)
                    refine wpTree_world ?_
                    intro wz hwz
                    have b4 : Below wr.heap.size wr wz := by rw [hwz]; exact Below.drew (Below.refl _ _)
                    clear hwz m0c c1 c2 e0 e1 e2 hHeld
                    (refine wpTree_q 0 hTok hOps (by kernel_rfl) rfl rfl ⟨?_, ?_, ?_⟩; rotate_left; (focus (intro wx hSx; (try dsimp only at hSx); go_simp; (try with_reducible rfl))); (simp only [Act.put, List.setIfInBounds_toArray, List.set_cons_zero, List.set_cons_succ]))
                    (refine wpTree_q 1 hTok hOps (by kernel_rfl) rfl rfl ⟨?_, ?_, ?_⟩; rotate_left; (focus (intro wx hSx; (try dsimp only at hSx); go_simp; (try with_reducible rfl))); (simp only [Act.put, List.setIfInBounds_toArray, List.set_cons_zero, List.set_cons_succ]))
                    (refine wpTree_q 2 hTok hOps (by kernel_rfl) rfl rfl ⟨?_, ?_, ?_⟩; rotate_left; (focus (intro wx hSx; (try dsimp only at hSx); go_simp; (try with_reducible rfl))); (simp only [Act.put, List.setIfInBounds_toArray, List.set_cons_zero, List.set_cons_succ]))
                    (refine wpTree_q 3 hTok hOps (by kernel_rfl) rfl rfl ⟨?_, ?_, ?_⟩; rotate_left; (focus (intro wx hSx; (try dsimp only at hSx); go_simp; (try with_reducible rfl))); (simp only [Act.put, List.setIfInBounds_toArray, List.set_cons_zero, List.set_cons_succ]))
                    (refine wpTree_q 4 hTok hOps (by kernel_rfl) rfl rfl ⟨?_, ?_, ?_⟩; rotate_left; (focus (intro wx hSx; (try dsimp only at hSx); go_simp; (try with_reducible rfl))); (simp only [Act.put, List.setIfInBounds_toArray, List.set_cons_zero, List.set_cons_succ]))
                    (refine wpTree_q 5 hTok hOps (by kernel_rfl) rfl rfl ⟨?_, ?_, ?_⟩; rotate_left; (focus (intro wx hSx; (try dsimp only at hSx); go_simp; (try with_reducible rfl))); (simp only [Act.put, List.setIfInBounds_toArray, List.set_cons_zero, List.set_cons_succ]))
                    (refine wpTree_q 7 hTok hOps (by kernel_rfl) rfl rfl ⟨?_, ?_, ?_⟩; rotate_left; (focus (intro wx hSx; (try dsimp only at hSx); go_simp; (try with_reducible rfl))); (simp only [Act.put, List.setIfInBounds_toArray, List.set_cons_zero, List.set_cons_succ]))
                    (refine wpTree_q 8 hTok hOps (by kernel_rfl) rfl rfl ⟨?_, ?_, ?_⟩; rotate_left; (focus (intro wx hSx; (try dsimp only at hSx); go_simp; (try with_reducible rfl))); (simp only [Act.put, List.setIfInBounds_toArray, List.set_cons_zero, List.set_cons_succ]))
                    (refine wpTree_q 9 hTok hOps (by kernel_rfl) rfl rfl ⟨?_, ?_, ?_⟩; rotate_left; (focus (intro wx hSx; (try dsimp only at hSx); go_simp; (try with_reducible rfl))); (simp only [Act.put, List.setIfInBounds_toArray, List.set_cons_zero, List.set_cons_succ]))
                    (refine wpTree_q 10 hTok hOps (by kernel_rfl) rfl rfl ⟨?_, ?_, ?_⟩; rotate_left; (focus (intro wx hSx; (try dsimp only at hSx); go_simp; (try with_reducible rfl))); (simp only [Act.put, List.setIfInBounds_toArray, List.set_cons_zero, List.set_cons_succ]))
                    (refine wpTree_q 11 hTok hOps (by kernel_rfl) rfl rfl ⟨?_, ?_, ?_⟩; rotate_left; (focus (intro wx hSx; (try dsimp only at hSx); go_simp; (try with_reducible rfl))); (simp only [Act.put, List.setIfInBounds_toArray, List.set_cons_zero, List.set_cons_succ]))
                    (refine wpTree_qg 12 hTok hOps (by kernel_rfl) rfl rfl ⟨?_, ?_, ?_⟩; rotate_left; (focus (intro wx hSx; (try dsimp only at hSx); go_simp; rw [if_pos (by omega)])); (simp only [Act.put, List.setIfInBounds_toArray, List.set_cons_zero, List.set_cons_succ]))
                    (refine wpTree_q 13 hTok hOps (by kernel_rfl) rfl rfl ⟨?_, ?_, ?_⟩; rotate_left; (focus (intro wx hSx; (try dsimp only at hSx); go_simp; (try with_reducible rfl))); (simp only [Act.put, List.setIfInBounds_toArray, List.set_cons_zero, List.set_cons_succ]))
                    (refine wpTree_q 14 hTok hOps (by kernel_rfl) rfl rfl ⟨?_, ?_, ?_⟩; rotate_left; (focus (intro wx hSx; (try dsimp only at hSx); go_simp; (try with_reducible rfl))); (simp only [Act.put, List.setIfInBounds_toArray, List.set_cons_zero, List.set_cons_succ]))
                    (refine wpTree_q 15 hTok hOps (by kernel_rfl) rfl rfl ⟨?_, ?_, ?_⟩; rotate_left; (focus (intro wx hSx; (try dsimp only at hSx); go_simp; (try with_reducible rfl))); (simp only [Act.put, List.setIfInBounds_toArray, List.set_cons_zero, List.set_cons_succ]))
                    (refine wpTree_q 16 hTok hOps (by kernel_rfl) rfl rfl ⟨?_, ?_, ?_⟩; rotate_left; (focus (intro wx hSx; (try dsimp only at hSx); go_simp; (try with_reducible rfl))); (simp only [Act.put, List.setIfInBounds_toArray, List.set_cons_zero, List.set_cons_succ]))
                    refine wpTree_1 6 hOps (by kernel_rfl) (by decide) rfl (fun K' hK => ?_)
                    go_simp
                    refine (hD1.out _ b4).mono ?_
                    rintro e wy ⟨rfl, bn⟩
                    dsimp only
                    replace b4 := b4.trans (bn.mono b4.size)
                    clear bn
                    try dsimp only
                    refine hK.out _ _ (hcells.out _ b4) ?_
                    clear hK K'
                    try simp only [Act.put, List.setIfInBounds_toArray, List.set_cons_zero, List.set_cons_succ]
                    refine wpTree_1 17 hOps (by kernel_rfl) (by decide) rfl (fun K' hK => ?_)
                    go_simp
                    refine (hD2.out _ b4).mono ?_
                    rintro e wx2 ⟨rfl, bn⟩
                    dsimp only
                    replace b4 := b4.trans (bn.mono b4.size)
                    clear bn
                    try dsimp only
                    refine hK.out _ _ (hcells.out _ b4) ?_
                    clear hK K'
                    try simp only [Act.put, List.setIfInBounds_toArray, List.set_cons_zero, List.set_cons_succ]
                    (refine wpTree_q 18 hTok hOps (by kernel_rfl) rfl rfl ⟨?_, ?_, ?_⟩; rotate_left; (focus (intro wx hSx; (try dsimp only at hSx); go_simp; (try with_reducible rfl))); (simp only [Act.put, List.setIfInBounds_toArray, List.set_cons_zero, List.set_cons_succ]))
                    (refine wpTree_q 19 hTok hOps (by kernel_rfl) rfl rfl ⟨?_, ?_, ?_⟩; rotate_left; (focus (intro wx hSx; (try dsimp only at hSx); go_simp; (try with_reducible rfl))); (simp only [Act.put, List.setIfInBounds_toArray, List.set_cons_zero, List.set_cons_succ]))
                    (refine wpTree_qg 20 hTok hOps (by kernel_rfl) rfl rfl ⟨?_, ?_, ?_⟩; rotate_left; (focus (intro wx hSx; (try dsimp only at hSx); go_simp; (try with_reducible rfl))); (simp only [Act.put, List.setIfInBounds_toArray, List.set_cons_zero, List.set_cons_succ]))
                    (refine wpTree_qg 22 hTok hOps (by kernel_rfl) rfl rfl ⟨?_, ?_, ?_⟩; rotate_left; (focus (intro wx hSx; (try dsimp only at hSx); go_simp; (try with_reducible rfl))); (simp only [Act.put, List.setIfInBounds_toArray, List.set_cons_zero, List.set_cons_succ]))
                    (refine wpTree_qg 23 hTok hOps (by kernel_rfl) rfl rfl ⟨?_, ?_, ?_⟩; rotate_left; (focus (intro wx hSx; (try dsimp only at hSx); go_simp; (try with_reducible rfl))); (simp only [Act.put, List.setIfInBounds_toArray, List.set_cons_zero, List.set_cons_succ]))
                    (refine wpTree_qg 24 hTok hOps (by kernel_rfl) rfl rfl ⟨?_, ?_, ?_⟩; rotate_left; (focus (intro wx hSx; (try dsimp only at hSx); go_simp; (try with_reducible rfl))); (simp only [Act.put, List.setIfInBounds_toArray, List.set_cons_zero, List.set_cons_succ]))
                    (refine wpTree_qg 25 hTok hOps (by kernel_rfl) rfl rfl ⟨?_, ?_, ?_⟩; rotate_left; (focus (intro wx hSx; (try dsimp only at hSx); go_simp; (try with_reducible rfl))); (simp only [Act.put, List.setIfInBounds_toArray, List.set_cons_zero, List.set_cons_succ]))
                    (refine wpTree_qg 27 hTok hOps (by kernel_rfl) rfl rfl ⟨?_, ?_, ?_⟩; rotate_left; (focus (intro wx hSx; (try dsimp only at hSx); go_simp; (try with_reducible rfl))); (simp only [Act.put, List.setIfInBounds_toArray, List.set_cons_zero, List.set_cons_succ]))
                    (refine wpTree_qg 28 hTok hOps (by kernel_rfl) rfl rfl ⟨?_, ?_, ?_⟩; rotate_left; (focus (intro wx hSx; (try dsimp only at hSx); go_simp; (try with_reducible rfl))); (simp only [Act.put, List.setIfInBounds_toArray, List.set_cons_zero, List.set_cons_succ]))
                    (refine wpTree_qg 29 hTok hOps (by kernel_rfl) rfl rfl ⟨?_, ?_, ?_⟩; rotate_left; (focus (intro wx hSx; (try dsimp only at hSx); go_simp; (try with_reducible rfl))); (simp only [Act.put, List.setIfInBounds_toArray, List.set_cons_zero, List.set_cons_succ]))
                    (refine wpTree_qg 30 hTok hOps (by kernel_rfl) rfl rfl ⟨?_, ?_, ?_⟩; rotate_left; (focus (intro wx hSx; (try dsimp only at hSx); go_simp; (try with_reducible rfl))); (simp only [Act.put, List.setIfInBounds_toArray, List.set_cons_zero, List.set_cons_succ]))
                    (refine wpTree_qg 31 hTok hOps (by kernel_rfl) rfl rfl ⟨?_, ?_, ?_⟩; rotate_left; (focus (intro wx hSx; (try dsimp only at hSx); go_simp; (try with_reducible rfl))); (simp only [Act.put, List.setIfInBounds_toArray, List.set_cons_zero, List.set_cons_succ]))
                    (refine wpTree_qg 32 hTok hOps (by kernel_rfl) rfl rfl ⟨?_, ?_, ?_⟩; rotate_left; (focus (intro wx hSx; (try dsimp only at hSx); go_simp; (try with_reducible rfl))); (simp only [Act.put, List.setIfInBounds_toArray, List.set_cons_zero, List.set_cons_succ]))
                    (refine wpTree_qg 33 hTok hOps (by kernel_rfl) rfl rfl ⟨?_, ?_, ?_⟩; rotate_left; (focus (intro wx hSx; (try dsimp only at hSx); go_simp; (try with_reducible rfl))); (simp only [Act.put, List.setIfInBounds_toArray, List.set_cons_zero, List.set_cons_succ]))
                    (refine wpTree_qg 34 hTok hOps (by kernel_rfl) rfl rfl ⟨?_, ?_, ?_⟩; rotate_left; (focus (intro wx hSx; (try dsimp only at hSx); go_simp; (try with_reducible rfl))); (simp only [Act.put, List.setIfInBounds_toArray, List.set_cons_zero, List.set_cons_succ]))
                    (refine wpTree_qg 35 hTok hOps (by kernel_rfl) rfl rfl ⟨?_, ?_, ?_⟩; rotate_left; (focus (intro wx hSx; (try dsimp only at hSx); go_simp; rw [if_pos (by omega)])); (simp only [Act.put, List.setIfInBounds_toArray, List.set_cons_zero, List.set_cons_succ]))
                    (refine wpTree_qg 36 hTok hOps (by kernel_rfl) rfl rfl ⟨?_, ?_, ?_⟩; rotate_left; (focus (intro wx hSx; (try dsimp only at hSx); go_simp; (try with_reducible rfl))); (simp only [Act.put, List.setIfInBounds_toArray, List.set_cons_zero, List.set_cons_succ]))
                    (refine wpTree_qg 37 hTok hOps (by kernel_rfl) rfl rfl ⟨?_, ?_, ?_⟩; rotate_left; (focus (intro wx hSx; (try dsimp only at hSx); go_simp; (try with_reducible rfl))); (simp only [Act.put, List.setIfInBounds_toArray, List.set_cons_zero, List.set_cons_succ]))
                    (refine wpTree_qg 38 hTok hOps (by kernel_rfl) rfl rfl ⟨?_, ?_, ?_⟩; rotate_left; (focus (intro wx hSx; (try dsimp only at hSx); go_simp; (try with_reducible rfl))); (simp only [Act.put, List.setIfInBounds_toArray, List.set_cons_zero, List.set_cons_succ]))
                    (refine wpTree_qg 39 hTok hOps (by kernel_rfl) rfl rfl ⟨?_, ?_, ?_⟩; rotate_left; (focus (intro wx hSx; (try dsimp only at hSx); go_simp; (try with_reducible rfl))); (simp only [Act.put, List.setIfInBounds_toArray, List.set_cons_zero, List.set_cons_succ]))
                    refine wpTree_1g 21 hOps (by kernel_rfl) (by decide) rfl rfl (fun K' hK => ?_)
                    go_simp
                    refine (hTr.out _ b4).mono ?_
                    rintro e wv ⟨bn, tb, xt, cs', rfl, hT, hTc, hTl⟩
                    dsimp only
                    replace b4 := b4.trans (bn.mono b4.size)
                    clear bn
                    try dsimp only
                    refine hK.out _ _ (hcells.out _ b4) ?_
                    clear hK K'
                    try simp only [Act.put, List.setIfInBounds_toArray, List.set_cons_zero, List.set_cons_succ]
                    refine wpTree_1g 26 hOps (by kernel_rfl) (by decide) rfl rfl (fun K' hK => ?_)
                    go_simp
                    refine (hTd.out _ _ _ _ _ hT hTc hTl).mono ?_
                    rintro e wu ⟨rfl, bn⟩
                    dsimp only
                    replace b4 := b4.trans (bn.mono b4.size)
                    clear bn hT hTc hTl
                    try dsimp only
                    refine hK.out _ _ (hcells.out _ b4) ?_
                    clear hK K'
                    try simp only [Act.put, List.setIfInBounds_toArray, List.set_cons_zero, List.set_cons_succ]
                    refine wpTree_1g 40 hOps (by kernel_rfl) (by decide) rfl rfl (fun K' hK => ?_)
                    go_simp
                    refine (hD0.out _ b4).mono ?_
                    rintro e wt ⟨rfl, bn⟩
                    dsimp only
                    replace b4 := b4.trans (bn.mono b4.size)
                    clear bn
                    try dsimp only
                    refine hK.out _ _ (hcells.out _ b4) ?_
                    clear hK K'
                    try simp only [Act.put, List.setIfInBounds_toArray, List.set_cons_zero, List.set_cons_succ]
                    (refine wpTree_qg 41 hTok hOps (by kernel_rfl) rfl rfl ⟨?_, ?_, ?_⟩; rotate_left; (focus (intro wx hSx; (try dsimp only at hSx); go_simp; (try with_reducible rfl))); (simp only [Act.put, List.setIfInBounds_toArray, List.set_cons_zero, List.set_cons_succ]))
                    refine wpTree_nil hOps (by kernel_rfl) ?_
                    refine hT.out _ _ ?_
                    simp only [List.drop_succ_cons, List.drop_zero]
                    clear hOps hT hTok
                    try clear hHeld
                    have hIe := hI.below b4
                    clear hD1 hD2 hD0 hTr hTd hcells hI
                    go_wp2_with fail
                    go_roundw
                    case rel => exact ⟨j + 1, by omega, by omega, by go_num, hIe⟩
                    case measure => simp [intOf]; omega
                    -->D4
          -->L2
      case rest =>
        as_aux_lemma =>
          --<E5
          clear hI
          have hI := hcut
          clear hcut
          have hTr := true_any wc hI.gx hpg1.out hzi (by omega)
          replace hTr := Lib.hid hTr
          go_wp2_with fail
          refine hTr.out.mono ?_
          rintro e wT ⟨bT, tb, xt, cs', rfl, hT, hTc, hTl⟩
          clear hTr
          dsimp only
          go_upto_region 32 with fail
          refine Code.wp_world ?_
          intro w5 hw5
          have hb5 : Below wT.heap.size wT w5 := by rw [hw5]; exact below_allocJ _ _
          have hN5 : Blk w5 wT.heap.size #[.int .i64 0] 3 := by rw [hw5]; exact Blk.new _ _ _
          have hs5 : w5.heap.size = wT.heap.size + 1 := by rw [hw5]; simp
          clear hw5
          go_wp2_with fail
          refine (tall_any tb w5).mono ?_
          rintro e w6 ⟨rfl, hw6⟩
          have hb6 : Below w5.heap.size w5 w6 := by rw [hw6]; exact below_allocJ _ _
          have hB6 : Blk w6 w5.heap.size #[.pointer (some ⟨tb, 0, none⟩)] 61 := by rw [hw6]; exact Blk.new _ _ _
          have hN6 := hN5.below hb6 hN5.lt
          have hs6 : w6.heap.size = w5.heap.size + 1 := by rw [hw6]; simp
          have hTw := (hT.below hb5).below hb6
          have hA := (hAk.tr).all hP.out hT.nodup (fun p hp => (hT.nz p hp).1) hTc
          have hb06 : Below wT.heap.size wT w6 := hb5.trans (hb6.mono hb5.size)
          obtain ⟨nx, hnx⟩ : ∃ nx, nx = wT.heap.size := ⟨_, rfl⟩
          obtain ⟨bq, hbq⟩ : ∃ bq, bq = w5.heap.size := ⟨_, rfl⟩
          rw [← hnx] at hN6 ⊢
          rw [← hbq] at hB6 ⊢
          have hq6 : bq < w6.heap.size := hB6.lt
          have hnx6 : nx < bq := by omega
          have hnxT : wT.heap.size ≤ nx := Nat.le_of_eq hnx.symm
          have hLc := hA.len
          obtain ⟨L, hL⟩ : ∃ L, L = V kk := ⟨_, rfl⟩
          rw [← hL] at hA hLc
          obtain ⟨va, vc, hvt, hvz⟩ := hI.rg.view (i := kk) (by omega)
          rw [← hL] at hvt hvz
          obtain ⟨nL, hnL⟩ : ∃ nL, nL = L.length := ⟨_, rfl⟩
          rw [← hnL] at hvt
          replace hnx := Lib.hid hnx
          replace hbq := Lib.hid hbq
          replace hs5 := Lib.hid hs5
          replace hs6 := Lib.hid hs6
          replace hA := Lib.hid hA
          replace hLc := Lib.hid hLc
          replace hL := Lib.hid hL
          replace hnL := Lib.hid hnL
          clear hw6 hb5 hN5 hb6
          dsimp only
          go_wp2_with fail
          have hst := tall_stops (8 - 1) (by omega) bq tb w6 (hB6.cellAt rfl) hTw (by omega)
          refine (wpIn_wide (n := 8)).1 ?_
          refine wpIn_act (fun a0 ha0 => ?_)
          refine wpIn_rangeFunc_ownH (α := CountOf cs') rfl (by omega) (gf := 43) (lb := #[.pointer (some ⟨bq, 0, none⟩)]) rfl trivial (enters_of Tryz.func43 (by kernel_rfl) rfl)
            hst KeepIt.trans (fun W l o o' h1 h2 h3 h4 => KeepIt.put o' (by omega) h2 h3 h4) (Below.refl _ _) (fun _ => rfl)
            (RunI wT w6 nx L)
            (fun c pre W => c = .ret ∧ ¬ pre.map (·.1) <+: L)
            (RunI.own (by have := hb06.size; omega)) ?hIx ⟨hN6, List.nil_prefix, hb06, Nat.le_refl _⟩
            (fun x a' W => ∃ Bx, w6.heap.size ≤ Bx ∧ Blk W Bx (encK x.1).toArray 67 ∧ a' = (a0.put (some 208) (mkK x.1)).put (some 18) (.pointer (some ⟨Bx, 0, none⟩)))
            ?hAx ?assign ?body ?done ?stop
          case hIx =>
            rintro c s X2 Y2 row ⟨rfl, h⟩ hg hr
            exact ⟨rfl, h⟩
          case hAx =>
            rintro x a' s X2 Y2 row ⟨Bx, h1, h2, h3⟩ hg hr
            exact ⟨Bx, h1, h2.grownN hg (fun r e => (hr r e).2), h3⟩
          case assign =>
            rintro l pre x W K ⟨h1, h2, h3, h4⟩ hK
            obtain ⟨c, hc⟩ : ∃ c, c = x.1 := ⟨_, rfl⟩
            rw [← hc] at hK ⊢
            obtain ⟨⟨cl, ⟨ce, cr⟩⟩, cn⟩ := c
            dsimp only [mkK] at hK ⊢
            gi_wp2
            have hch : Chg (fun _ => False) W (W.alloc (.cells #[.int .i64 cl, .int .i64 ce, .int .i64 cr, .int .i64 cn] 67)) := (Chg.refl _ _).alloc _
            exact hK _ _ (keepsFrom_of_chg hch (fun _ h _ => h.elim)) (KeepIt.of_chg hch (fun _ h _ => h.elim)) ⟨h1.alloc _, h2, h3.alloc h3.size _, Nat.le_trans h4 hch.size⟩ ⟨W.heap.size, h4, Blk.new _ _ _, by rw [ha0.out]; rfl⟩
          case body =>
            as_aux_lemma =>
              --<BD
              rintro l pre x a' W hl ⟨r, hr⟩ ⟨hnb0, hpx, hbW, hzW⟩ ⟨Bx, hBx, hX, rfl⟩ hlt
              rw [ha0.out]
              obtain ⟨j, hj⟩ : ∃ j, j = pre.length := ⟨_, rfl⟩
              rw [← hj] at hnb0 hlt
              have hjL : j < L.length := by rw [hLc.out]; exact hlt
              have hjn : j < nL := by rw [hnL.out]; exact hjL
              obtain ⟨c, hc⟩ : ∃ c, c = x.1 := ⟨_, rfl⟩
              have hxc : c.fS ∈ cs'.map Prod.fst ∧ c.fN = cntC cs' c.fS := by rw [hc]; exact x.2
              rw [← hc] at hX ⊢
              have hbcW := bT.trans (hbW.mono bT.size)
              have hIW := hI.below hbcW
              have hsW := hvz.sla.imp hbcW hbcW.size (fun _ _ _ h => RCount.imp h hbcW hbcW.size)
              have hvW := hvt.below hbcW
              obtain ⟨b2, off2, rfl, hb2l, _⟩ := hsW.addr (by omega)
              obtain ⟨y, hy⟩ : ∃ y, L[j] = y := ⟨_, rfl⟩
              obtain ⟨e0, e1, e2, e3, _⟩ := RCount.at hsW hjL hy
              have hyv : y.fN = cntC cs' y.fS := hA.out.val y (by rw [← hy]; exact List.getElem_mem hjL)
              have c1 := hvW.c1
              have m0c := hIW.mbb.cellAt (i := 0) (v := .pointer (some ⟨q.rb, 0, none⟩)) rfl
              have k1c := hIW.rg.cells.2.1
              have k2c := hIW.rg.cells.2.2.1
              have nc := hnb0.cellAt (i := 0) (v := .int .i64 j) rfl
              have x0 := hX.cellAt (i := 0) (v := .int .i64 c.fS.fLoc) rfl
              have x1 := hX.cellAt (i := 1) (v := .int .i64 c.fS.fT.fEpoch) rfl
              have x2 := hX.cellAt (i := 2) (v := .int .i64 c.fS.fT.fRound) rfl
              have x3 := hX.cellAt (i := 3) (v := .int .i64 c.fN) rfl
              have d1 : decide (nL ≤ j) = false := by simp; omega
              have d2 : decide ((nL : Int) ≤ (j : Int)) = false := by simp; omega
              have w_c1 := Wd.cell c1 (World.lt_of_cell c1)
              have w_m0 := Wd.cell m0c (World.lt_of_cell m0c)
              have w_k1 := Wd.cell k1c (World.lt_of_cell k1c)
              have w_k2 := Wd.cell k2c (World.lt_of_cell k2c)
              have w_nc := Wd.cell nc (World.lt_of_cell nc)
              have w_x0 := Wd.cell x0 (World.lt_of_cell x0)
              have w_x1 := Wd.cell x1 (World.lt_of_cell x1)
              have w_x2 := Wd.cell x2 (World.lt_of_cell x2)
              have w_x3 := Wd.cell x3 (World.lt_of_cell x3)
              have w_e0 := Wd.cell e0 (World.lt_of_cell e0)
              have w_e1 := Wd.cell e1 (World.lt_of_cell e1)
              have w_e2 := Wd.cell e2 (World.lt_of_cell e2)
              have w_e3 := Wd.cell e3 (World.lt_of_cell e3)
              have hrzW := hIW.rzb
              have hnxl := hnb0.lt
              by_cases hcy : c = y
              · obtain rfl := hcy
                have hpn : (pre ++ [x]).map (·.1) <+: L := by
                  rw [List.map_append, List.map_singleton, ← hc]
                  exact prefix_snoc hpx (by rw [List.length_map, ← hj]; exact hjL) (by simp only [List.length_map, ← hj]; exact hy)
                have hsame : ∀ W', _ := fun W' => rsame_tt c.fS.fLoc c.fS.fT.fEpoch c.fS.fT.fRound W'
                have d3 : (c.fN != c.fN) = false := by simp
                replace hsame := Lib.hid hsame
                replace hpn := Lib.hid hpn
                replace hj := Lib.hid hj
                clear hy hyv hxc hsW hX hpx hc hr hvW hIW
                simp only [Act.put, List.setIfInBounds_toArray, List.set_cons_zero, List.set_cons_succ]
                gi_wp2
                refine round_region_below_tail _ 54 (by kernel_rfl) (fun h => by obtain ⟨a, w, h⟩ := h; exact h) (by kernel_rfl) (by kernel_rfl) ?_
                simp only [List.take_succ_cons, List.take_zero, List.drop_succ_cons, List.drop_zero]
                repeat (go_big_quiet_step (first | (go_at_call 22; exact Calls.quiet_below (hsame.out _))))
                refine wpQuiet_nil ?_
                rintro _ ⟨u, rfl⟩
                obtain ⟨w8, hw8⟩ : ∃ w8, w8 = u.v := ⟨_, rfl⟩
                have hb8 : Below W.heap.size W w8 := by rw [hw8]; exact u.h
                rw [← hw8]
                clear hw8 w_c1 w_m0 w_k1 w_k2 w_nc w_x0 w_x1 w_x2 w_x3 w_e0 w_e1 w_e2 w_e3
                clear u c1 m0c k1c k2c nc x0 x1 x2 x3 e0 e1 e2 e3
                have hn8 := hnb0.below hb8 hnxl
                have nc := hn8.cellAt (i := 0) (v := .int .i64 j) rfl
                have ncf := hn8.frozen 0
                have hset : Blk (w8.setCell ⟨nx, 0, none⟩ (.int .i64 ((j : Int) + 1))) nx #[.int .i64 ((j : Int) + 1)] 3 := hn8.set 0 (.int .i64 ((j : Int) + 1))
                have hch : Chg (fun i => W.heap.size ≤ i ∨ i = nx) W (w8.setCell ⟨nx, 0, none⟩ (.int .i64 ((j : Int) + 1))) := ((Chg.of_below hb8).mono (fun i _ h => .inl h)).setCell _ _ (fun _ => .inr rfl)
                have hkf : KeepsFrom w6.heap.size W (w8.setCell ⟨nx, 0, none⟩ (.int .i64 ((j : Int) + 1))) := keepsFrom_of_chg hch (fun i hi hil => by
                  rcases hi with h | rfl
                  · omega
                  · exact ⟨_, _, _, hnb0⟩)
                have hki : KeepIt bq w6.heap.size W (w8.setCell ⟨nx, 0, none⟩ (.int .i64 ((j : Int) + 1))) := KeepIt.of_chg hch (fun i hi hil => by
                  rcases hi with h | rfl
                  · omega
                  · exact ⟨by omega, .inl (by omega)⟩)
                have hbs : Below wT.heap.size wT (w8.setCell ⟨nx, 0, none⟩ (.int .i64 ((j : Int) + 1))) := Below.setCell (hbW.trans (hb8.mono hbW.size)) (p := ⟨nx, 0, none⟩) hnxT _
                have hI8 : RunI wT w6 nx L (pre ++ [x]) (w8.setCell ⟨nx, 0, none⟩ (.int .i64 ((j : Int) + 1))) := ⟨by rw [List.length_append, List.length_singleton, ← hj.out]; exact hset, hpn.out, hbs, Nat.le_trans hzW hch.size⟩
                replace hI8 := Lib.hid hI8
                replace hkf := Lib.hid hkf
                replace hki := Lib.hid hki
                clear hset hch hbs hn8 hb8 hbW hsame hpn hrzW
                go_wp2_with fail
                gi_wp2
                exact ⟨hkf.out, hki.out, hI8.out⟩
              · have hfs : c.fS ≠ y.fS := fun e => hcy (by
                  have h1 := hxc.2
                  rw [e, ← hyv] at h1
                  cases c; cases y; simp_all)
                have hnp : ¬ (pre ++ [x]).map (·.1) <+: L := fun h => hcy (by
                  have := h.getElem (i := j) (by simp [hj])
                  simp [hj] at this
                  rw [← hy, hc, this]
                  congr 1
                  exact hj.symm)
                have hsame : ∀ W', _ := fun W' => rsame_any c.fS y.fS W'
                rw [show decide (c.fS = y.fS) = false by simpa using hfs] at hsame
                replace hsame := Lib.hid hsame
                replace hnp := Lib.hid hnp
                replace hj := Lib.hid hj
                clear hy hyv hxc hsW hX hpx hc hr hcy hfs hvW hIW
                simp only [Act.put, List.setIfInBounds_toArray, List.set_cons_zero, List.set_cons_succ]
                gi_wp2
                refine round_region_below_tail _ 54 (by kernel_rfl) (fun h => by obtain ⟨a, w, h⟩ := h; exact h) (by kernel_rfl) (by kernel_rfl) ?_
                simp only [List.take_succ_cons, List.take_zero, List.drop_succ_cons, List.drop_zero]
                repeat (go_big_quiet_step (first | (go_at_call 22; exact Calls.quiet_below (hsame.out _))))
                refine wpQuiet_nil ?_
                rintro _ ⟨u, rfl⟩
                obtain ⟨w8, hw8⟩ : ∃ w8, w8 = u.v := ⟨_, rfl⟩
                have hb8 : Below W.heap.size W w8 := by rw [hw8]; exact u.h
                rw [← hw8]
                clear hw8 w_c1 w_m0 w_k1 w_k2 w_nc w_x0 w_x1 w_x2 w_x3 w_e0 w_e1 w_e2 w_e3
                clear u c1 m0c k1c k2c nc x0 x1 x2 x3 e0 e1 e2 e3
                have hr8 := hrzW.below hb8 hrzW.lt
                have cr := hr8.cellAt (i := 0) (v := .bool false) rfl
                have crf := hr8.frozen 0
                have hch : Chg (fun i => W.heap.size ≤ i ∨ i = rz) W (w8.setCell ⟨rz, 0, none⟩ (.bool false)) := ((Chg.of_below hb8).mono (fun i _ h => .inl h)).setCell _ _ (fun _ => .inr rfl)
                have hkf : KeepsFrom w6.heap.size W (w8.setCell ⟨rz, 0, none⟩ (.bool false)) := keepsFrom_of_chg hch (fun i hi hil => by
                  rcases hi with h | rfl
                  · omega
                  · exact ⟨_, _, _, hrzW⟩)
                replace hkf := Lib.hid hkf
                clear hch hr8 hb8 hbW hsame hrzW
                go_wp2_with fail
                gi_wp2
                exact ⟨hkf.out, rfl, hnp.out⟩
              -->BD
          case done =>
            as_aux_lemma =>
              --<DN
              rintro D ys W hD hys ⟨hnb0, hpx, hbW, hzW⟩ hK
              have hyl : ys.length = nL := by
                have := hys.unique hA.out
                rw [hnL.out, ← this, List.length_map]
              rw [hyl] at hnb0
              have hbcW := bT.trans (hbW.mono bT.size)
              have hIW := hI.below hbcW
              have hvW := hvt.below hbcW
              have c1 := hvW.c1
              have m0c := hIW.mbb.cellAt (i := 0) (v := .pointer (some ⟨q.rb, 0, none⟩)) rfl
              have k1c := hIW.rg.cells.2.1
              have k2c := hIW.rg.cells.2.2.1
              have nc := hnb0.cellAt (i := 0) (v := .int .i64 nL) rfl
              have w_c1 := Wd.cell c1 (World.lt_of_cell c1)
              have w_m0 := Wd.cell m0c (World.lt_of_cell m0c)
              have w_k1 := Wd.cell k1c (World.lt_of_cell k1c)
              have w_k2 := Wd.cell k2c (World.lt_of_cell k2c)
              have w_nc := Wd.cell nc (World.lt_of_cell nc)
              have hmn := hAk.hn
              have hDn : ∀ u : Wd W, Calls Tryz.prog 17 #[.pointer (some ⟨g1, 0, none⟩), .int .i64 (kk : Int), .agg #[.int .i64 0, .int .i64 0, .int .i64 0]] u.v fun e w'' => e = .returned (.bool false) ∧ Below u.v.heap.size u.v w'' := fun u => by
                have := gdone_any (kk : Int) ⟨0, ⟨0, 0⟩⟩ (hIW.below u.h).gx (by omega)
                rw [decide_eq_false (show ¬ ((0 : Int) ≤ (kk : Int) ∧ (kk : Int) < (m.n : Int)) by rw [hmn]; omega), Bool.false_and] at this
                exact this
              have hFn : ∀ u : Wd W, Calls Tryz.prog 14 #[.pointer (some ⟨g1, 0, none⟩), .int .i64 (-1), .int .i64 0] u.v fun e w'' => e = .returned (.slice none 0 0) ∧ Below u.v.heap.size u.v w'' := fun u => (gfront_any (-1) 0 (hIW.below u.h).gx (by omega)).mono (fun e w' h => ⟨h.2.2 (by omega), h.1⟩)
              have hrzW := hIW.rzb
              have hMk := marks_one (B := w.heap.size) (w := W) (D := D) (by have := hI.bel.size; have := hbcW.size; have := bT.size; have := hb06.size; omega) hK
              have hbW0 := hI.bel.trans (hbcW.mono hI.bel.size)
              replace hDn := Lib.hid hDn
              replace hFn := Lib.hid hFn
              clear hst hK hys hyl hpx hIW hvW hmn
              dsimp only
              have deq : ((nL : Int) == (nL : Int)) = true := by simp
              have hgz := hI.geZ
              go_upto_region 37 with fail
              refine wp_region_below_tail 30 (by kernel_rfl) (by kernel_rfl) ?_
              simp only [List.take_succ_cons, List.take_zero, List.drop_succ_cons, List.drop_zero]
              repeat (go_big_quiet_step (first | (go_at_call 17; exact Calls.quiet_below (hDn.out _)) | (go_at_call 14; exact Calls.quiet_below (hFn.out _))))
              refine wpQuiet_nil ?_
              rintro _ ⟨u, rfl⟩
              obtain ⟨w8, hw8⟩ : ∃ w8, w8 = u.v := ⟨_, rfl⟩
              have hb8 : Below W.heap.size W w8 := by rw [hw8]; exact u.h
              rw [← hw8]
              clear hw8 w_c1 w_m0 w_k1 w_k2 w_nc
              clear u c1 m0c k1c k2c nc
              have hr8 := hrzW.below hb8 hrzW.lt
              have cr := hr8.cellAt (i := 0) (v := .bool false) rfl
              have crf := hr8.frozen 0
              have hM8 := hMk.chg (Chg.of_below hb8) (fun j hj x h => by have := (Array.getElem?_eq_some_iff.1 h).1; omega)
              have hM9 := hM8.chg ((Chg.refl (fun j => j = rz) w8).setCell ⟨rz, 0, none⟩ (.bool true) (fun _ => rfl)) (fun j e x => by rw [e]; exact hr8.noDef x)
              have hbE : Below w.heap.size w (w8.setCell ⟨rz, 0, none⟩ (.bool true)) := Below.setCell (hbW0.trans (hb8.mono hbW0.size)) (p := ⟨rz, 0, none⟩) hgz.1 _
              have hr5 := (hr8.set 0 (.bool true)).cellAt (i := 0) (v := .bool true) rfl
              clear hb8 hMk hM8 hDn hFn hbW hbW0 hbcW
              go_wp2_with fail
              refine leavesM_marks _ _ hM9 hbE.size (fun w' hs => ?_)
              have hr6 := hs.cell hr5
              exact ⟨.bool true, by simp [results, Tryz.results3, go_sem, hr6], rfl, hbE.trans hs.below⟩
              -->DN
          case stop =>
            rintro D c pre W hD ⟨L', hL', hp⟩ ⟨_, hnp⟩ hK
            exact absurd (by rw [← hL'.unique hA.out]; exact hp) hnp
          -->E5
end Go.Proofs.YtjmbafcpbagpdaaGreat
