/- Model: the walk of ModelAlone. -/
import Derived.Test.YtbianedgogdeeaaNa
import Derived.Test.YtbianedgogdeeaaNc
namespace Go.Proofs.Ytbianedgogdeeaa
open Go.RowKit Go.Maps Fold Go.Lib
attribute [local go_sem] Oper.semAt_some
set_option linter.unusedVariables false
set_option linter.unusedSimpArgs false

theorem wrap64_small {a : Int} (h0 : 0 ≤ a) (h1 : a < 9223372036854775808) : IntKind.i64.wrap a = a := by
  exact IntWalk.i64_in _ (by omega)
theorem flat_len {α β : Type} {f : α → List β} {m : Nat} (h : ∀ x, (f x).length ≤ m) : ∀ (l : List α) {n : Nat}, l.length ≤ n → (l.flatMap f).length ≤ m * n
  | [], n, _ => Nat.zero_le _
  | x :: r, n, hn => by
    rw [List.length_cons] at hn
    have h1 := flat_len h r (n := n - 1) (by omega)
    rw [List.flatMap_cons, List.length_append]
    have h2 := h x
    have h3 : m * n = m + m * (n - 1) := by
      obtain ⟨q, rfl⟩ : ∃ q, n = q + 1 := ⟨n - 1, by omega⟩
      rw [Nat.add_sub_cancel, Nat.mul_add, Nat.mul_one, Nat.add_comm]
    omega

set_option maxRecDepth 100000 in
set_option maxHeartbeats 1600000 in
theorem malone_walk (ops : List TOp) (recs : List TRecord) (ga ra : Option Addr) (gcap rcap : Nat) (w : World) (hx : SlA w.heap.size 7 (ROp w.heap.size) w ga gcap ops) (hr : SlA w.heap.size 5 (RRecord w.heap.size) w ra rcap recs) :
    Calls Try.prog 9 #[.agg #[.slice ga ops.length gcap], .slice ra recs.length rcap] w fun e w' => e = .returned (.bool true) ∧ Below w.heap.size w w' := by
  obtain ⟨iR, hiR, hR0, hR1, hR2⟩ := partsR
  obtain ⟨n, hn⟩ : ∃ n, n = recs.length := ⟨_, rfl⟩
  obtain ⟨go, hgo⟩ : ∃ go, go = ops.length := ⟨_, rfl⟩
  have hrl := hr.len
  have hxl := hx.len
  rw [← hn] at hrl
  rw [← hgo] at hxl
  have hrun : ∀ W, Below w.heap.size w W → ∀ (xs : List TRecord) (x : Option Addr) (cap' nx : Nat), nx = xs.length → SlA w.heap.size 5 (RRecord w.heap.size) w x cap' xs → ∀ (R : PRS × ST × Nat) (nm nb he : Nat), R = runM ops [] xs → nm = R.1.length → nb = R.2.1.length → he = R.2.2 →
      Calls Try.prog 10 #[.agg #[.slice ga go gcap], .agg #[.slice none 0 0], .slice x nx cap'] W (fun e w' => ∃ qa qac qb qbc, e = .returned (.tuple #[.slice qa nm qac, .agg #[.slice qb nb qbc], .int .i64 (he : Nat)]) ∧ OwnR w' W.heap.size (.slice qa nm qac) R.1 ∧ Below W.heap.size W w') := fun W hW xs x cap' nx hnx hs R nm nb he hR h1 h2 h3 => by
    have h := run_any ops [] xs ga none x gcap 0 cap' w.heap.size W hW.size (imp_ops hx hW) (SlA.nil _ _ _ _) (hs.imp hW (Nat.le_refl _) (fun _ _ _ h => h.imp hW (Nat.le_refl _))) (fun l hl => by cases hl) (fun l hl => by cases hl)
    rw [← hR, ← hgo, ← hnx] at h
    refine h.mono fun e w' hp => ?_
    obtain ⟨ao, ac, so', sc', rfl, p1, p2, p3⟩ := hp.own
    rw [h1, h2, h3]
    exact ⟨ao, ac, so', sc', rfl, p1, p3⟩
  rw [← hn, ← hgo]
  replace hn := Lib.hid hn
  replace hgo := Lib.hid hgo
  replace hrun := Lib.hid hrun
  go_enter Try.func9, Try.ntmps9
  go_upto_region 1 with fail
  refine Code.wp_world ?_
  intro w0 hw0
  have hb0 : Below w.heap.size w w0 := by rw [hw0]; exact belowAlloc _ _
  have hG0 : Blk w0 w.heap.size #[.slice ga go gcap] 24 := by rw [hw0]; exact Blk.new _ _ _
  obtain ⟨gb, hgb⟩ : ∃ gb, gb = w.heap.size := ⟨_, rfl⟩
  rw [← hgb] at hG0 ⊢
  have hkn := mknown_any w0
  replace hgb := Lib.hid hgb
  replace hkn := Lib.hid hkn
  clear hw0
  go_wp2_with fail
  refine hkn.out.mono ?_
  rintro e w1 ⟨rfl, hb1⟩
  have hG1 := hG0.below hb1 hG0.lt
  have hbw1 := hb0.trans (hb1.mono hb0.size)
  clear hkn hG0 hb0 hb1
  dsimp only
  go_wp2_with fail
  go_loopw [5] (fun x5 wr => ∃ i : Nat, i ≤ go ∧ x5 = .int .i64 i ∧ Below w1.heap.size w1 wr ∧ Hid (∀ j (hj : j < ops.length), j < i → ops[j].fKind ≠ 4 ∧ ops[j].fKind ≠ 5)) (fun x5 _ => go - (intOf x5).toNat)
  case atStart => exact ⟨0, Nat.zero_le _, rfl, Below.refl _ _, Lib.hid (fun j _ h => absurd h (Nat.not_lt_zero _))⟩
  case round =>
    obtain ⟨i, hi, rfl, hbi, hpre⟩ := hrel
    have hbw := hbw1.trans (hbi.mono hbw1.size)
    have hG := hG1.below hbi hG1.lt
    have g0 := hG.cellAt (i := 0) (v := .slice ga go gcap) rfl
    by_cases hin : i < go
    · have d1 : decide ((i : Int) < (go : Int)) = true := by simp; omega
      have hil : i < ops.length := by rw [← hgo.out]; exact hin
      obtain ⟨xb, xo, rfl, hxb, _⟩ := hx.addr (by omega)
      obtain ⟨cs, -, hc, ia, ic, hcs, -⟩ := hx.get i hil
      have k0 : wr.cell? ⟨xb, xo + i * 7, none⟩ = some (.int .i64 ops[i].fKind) := (hbw.cell (p := ⟨xb, xo + i * 7, none⟩) hxb).trans (by rw [hcs] at hc; simpa using hc 0 (by omega))
      obtain ⟨kd, hkd⟩ : ∃ kd, kd = ops[i].fKind := ⟨_, rfl⟩
      rw [← hkd] at k0
      replace hkd := Lib.hid hkd
      clear hc hcs
      by_cases h4 : kd = 4
      · subst h4
        go_wp2_with fail
        go_ret
        exact ⟨rfl, hbw⟩
      · have e4 : ((kd : Int) == 4) = false := by simpa using h4
        by_cases h5 : kd = 5
        · subst h5
          go_wp2_with fail
          go_ret
          exact ⟨rfl, hbw⟩
        · have e5 : ((kd : Int) == 5) = false := by simpa using h5
          have hpre' : Hid (∀ j (hj : j < ops.length), j < i + 1 → ops[j].fKind ≠ 4 ∧ ops[j].fKind ≠ 5) := Lib.hid (fun j hj hji => by
            by_cases e : j = i
            · subst e
              rw [← hkd.out]
              exact ⟨h4, h5⟩
            · exact hpre.out j hj (by omega))
          clear hpre
          go_wp2_with fail
          go_roundw
          case rel => exact ⟨i + 1, by omega, by go_num, hbi, hpre'⟩
          case measure => simp [intOf]; omega
    · have d1 : decide ((i : Int) < (go : Int)) = false := by simp; omega
      have hkind : Hid (∀ o ∈ ops, o.fKind ≠ 4 ∧ o.fKind ≠ 5) := Lib.hid (fun o ho => by
        obtain ⟨j, hj, rfl⟩ := List.mem_iff_getElem.1 ho
        exact hpre.out j hj (by have := hgo.out; omega))
      clear hpre hbi hbw1 hG1 hx
      obtain ⟨wo, rfl⟩ : ∃ wo, wo = wr := ⟨_, rfl⟩
      go_upto_if 41 with fail
      go_cut [1] from 42 to 43 (fun s1 wx => ∃ nl, s1 = .slice ra nl rcap ∧ nl ≤ 30 ∧ wx = wo ∧ (∃ L : List TRecord, nl = L.length ∧ SlA w.heap.size 5 (RRecord w.heap.size) w ra rcap L))
      case first =>
        by_cases h30 : 30 < n
        · have d2 : decide ((30 : Int) < (n : Int)) = true := by simp; omega
          have hcap : 30 ≤ rcap := by have := hr.1; have := hn.out; omega
          obtain ⟨rb, roff, rfl, hrb, _⟩ := hr.addr (by have := hn.out; omega)
          go_wp2_with fail
          go_meet
          case rel => exact ⟨30, rfl, Nat.le_refl _, rfl, recs.take 30, by rw [List.length_take]; have := hn.out; omega, slaTake hr 30⟩
        · have d2 : decide ((30 : Int) < (n : Int)) = false := by simp; omega
          go_wp2_with fail
          go_meet
          case rel => exact ⟨n, rfl, by omega, rfl, recs, hn.out, hr⟩
      case rest =>
        obtain ⟨nl, rfl, hnl30, hwc, L, hnl, hL⟩ := hcut
        obtain ⟨wd, hwd⟩ : ∃ wd, wd = wc := ⟨_, rfl⟩
        rw [← hwd] at hwc ⊢
        clear hwd
        obtain rfl : wo = wd := hwc.symm
        obtain ⟨R, hR⟩ : ∃ R, R = runM ops [] L := ⟨_, rfl⟩
        obtain ⟨nm, hnm⟩ : ∃ nm, nm = R.1.length := ⟨_, rfl⟩
        obtain ⟨nb, hnb⟩ : ∃ nb, nb = R.2.1.length := ⟨_, rfl⟩
        obtain ⟨he, hhe⟩ : ∃ he, he = R.2.2 := ⟨_, rfl⟩
        have hrun1 := hrun.out wo hbw L ra rcap nl hnl hL R nm nb he hR hnm hnb hhe
        replace hR := Lib.hid hR
        replace hnm := Lib.hid hnm
        replace hnb := Lib.hid hnb
        replace hhe := Lib.hid hhe
        replace hrun1 := Lib.hid hrun1
        have hLc := hL.1
        rw [← hnl] at hLc
        replace hnl := Lib.hid hnl
        clear hr
        go_wp2_with (go_at_call 10; refine Shut.out ?kr)
        unfold Shut
        refine hrun1.out.mono ?_
        rintro e w2 ⟨qa, qac, qb, qbc, rfl, hM2, hb2⟩
        have hG2 := hG.below hb2 hG.lt
        have hbw2 := hbw.trans (hb2.mono hbw.size)
        have hM2b : OwnR w2 w.heap.size (.slice qa nm qac) R.1 := OwnL.base_le hM2 hbw.size
        clear hrun1 hb2 hM2 hG g0 hbw
        dsimp only
        go_upto_region 11 with fail
        refine Code.wp_world ?_
        intro w3 hw3
        have hb3 : Below w2.heap.size w2 w3 := by rw [hw3]; exact belowAlloc _ _
        have hM3 := OwnL.below hM2b hb3 (Nat.le_refl _)
        have hG3 := hG2.below hb3 hG2.lt
        have hZ3 : Blk w3 w2.heap.size #[.slice qb nb qbc] 27 := by rw [hw3]; exact Blk.new _ _ _
        have hbw3 := hbw2.trans (hb3.mono hbw2.size)
        obtain ⟨zb, hzb⟩ : ∃ zb, zb = w2.heap.size := ⟨_, rfl⟩
        rw [← hzb] at hZ3 ⊢
        replace hzb := Lib.hid hzb
        clear hw3 hM2b hG2 hbw2 hb3
        by_cases hE : he = 0
        · subst hE
          have halone := runM_alone (recs := L) hkind.out (by rw [← hR.out, ← hhe.out])
          rw [← hR.out] at halone
          have hone := Lib.hid halone.1
          have hsort := Lib.hid halone.2
          have hnml := (OwnR.rd hM3).2.len
          rw [← hnm.out] at hnml
          clear halone hZ3
          rw [show ((0 : Nat) : Int) = 0 from rfl]
          go_wp2_with fail
          go_loopw [9, 10] (fun x9 x10 wr => ∃ k : Nat, k ≤ nl ∧ x10 = .int .i64 k ∧ OwnR wr w3.heap.size x9 ((L.take k).flatMap (fun r => (runM ops [] [r]).1)) ∧ Below w3.heap.size w3 wr) (fun _ x10 _ => nl - (intOf x10).toNat)
          case atStart => exact ⟨0, Nat.zero_le _, rfl, OwnL.nil encR w3 w3.heap.size 53 2, Below.refl _ _⟩
          case round =>
            obtain ⟨k, hk, rfl, hO, hbk⟩ := hrel
            obtain ⟨w6, rfl⟩ : ∃ w6, w6 = wr := ⟨_, rfl⟩
            have hG6 := hG3.below hbk hG3.lt
            have hbw6 := hbw3.trans (hbk.mono hbw3.size)
            have hall30 : ((L.take k).flatMap (fun r => (runM ops [] [r]).1)).length ≤ 4096 * 30 := flat_len (fun r => runM_len ops [] [r]) (L.take k) (by rw [List.length_take]; omega)
            obtain ⟨A, hA⟩ : ∃ A, A = (L.take k).flatMap (fun r => (runM ops [] [r]).1) := ⟨_, rfl⟩
            rw [← hA] at hO hall30
            obtain ⟨oa, oac, rfl, -⟩ := OwnR.pra hO
            obtain ⟨nA, hnA⟩ : ∃ nA, nA = A.length := ⟨_, rfl⟩
            rw [← hnA] at hO hall30 ⊢
            replace hnA := Lib.hid hnA
            have hO6 := hO
            replace hA := Lib.hid hA
            clear hO
            by_cases hkn : k < nl
            · have d7 : decide ((k : Int) < (nl : Int)) = true := by simp; omega
              have hkl : k < L.length := by rw [← hnl.out]; exact hkn
              obtain ⟨rb, roff, rfl, hrb, _⟩ := hL.addr (by omega)
              obtain ⟨Uk, hT⟩ : ∃ Uk, Uk = runM ops [] [L[k]] := ⟨_, rfl⟩
              obtain ⟨tm, htm⟩ : ∃ tm, tm = Uk.1.length := ⟨_, rfl⟩
              obtain ⟨tb, htb⟩ : ∃ tb, tb = Uk.2.1.length := ⟨_, rfl⟩
              have hte : (0 : Nat) = Uk.2.2 := by rw [hT]; exact (hone.out _ (List.getElem_mem hkl)).symm
              have hLk : SlA w.heap.size 5 (RRecord w.heap.size) w (some ⟨rb, roff + k * 5, none⟩) (rcap - k) [L[k]] := by
                have h1 := slaTake (slaDrop hL k (by omega) (some ⟨rb, roff + k * 5, none⟩) (rcap - k) (.inl ⟨rfl, rfl⟩)) 1
                rwa [List.drop_eq_getElem_cons hkl] at h1
              have hAn : (L.take (k + 1)).flatMap (fun r => (runM ops [] [r]).1) = A ++ Uk.1 := by
                rw [List.take_succ_eq_append_getElem hkl, List.flatMap_append, hA.out, hT]
                simp
              have html : tm ≤ 4096 := by rw [htm, hT]; exact runM_len _ _ _
              have hrunT : ∀ W, Below w6.heap.size w6 W → Calls Try.prog 10 #[.agg #[.slice ga go gcap], .agg #[.slice none 0 0], .slice (some ⟨rb, roff + k * 5, none⟩) 1 (rcap - k)] W (fun e w' => ∃ qa qac qb qbc, e = .returned (.tuple #[.slice qa tm qac, .agg #[.slice qb tb qbc], .int .i64 0]) ∧ OwnR w' w.heap.size (.slice qa tm qac) Uk.1 ∧ Below W.heap.size W w') := fun W hW => by
                have hbW := hbw6.trans (hW.mono hbw6.size)
                refine (hrun.out W hbW [L[k]] (some ⟨rb, roff + k * 5, none⟩) (rcap - k) 1 rfl hLk Uk tm tb 0 hT htm htb hte).mono ?_
                rintro e w' ⟨qa, qac, qb, qbc, rfl, h1, h2⟩
                exact ⟨qa, qac, qb, qbc, rfl, OwnL.base_le h1 hbW.size, h2⟩
              replace hT := Lib.hid hT
              replace htm := Lib.hid htm
              replace htb := Lib.hid htb
              replace hte := Lib.hid hte
              replace hAn := Lib.hid hAn
              replace hrunT := Lib.hid hrunT
              have hrck : ¬ rcap = k := by omega
              have hkw : IntKind.i64.wrap ((k : Int) + 1) = (k : Int) + 1 := wrap64_small (by omega) (by omega)
              have hkt : ((k : Int) + 1).toNat = k + 1 := by omega
              have hk0 : (0 : Int) ≤ (k : Int) + 1 := by omega
              have hkr : (k : Int) + 1 ≤ (rcap : Int) := by omega
              have hkk : k + 1 - k = 1 := by omega
              have hd6 : Below w6.heap.size w6 w6.drew := (Below.refl _ _).drew
              have g6 := hG6.cellAt (i := 0) (v := .slice ga go gcap) rfl
              clear hLk hrb hM3 hG3 hbw3
              go_upto_region 17 with fail
              refine wp_region_tree (fun wx => wx.cell? ⟨gb, 0, none⟩ = some (.slice ga go gcap)) 15 16 (by kernel_rfl) rfl (by kernel_rfl) (fun d _ _ _ _ h => by cases d <;> exact h) (g6) (fun opz T hOps hT hTok hHeld => ?_)
              (refine wpTree_q 0 hTok hOps (by kernel_rfl) rfl rfl ⟨?_, ?_, ?_⟩; rotate_left; (focus (intro wx hSx; (try dsimp only at hSx); go_simp; (try with_reducible rfl))); (simp only [Act.put, List.setIfInBounds_toArray, List.set_cons_zero, List.set_cons_succ]))
              (refine wpTree_q 1 hTok hOps (by kernel_rfl) rfl rfl ⟨?_, ?_, ?_⟩; rotate_left; (focus (intro wx hSx; (try dsimp only at hSx); go_simp; (try with_reducible rfl))); (simp only [Act.put, List.setIfInBounds_toArray, List.set_cons_zero, List.set_cons_succ]))
              (refine wpTree_q 2 hTok hOps (by kernel_rfl) rfl rfl ⟨?_, ?_, ?_⟩; rotate_left; (focus (intro wx hSx; (try dsimp only at hSx); go_simp; (try with_reducible rfl))); (simp only [Act.put, List.setIfInBounds_toArray, List.set_cons_zero, List.set_cons_succ]))
              (refine wpTree_q 3 hTok hOps (by kernel_rfl) rfl rfl ⟨?_, ?_, ?_⟩; rotate_left; (focus (intro wx hSx; (try dsimp only at hSx); go_simp; (try with_reducible rfl))); (simp only [Act.put, List.setIfInBounds_toArray, List.set_cons_zero, List.set_cons_succ]))
              (refine wpTree_q 4 hTok hOps (by kernel_rfl) rfl rfl ⟨?_, ?_, ?_⟩; rotate_left; (focus (intro wx hSx; (try dsimp only at hSx); go_simp; (try with_reducible rfl))); (simp only [Act.put, List.setIfInBounds_toArray, List.set_cons_zero, List.set_cons_succ]))
              (refine wpTree_q 5 hTok hOps (by kernel_rfl) rfl rfl ⟨?_, ?_, ?_⟩; rotate_left; (focus (intro wx hSx; (try dsimp only at hSx); go_simp; (try with_reducible rfl))); (simp only [Act.put, List.setIfInBounds_toArray, List.set_cons_zero, List.set_cons_succ]))
              (refine wpTree_q 6 hTok hOps (by kernel_rfl) rfl rfl ⟨?_, ?_, ?_⟩; rotate_left; (focus (intro wx hSx; (try dsimp only at hSx); go_simp; (try with_reducible rfl))); (simp only [Act.put, List.setIfInBounds_toArray, List.set_cons_zero, List.set_cons_succ]))
              refine wpTree_2 7 12 hOps (by kernel_rfl) (by decide) (by decide) rfl rfl (fun K' hK => ?_) (fun K' hK => ?_)
              · go_simp
                refine (hrunT.out _ hd6).mono ?_
                rintro e w7 ⟨pa, pac, pb, pbc, rfl, hq7, hb7⟩
                have hb67 : Below w6.heap.size w6 w7 := hd6.trans (hb7.mono hd6.size)
                dsimp only
                refine hK.out _ _ ((hG6.below hb67 hG6.lt).cellAt (i := 0) (v := .slice ga go gcap) rfl) ?_
                clear hK K' hb7 hrunT hd6
                try simp only [Act.put, List.setIfInBounds_toArray, List.set_cons_zero, List.set_cons_succ]
                (refine wpTree_q 8 hTok hOps (by kernel_rfl) rfl rfl ⟨?_, ?_, ?_⟩; rotate_left; (focus (intro wx hSx; (try dsimp only at hSx); go_simp; (try with_reducible rfl))); (simp only [Act.put, List.setIfInBounds_toArray, List.set_cons_zero, List.set_cons_succ]))
                (refine wpTree_q 9 hTok hOps (by kernel_rfl) rfl rfl ⟨?_, ?_, ?_⟩; rotate_left; (focus (intro wx hSx; (try dsimp only at hSx); go_simp; (try with_reducible rfl))); (simp only [Act.put, List.setIfInBounds_toArray, List.set_cons_zero, List.set_cons_succ]))
                (refine wpTree_q 10 hTok hOps (by kernel_rfl) rfl rfl ⟨?_, ?_, ?_⟩; rotate_left; (focus (intro wx hSx; (try dsimp only at hSx); go_simp; (try with_reducible rfl))); (simp only [Act.put, List.setIfInBounds_toArray, List.set_cons_zero, List.set_cons_succ]))
                (refine wpTree_q 11 hTok hOps (by kernel_rfl) rfl rfl ⟨?_, ?_, ?_⟩; rotate_left; (focus (intro wx hSx; (try dsimp only at hSx); go_simp; (try with_reducible rfl))); (simp only [Act.put, List.setIfInBounds_toArray, List.set_cons_zero, List.set_cons_succ]))
                refine wpTree_1 12 hOps (by kernel_rfl) (by decide) rfl (fun K' hK => ?_)
                go_simp
                have hb8 : Below w7.heap.size w7 (w7.alloc (.cells #[.slice none 0 0] 27)) := belowAlloc _ _
                have hb68 := hb67.trans (hb8.mono hb67.size)
                have hG8 := hG6.below hb68 hG6.lt
                refine hK.out _ _ (hG8.cellAt (i := 0) (v := .slice ga go gcap) rfl) ?_
                have hO8 := OwnL.below hO6 hb68 (Nat.le_refl _)
                have hq8 := OwnL.below hq7 hb8 (Nat.le_refl _)
                have hz8 : Blk (w7.alloc (.cells #[.slice none 0 0] 27)) w7.heap.size #[.slice none 0 0] 27 := Blk.new _ _ _
                obtain ⟨zz, hzz⟩ : ∃ zz, zz = w7.heap.size := ⟨_, rfl⟩
                have hzw : w6.heap.size ≤ zz := by rw [hzz]; exact hb67.size
                rw [← hzz] at hz8 ⊢
                obtain ⟨w8, hw8⟩ : ∃ w8, w8 = w7.alloc (.cells #[.slice none 0 0] 27) := ⟨_, rfl⟩
                rw [← hw8] at hG8 hO8 hq8 hz8 hb68 ⊢
                replace hzz := Lib.hid hzz
                replace hw8 := Lib.hid hw8
                clear hK K' hb8 hb67 hq7
                try simp only [Act.put, List.setIfInBounds_toArray, List.set_cons_zero, List.set_cons_succ]
                (refine wpTree_q 13 hTok hOps (by kernel_rfl) rfl rfl ⟨?_, ?_, ?_⟩; rotate_left; (focus (intro wx hSx; (try dsimp only at hSx); go_simp; (try with_reducible rfl))); (simp only [Act.put, List.setIfInBounds_toArray, List.set_cons_zero, List.set_cons_succ]))
                have c8 := hz8.cellAt (i := 0) (v := .slice none 0 0) rfl
                have f8 := hz8.frozen 0
                refine wpTree_1 14 hOps (by kernel_rfl) (by decide) rfl (fun K' hK => ?_)
                go_simp
                have hb9 : Below w6.heap.size w6 (w8.setCell ⟨zz, 0, none⟩ (.slice pb tb pbc)) := hb68.setCell hzw _
                have hG9 := hG6.below hb9 hG6.lt
                have hO9 := OwnR.setS hO8 hz8 (u := .slice pb tb pbc)
                have hq9 := OwnR.setS hq8 hz8 (u := .slice pb tb pbc)
                refine hK.out _ _ (hG9.cellAt (i := 0) (v := .slice ga go gcap) rfl) ?_
                clear hK K' hG8 hO8 hq8 c8 f8 hb68 hG6 hO6
                try simp only [Act.put, List.setIfInBounds_toArray, List.set_cons_zero, List.set_cons_succ]
                refine wpTree_nil hOps (by kernel_rfl) ?_
                refine hT.out _ _ ?_
                simp only [List.drop_succ_cons, List.drop_zero]
                clear hHeld hTok hOps hT
                obtain ⟨w9, hw9⟩ : ∃ w9, w9 = w8.setCell ⟨zz, 0, none⟩ (.slice pb tb pbc) := ⟨_, rfl⟩
                rw [← hw9] at hb9 hG9 hO9 hq9 ⊢
                have hbk9 := hbk.trans (hb9.mono hbk.size)
                replace hw9 := Lib.hid hw9
                clear hz8 hb9 hG9 hbk hbw6
                go_wp2_with (at_builtin; refine Shut.out ?ka)
                unfold Shut
                refine wpList_app_sla (xs := A) (ys := Uk.1) (enc := encR) (base := w3.heap.size) _ rfl _ _ 29 rfl Try.underlying29 hiR hR0 hR1 hR2 rfl (by decide) rfl hO9 (by show Value.slice pa tm pac = _; rw [htm.out]) (OwnR.rd hq9).2 encR_len encR_one (by have := htm.out; have := hnA.out; unfold maxLen; omega) (by have := htm.out; have := hnA.out; omega) hbk9.size (fun v10 w10 hown10 hgr10 => ?_)
                have hbk10 : Below w3.heap.size w3 w10 := hbk9.grown hgr10 hbk9.size (fun g e => (hO9.lt g e).1)
                rw [← hAn.out] at hown10
                clear hO9 hq9 hgr10 hbk9
                go_wp2_with fail
                go_roundw
                case rel => exact ⟨k + 1, by omega, by go_num, hown10, hbk10⟩
                case measure => simp [intOf]; omega
              · go_simp
                have hb7 : Below w6.heap.size w6 (w6.alloc (.cells #[.slice none 0 0] 27)).drew := (belowAlloc _ _).drew
                have hz7 : Blk (w6.alloc (.cells #[.slice none 0 0] 27)).drew w6.heap.size #[.slice none 0 0] 27 := (Blk.new w6 _ _).drew
                refine hK.out _ _ ((hG6.below hb7 hG6.lt).cellAt (i := 0) (v := .slice ga go gcap) rfl) ?_
                obtain ⟨zz, hzz⟩ : ∃ zz, zz = w6.heap.size := ⟨_, rfl⟩
                have hzw : w6.heap.size ≤ zz := by rw [hzz]; exact Nat.le_refl _
                rw [← hzz] at hz7 ⊢
                obtain ⟨w7, hw7⟩ : ∃ w7, w7 = (w6.alloc (.cells #[.slice none 0 0] 27)).drew := ⟨_, rfl⟩
                rw [← hw7] at hz7 hb7 ⊢
                replace hzz := Lib.hid hzz
                replace hw7 := Lib.hid hw7
                have hrun7 := hrunT.out _ hb7
                replace hrun7 := Lib.hid hrun7
                clear hK K' hrunT
                try simp only [Act.put, List.setIfInBounds_toArray, List.set_cons_zero, List.set_cons_succ]
                refine wpTree_1 7 hOps (by kernel_rfl) (by decide) rfl (fun K' hK => ?_)
                go_simp
                refine hrun7.out.mono ?_
                rintro e w8 ⟨pa, pac, pb, pbc, rfl, hq8, hb8⟩
                dsimp only
                have hb68 := hb7.trans (hb8.mono hb7.size)
                have hG8 := hG6.below hb68 hG6.lt
                refine hK.out _ _ (hG8.cellAt (i := 0) (v := .slice ga go gcap) rfl) ?_
                have hO8 := OwnL.below hO6 hb68 (Nat.le_refl _)
                have hz8 := hz7.below hb8 hz7.lt
                clear hK K' hb8 hb7 hrun7 hz7
                try simp only [Act.put, List.setIfInBounds_toArray, List.set_cons_zero, List.set_cons_succ]
                (refine wpTree_q 8 hTok hOps (by kernel_rfl) rfl rfl ⟨?_, ?_, ?_⟩; rotate_left; (focus (intro wx hSx; (try dsimp only at hSx); go_simp; (try with_reducible rfl))); (simp only [Act.put, List.setIfInBounds_toArray, List.set_cons_zero, List.set_cons_succ]))
                (refine wpTree_q 9 hTok hOps (by kernel_rfl) rfl rfl ⟨?_, ?_, ?_⟩; rotate_left; (focus (intro wx hSx; (try dsimp only at hSx); go_simp; (try with_reducible rfl))); (simp only [Act.put, List.setIfInBounds_toArray, List.set_cons_zero, List.set_cons_succ]))
                (refine wpTree_q 10 hTok hOps (by kernel_rfl) rfl rfl ⟨?_, ?_, ?_⟩; rotate_left; (focus (intro wx hSx; (try dsimp only at hSx); go_simp; (try with_reducible rfl))); (simp only [Act.put, List.setIfInBounds_toArray, List.set_cons_zero, List.set_cons_succ]))
                (refine wpTree_q 11 hTok hOps (by kernel_rfl) rfl rfl ⟨?_, ?_, ?_⟩; rotate_left; (focus (intro wx hSx; (try dsimp only at hSx); go_simp; (try with_reducible rfl))); (simp only [Act.put, List.setIfInBounds_toArray, List.set_cons_zero, List.set_cons_succ]))
                (refine wpTree_q 13 hTok hOps (by kernel_rfl) rfl rfl ⟨?_, ?_, ?_⟩; rotate_left; (focus (intro wx hSx; (try dsimp only at hSx); go_simp; (try with_reducible rfl))); (simp only [Act.put, List.setIfInBounds_toArray, List.set_cons_zero, List.set_cons_succ]))
                have c8 := hz8.cellAt (i := 0) (v := .slice none 0 0) rfl
                have f8 := hz8.frozen 0
                refine wpTree_1 14 hOps (by kernel_rfl) (by decide) rfl (fun K' hK => ?_)
                go_simp
                have hb9 : Below w6.heap.size w6 (w8.setCell ⟨zz, 0, none⟩ (.slice pb tb pbc)) := hb68.setCell hzw _
                have hG9 := hG6.below hb9 hG6.lt
                have hO9 := OwnR.setS hO8 hz8 (u := .slice pb tb pbc)
                have hq9 := OwnR.setS hq8 hz8 (u := .slice pb tb pbc)
                refine hK.out _ _ (hG9.cellAt (i := 0) (v := .slice ga go gcap) rfl) ?_
                clear hK K' hG8 hO8 hq8 c8 f8 hb68 hG6 hO6
                try simp only [Act.put, List.setIfInBounds_toArray, List.set_cons_zero, List.set_cons_succ]
                refine wpTree_nil hOps (by kernel_rfl) ?_
                refine hT.out _ _ ?_
                simp only [List.drop_succ_cons, List.drop_zero]
                clear hHeld hTok hOps hT
                obtain ⟨w9, hw9⟩ : ∃ w9, w9 = w8.setCell ⟨zz, 0, none⟩ (.slice pb tb pbc) := ⟨_, rfl⟩
                rw [← hw9] at hb9 hG9 hO9 hq9 ⊢
                have hbk9 := hbk.trans (hb9.mono hbk.size)
                replace hw9 := Lib.hid hw9
                clear hz8 hb9 hG9 hbk hbw6
                go_wp2_with (at_builtin; refine Shut.out ?kb)
                unfold Shut
                refine wpList_app_sla (xs := A) (ys := Uk.1) (enc := encR) (base := w3.heap.size) _ rfl _ _ 29 rfl Try.underlying29 hiR hR0 hR1 hR2 rfl (by decide) rfl hO9 (by show Value.slice pa tm pac = _; rw [htm.out]) (OwnR.rd hq9).2 encR_len encR_one (by have := htm.out; have := hnA.out; unfold maxLen; omega) (by have := htm.out; have := hnA.out; omega) hbk9.size (fun v10 w10 hown10 hgr10 => ?_)
                have hbk10 : Below w3.heap.size w3 w10 := hbk9.grown hgr10 hbk9.size (fun g e => (hO9.lt g e).1)
                rw [← hAn.out] at hown10
                clear hO9 hq9 hgr10 hbk9
                go_wp2_with fail
                go_roundw
                case rel => exact ⟨k + 1, by omega, by go_num, hown10, hbk10⟩
                case measure => simp [intOf]; omega
            · have d7 : decide ((k : Int) < (nl : Int)) = false := by simp; omega
              have hsA : sortP A = R.1 := by
                rw [hA.out, List.take_of_length_le (by have := hnl.out; omega)]
                exact hsort.out
              have hM := OwnL.below hM3 hbk (Nat.le_refl _)
              have hor := order_any A oa oac _ w6 (Nat.le_refl _) (OwnR.rd hO6).2 (by have := hnA.out; omega)
              rw [← hnA.out, hsA] at hor
              replace hor := Lib.hid hor
              clear hsA hbk hM3 hG3 hbw3 hO6 hG6
              go_wp2_with (go_at_call 15; refine Shut.out ?ko)
              unfold Shut
              refine hor.out.mono ?_
              rintro e w7 ⟨v7, rfl, hv7, hb7⟩
              obtain ⟨oa7, oc7, rfl, hP7⟩ := OwnR.pra hv7
              have hM7 := OwnL.below hM hb7 (Nat.le_refl _)
              have hbw7 := hbw6.trans (hb7.mono hbw6.size)
              have hsm := same_any R.1 R.1 oa7 qa oc7 qac _ w7 (Nat.le_refl _) hP7 (OwnR.rd hM7).2
              rw [decide_eq_true rfl, ← hnm.out] at hsm
              rw [← hnm.out]
              replace hsm := Lib.hid hsm
              clear hor hM hb7 hM7 hv7 hP7 hbw6
              dsimp only
              go_wp2_with (go_at_call 13; refine Shut.out ?ksp)
              unfold Shut
              refine hsm.out.mono ?_
              rintro e w8 ⟨rfl, hb8⟩
              have hbw8 := hbw7.trans (hb8.mono hbw7.size)
              dsimp only
              go_wp2_with fail
              go_ret
              exact ⟨rfl, hbw8⟩
        · have h1 := runM_err (ops := ops) (s := []) (recs := L) (by rw [← hR.out, ← hhe.out]; exact hE)
          obtain rfl : nm = 0 := by rw [hnm.out, hR.out, h1.1]; rfl
          obtain rfl : nb = 0 := by rw [hnb.out, hR.out, h1.2]; rfl
          have d3 : ((he : Int) != 0) = true := by simp; omega
          have d4 : ((he : Int) == 0) = false := by simp; omega
          have z3 := hZ3.cellAt (i := 0) (v := .slice qb 0 qbc) rfl
          clear h1
          go_wp2_with fail
          go_ret
          exact ⟨rfl, hbw3⟩
end Go.Proofs.Ytbianedgogdeeaa
