/- Disk: the document's disk: Write. -/
import Derived.Test.YtjhbeahkojippaaD7
namespace Go.Proofs.Ytjhbeahkojippaa
open Go.RowKit Go.Maps
attribute [local go_sem] Oper.semAt_some
set_option linter.unusedVariables false
set_option linter.unusedSimpArgs false

set_option maxRecDepth 100000 in
set_option maxHeartbeats 8000000 in
theorem rwrite_any {base mb : Nat} {r : RX} {M : DM} {N : Nat} (s : ByteArray) (n : Int) (da : Option Addr) (dc : Nat) (db : List UInt8) (w : World) (hs : s.size ≤ maxLen) (h : Rf w base mb r M) (hok : OkM N M) (hN : N ≤ 1000000) (hb : base ≤ w.heap.size) (hd0 : SlA base 1 EU w da dc db) (hdz : db.length ≤ 140737488355328) :
    Calls Try.prog 39 #[.pointer (some ⟨mb, 0, none⟩), .string s, .int .i64 n, .slice da db.length dc] w fun e w' => e = .returned (.int .i64 (writeM M s n db).1) ∧ RStep w base mb r (writeM M s n db).2 w' := by
  have hd : SlA w.heap.size 1 EU w da dc db := hd0.imp (Below.refl _ _) hb (fun cs x _ h => h)
  have hrd := rready_any mb M s n w hs (h.blk.cellAt rfl)
  obtain ⟨k, hk⟩ : ∃ k, k = db.length := ⟨_, rfl⟩
  rw [← hk]
  obtain ⟨er, her⟩ : ∃ er, er = readyM M s n := ⟨_, rfl⟩
  rw [← her] at hrd
  have hgo0 := RStep.same h (Below.refl w.heap.size w)
  by_cases he : er = 0
  · subst he
    obtain ⟨hf, hrt, hn0⟩ := ready0 her.symm
    obtain ⟨nn, rfl⟩ : ∃ nn : Nat, n = nn := ⟨n.toNat, by omega⟩
    obtain ⟨f, hfo⟩ : ∃ f, f = fileOf r.now s := ⟨_, rfl⟩
    have hfb : f.bs = bytesOf M.now s := by rw [hfo]; exact h.file_now s
    have hfa : FileAt w base f.v f.bs := by rw [hfo]; exact fileOf_at h.filn s
    have hge := rget_any s base r.nv r.now w h.now (Nat.le_trans (h.len_now hok) hN)
    rw [← hfo] at hge
    obtain ⟨is, his⟩ : ∃ is, is = (getL r.now s).isSome := ⟨_, rfl⟩
    rw [← his] at hge
    obtain ⟨m, hm⟩ : ∃ m, m = f.bs.length := ⟨_, rfl⟩
    have hfv : f.v = .slice f.ao m f.cap := by rw [hm]; rfl
    rw [hfv] at hge
    have hmb : m = (bytesOf M.now s).length := by rw [hm, hfb]
    have hm30 : m ≤ 1073741824 := by rw [hmb]; exact bytesOf_le (fun p hp => (hok.nown p hp).2) s
    have hus := rused_any w h hok hN
    obtain ⟨U, hU⟩ : ∃ U, U = sumL M.now := ⟨_, rfl⟩
    rw [← hU] at hus
    have hmU : m ≤ U := by rw [hmb, hU]; exact bytesOf_sum M.now s
    have hU50 : U ≤ 1073741824000000 := by rw [hU]; exact Nat.le_trans (sumL_le (fun p hp => (hok.nown p hp).2)) (Nat.mul_le_mul_right _ (Nat.le_trans hok.ln hN))
    obtain ⟨hroom1, hroom2⟩ := hok.room
    have hwm : writeM M s nn db = if (m : Int) < nn then (8, M) else if (m : Int) < (nn : Int) + k ∧ M.room < (U : Int) + nn + k - m then (6, M) else (0, { M with now := withL M.now s (overB f.bs nn db), chs := M.chs ++ [⟨0, s, nn, db⟩] }) := by
      unfold writeM
      rw [← her, ← hmb, ← hU, ← hk, hfb]
      simp
    have c0 : w.cell? ⟨mb, 0, none⟩ = some (.int .i64 M.room) := h.blk.cellAt rfl
    have c2 : w.cell? ⟨mb, 2, none⟩ = some r.nv := h.blk.cellAt rfl
    obtain ⟨na, nc, hnv, _, _, _⟩ := h.now.slice
    obtain ⟨nl, hnl⟩ : ∃ nl, nl = r.now.length := ⟨_, rfl⟩
    rw [hnv, ← hnl] at c2 hge
    rw [← hk] at hdz
    have hslot : r.nv = .slice na nl nc := by rw [hnv, hnl]
    replace hm := Lib.hid hm
    replace hk := Lib.hid hk
    replace hnl := Lib.hid hnl
    replace hslot := Lib.hid hslot
    clear hmb hfv her his hnv
    by_cases hgt : (m : Int) < nn
    · rw [hwm, if_pos hgt]
      have d1 : decide ((m : Int) < (nn : Int)) = true := by simp; omega
      have d2 : decide (m < nn) = true := by simp; omega
      clear hwm
      go_enter Try.func39, Try.ntmps39
      go_wp2_with fail
      refine hrd.mono ?_
      rintro e wz ⟨rfl, rfl⟩
      dsimp only
      go_wp2_with fail
      refine hge.mono ?_
      rintro e wz ⟨rfl, rfl⟩
      dsimp only
      go_wp2_with fail
      go_ret
      exact ⟨rfl, hgo0⟩
    · rw [hwm, if_neg hgt]
      obtain ⟨rs, hrs⟩ : ∃ rs : Nat × DM, rs = if (m : Int) < (nn : Int) + k ∧ M.room < (U : Int) + nn + k - m then (6, M) else (0, { M with now := withL M.now s (overB f.bs nn db), chs := M.chs ++ [⟨0, s, nn, db⟩] }) := ⟨_, rfl⟩
      rw [← hrs]
      replace hrs := Lib.hid hrs
      have d1 : decide ((m : Int) < (nn : Int)) = false := by simp; omega
      have d2 : decide (m < nn) = false := by simp; omega
      have hnm : nn ≤ m := by omega
      have hnn30 : nn ≤ 1073741824 := by omega
      have e0 : Hid (IntKind.i64.wrap ((nn : Int) + (k : Int)) = (nn : Int) + (k : Int)) := Lib.hid (IntWalk.i64_in _ (by omega))
      have e3 : Hid (IntKind.i64.wrap ((U : Int) + (nn : Int)) = (U : Int) + (nn : Int)) := Lib.hid (IntWalk.i64_in _ (by omega))
      have e4 : Hid (IntKind.i64.wrap ((U : Int) + (nn : Int) + (k : Int)) = (U : Int) + (nn : Int) + (k : Int)) := Lib.hid (IntWalk.i64_in _ (by omega))
      have e5 : Hid (IntKind.i64.wrap ((U : Int) + (nn : Int) + (k : Int) - (m : Int)) = (U : Int) + (nn : Int) + (k : Int) - (m : Int)) := Lib.hid (IntWalk.i64_in _ (by omega))
      obtain ⟨full, hfull⟩ : ∃ full, full = decide ((m : Int) < (nn : Int) + k ∧ M.room < (U : Int) + nn + k - m) := ⟨_, rfl⟩
      have hus2 : ∀ w1, Below w.heap.size w w1 → Calls Try.prog 45 #[.pointer (some ⟨mb, 0, none⟩)] w1 fun e w' => e = .returned (.int .i64 (U : Nat)) ∧ w' = w1 := fun w1 h1 => by
        have := rused_any w1 (h.below h1) hok hN
        rw [← hU] at this
        exact this
      replace hus2 := Lib.hid hus2
      replace hU := Lib.hid hU
      replace hfull := Lib.hid hfull
      replace hfo := Lib.hid hfo
      replace hfb := Lib.hid hfb
      replace hgo0 := Lib.hid hgo0
      clear hwm hus
      go_enter Try.func39, Try.ntmps39
      go_wp2_with fail
      refine hrd.mono ?_
      rintro e wz ⟨rfl, rfl⟩
      dsimp only
      go_wp2_with fail
      refine hge.mono ?_
      rintro e wz ⟨rfl, rfl⟩
      clear hrd hge
      dsimp only
      go_upto_region 7 with fail
      go_cut [55] from 32 (fun s55 wx => s55 = .bool full ∧ Below wz.heap.size wz wx)
      case first =>
        by_cases hmore : (m : Int) < (nn : Int) + k
        · have e1 : Hid (decide ((m : Int) < (nn : Int) + (k : Int)) = true) := Lib.hid (by simp; omega)
          have hfq : full = decide (M.room < (U : Int) + nn + k - m) := by
            rw [hfull.out]
            apply decide_eq_decide.2
            omega
          have hus3 := hus2.out wz.drew (Below.refl _ _).drew
          clear hmore
          replace hfq := Lib.hid hfq
          refine wp_region_tree (fun wx => wx.cell? ⟨mb, 0, none⟩ = some (.int .i64 M.room)) 22 24 (by kernel_rfl) rfl (by kernel_rfl) (fun d _ _ _ _ h => by cases d <;> exact h) (c0) (fun opz T hOps hT hTok hHeld => ?_)
          (refine wpTree_q 0 hTok hOps (by kernel_rfl) rfl rfl ⟨?_, ?_, ?_⟩; rotate_left; (focus (intro wx hSx; (try dsimp only at hSx); go_simp; (try with_reducible rfl))); (simp only [Act.put, List.setIfInBounds_toArray, List.set_cons_zero, List.set_cons_succ]))
          (refine wpTree_q 1 hTok hOps (by kernel_rfl) rfl rfl ⟨?_, ?_, ?_⟩; rotate_left; (focus (intro wx hSx; (try dsimp only at hSx); go_simp; (try with_reducible rfl))); (simp only [Act.put, List.setIfInBounds_toArray, List.set_cons_zero, List.set_cons_succ]))
          (refine wpTree_q 2 hTok hOps (by kernel_rfl) rfl rfl ⟨?_, ?_, ?_⟩; rotate_left; (focus (intro wx hSx; (try dsimp only at hSx); go_simp; (try with_reducible rfl))); (simp only [Act.put, List.setIfInBounds_toArray, List.set_cons_zero, List.set_cons_succ]))
          (refine wpTree_q 3 hTok hOps (by kernel_rfl) rfl rfl ⟨?_, ?_, ?_⟩; rotate_left; (focus (intro wx hSx; (try dsimp only at hSx); go_simp; (try with_reducible rfl))); (simp only [Act.put, List.setIfInBounds_toArray, List.set_cons_zero, List.set_cons_succ]))
          (refine wpTree_q 4 hTok hOps (by kernel_rfl) rfl rfl ⟨?_, ?_, ?_⟩; rotate_left; (focus (intro wx hSx; (try dsimp only at hSx); go_simp; (try with_reducible rfl))); (simp only [Act.put, List.setIfInBounds_toArray, List.set_cons_zero, List.set_cons_succ]))
          (refine wpTree_q 5 hTok hOps (by kernel_rfl) rfl rfl ⟨?_, ?_, ?_⟩; rotate_left; (focus (intro wx hSx; (try dsimp only at hSx); go_simp; (try with_reducible rfl))); (simp only [Act.put, List.setIfInBounds_toArray, List.set_cons_zero, List.set_cons_succ]))
          (refine wpTree_q 6 hTok hOps (by kernel_rfl) rfl rfl ⟨?_, ?_, ?_⟩; rotate_left; (focus (intro wx hSx; (try dsimp only at hSx); go_simp; (try with_reducible rfl))); (simp only [Act.put, List.setIfInBounds_toArray, List.set_cons_zero, List.set_cons_succ]))
          simp only [e0.out, e1.out]
          (refine wpTree_q 7 hTok hOps (by kernel_rfl) rfl rfl ⟨?_, ?_, ?_⟩; rotate_left; (focus (intro wx hSx; (try dsimp only at hSx); go_simp; (try with_reducible rfl))); (simp only [Act.put, List.setIfInBounds_toArray, List.set_cons_zero, List.set_cons_succ]))
          (refine wpTree_qg 8 hTok hOps (by kernel_rfl) rfl rfl ⟨?_, ?_, ?_⟩; rotate_left; (focus (intro wx hSx; (try dsimp only at hSx); go_simp; (try with_reducible rfl))); (simp only [Act.put, List.setIfInBounds_toArray, List.set_cons_zero, List.set_cons_succ]))
          (refine wpTree_qg 10 hTok hOps (by kernel_rfl) rfl rfl ⟨?_, ?_, ?_⟩; rotate_left; (focus (intro wx hSx; (try dsimp only at hSx); go_simp; (try with_reducible rfl))); (simp only [Act.put, List.setIfInBounds_toArray, List.set_cons_zero, List.set_cons_succ]))
          (refine wpTree_qg 12 hTok hOps (by kernel_rfl) rfl rfl ⟨?_, ?_, ?_⟩; rotate_left; (focus (intro wx hSx; (try dsimp only at hSx); go_simp; (try with_reducible rfl))); (simp only [Act.put, List.setIfInBounds_toArray, List.set_cons_zero, List.set_cons_succ]))
          (refine wpTree_qg 13 hTok hOps (by kernel_rfl) rfl rfl ⟨?_, ?_, ?_⟩; rotate_left; (focus (intro wx hSx; (try dsimp only at hSx); go_simp; (try with_reducible rfl))); (simp only [Act.put, List.setIfInBounds_toArray, List.set_cons_zero, List.set_cons_succ]))
          (refine wpTree_qg 15 hTok hOps (by kernel_rfl) rfl rfl ⟨?_, ?_, ?_⟩; rotate_left; (focus (intro wx hSx; (try dsimp only at hSx); go_simp; (try with_reducible rfl))); (simp only [Act.put, List.setIfInBounds_toArray, List.set_cons_zero, List.set_cons_succ]))
          (refine wpTree_qg 16 hTok hOps (by kernel_rfl) rfl rfl ⟨?_, ?_, ?_⟩; rotate_left; (focus (intro wx hSx; (try dsimp only at hSx); go_simp; (try with_reducible rfl))); (simp only [Act.put, List.setIfInBounds_toArray, List.set_cons_zero, List.set_cons_succ]))
          (refine wpTree_qg 18 hTok hOps (by kernel_rfl) rfl rfl ⟨?_, ?_, ?_⟩; rotate_left; (focus (intro wx hSx; (try dsimp only at hSx); go_simp; (try with_reducible rfl))); (simp only [Act.put, List.setIfInBounds_toArray, List.set_cons_zero, List.set_cons_succ]))
          (refine wpTree_qg 19 hTok hOps (by kernel_rfl) rfl rfl ⟨?_, ?_, ?_⟩; rotate_left; (focus (intro wx hSx; (try dsimp only at hSx); go_simp; (try with_reducible rfl))); (simp only [Act.put, List.setIfInBounds_toArray, List.set_cons_zero, List.set_cons_succ]))
          (refine wpTree_qg 20 hTok hOps (by kernel_rfl) rfl rfl ⟨?_, ?_, ?_⟩; rotate_left; (focus (intro wx hSx; (try dsimp only at hSx); go_simp; (try with_reducible rfl))); (simp only [Act.put, List.setIfInBounds_toArray, List.set_cons_zero, List.set_cons_succ]))
          (refine wpTree_qg 21 hTok hOps (by kernel_rfl) rfl rfl ⟨?_, ?_, ?_⟩; rotate_left; (focus (intro wx hSx; (try dsimp only at hSx); go_simp; (try with_reducible rfl))); (simp only [Act.put, List.setIfInBounds_toArray, List.set_cons_zero, List.set_cons_succ]))
          refine wpTree_1g 9 hOps (by kernel_rfl) (by decide) rfl rfl (fun K' hK => ?_)
          go_simp
          refine hus3.mono ?_
          rintro e wy ⟨rfl, rfl⟩
          dsimp only
          refine hK.out _ _ c0 ?_
          clear hK K'
          try simp only [Act.put, List.setIfInBounds_toArray, List.set_cons_zero, List.set_cons_succ]
          (refine wpTree_qg 11 hTok hOps (by kernel_rfl) rfl rfl ⟨?_, ?_, ?_⟩; rotate_left; (focus (intro wx hSx; (try dsimp only at hSx); go_simp; (try with_reducible rfl))); (simp only [Act.put, List.setIfInBounds_toArray, List.set_cons_zero, List.set_cons_succ]))
          simp only [e3.out]
          (refine wpTree_qg 14 hTok hOps (by kernel_rfl) rfl rfl ⟨?_, ?_, ?_⟩; rotate_left; (focus (intro wx hSx; (try dsimp only at hSx); go_simp; (try with_reducible rfl))); (simp only [Act.put, List.setIfInBounds_toArray, List.set_cons_zero, List.set_cons_succ]))
          simp only [e4.out]
          (refine wpTree_qg 17 hTok hOps (by kernel_rfl) rfl rfl ⟨?_, ?_, ?_⟩; rotate_left; (focus (intro wx hSx; (try dsimp only at hSx); go_simp; (try with_reducible rfl))); (simp only [Act.put, List.setIfInBounds_toArray, List.set_cons_zero, List.set_cons_succ]))
          simp only [e5.out]
          refine wpTree_nil hOps (by kernel_rfl) ?_
          refine hT.out _ _ ?_
          simp only [List.drop_succ_cons, List.drop_zero]
          clear hOps hT hTok hHeld
          go_wp2_with fail
          go_meet
          case rel => exact ⟨by rw [hfq.out], (Below.refl _ _).drew⟩
        · have e1 : Hid (decide ((m : Int) < (nn : Int) + (k : Int)) = false) := Lib.hid (by simp; omega)
          have hfq : full = false := by
            rw [hfull.out]
            simp only [decide_eq_false_iff_not]
            omega
          subst hfq
          clear hmore
          refine wp_region_tree (fun wx => wx.cell? ⟨mb, 0, none⟩ = some (.int .i64 M.room)) 22 24 (by kernel_rfl) rfl (by kernel_rfl) (fun d _ _ _ _ h => by cases d <;> exact h) (c0) (fun opz T hOps hT hTok hHeld => ?_)
          (refine wpTree_q 0 hTok hOps (by kernel_rfl) rfl rfl ⟨?_, ?_, ?_⟩; rotate_left; (focus (intro wx hSx; (try dsimp only at hSx); go_simp; (try with_reducible rfl))); (simp only [Act.put, List.setIfInBounds_toArray, List.set_cons_zero, List.set_cons_succ]))
          (refine wpTree_q 1 hTok hOps (by kernel_rfl) rfl rfl ⟨?_, ?_, ?_⟩; rotate_left; (focus (intro wx hSx; (try dsimp only at hSx); go_simp; (try with_reducible rfl))); (simp only [Act.put, List.setIfInBounds_toArray, List.set_cons_zero, List.set_cons_succ]))
          (refine wpTree_q 2 hTok hOps (by kernel_rfl) rfl rfl ⟨?_, ?_, ?_⟩; rotate_left; (focus (intro wx hSx; (try dsimp only at hSx); go_simp; (try with_reducible rfl))); (simp only [Act.put, List.setIfInBounds_toArray, List.set_cons_zero, List.set_cons_succ]))
          (refine wpTree_q 3 hTok hOps (by kernel_rfl) rfl rfl ⟨?_, ?_, ?_⟩; rotate_left; (focus (intro wx hSx; (try dsimp only at hSx); go_simp; (try with_reducible rfl))); (simp only [Act.put, List.setIfInBounds_toArray, List.set_cons_zero, List.set_cons_succ]))
          (refine wpTree_q 4 hTok hOps (by kernel_rfl) rfl rfl ⟨?_, ?_, ?_⟩; rotate_left; (focus (intro wx hSx; (try dsimp only at hSx); go_simp; (try with_reducible rfl))); (simp only [Act.put, List.setIfInBounds_toArray, List.set_cons_zero, List.set_cons_succ]))
          (refine wpTree_q 5 hTok hOps (by kernel_rfl) rfl rfl ⟨?_, ?_, ?_⟩; rotate_left; (focus (intro wx hSx; (try dsimp only at hSx); go_simp; (try with_reducible rfl))); (simp only [Act.put, List.setIfInBounds_toArray, List.set_cons_zero, List.set_cons_succ]))
          (refine wpTree_q 6 hTok hOps (by kernel_rfl) rfl rfl ⟨?_, ?_, ?_⟩; rotate_left; (focus (intro wx hSx; (try dsimp only at hSx); go_simp; (try with_reducible rfl))); (simp only [Act.put, List.setIfInBounds_toArray, List.set_cons_zero, List.set_cons_succ]))
          simp only [e0.out, e1.out]
          (refine wpTree_q 7 hTok hOps (by kernel_rfl) rfl rfl ⟨?_, ?_, ?_⟩; rotate_left; (focus (intro wx hSx; (try dsimp only at hSx); go_simp; (try with_reducible rfl))); (simp only [Act.put, List.setIfInBounds_toArray, List.set_cons_zero, List.set_cons_succ]))
          (refine wpTree_qn 8 hTok hOps (by kernel_rfl) rfl rfl ?_; (try simp only [Act.put, List.setIfInBounds_toArray, List.set_cons_zero, List.set_cons_succ]))
          (refine wpTree_qn 10 hTok hOps (by kernel_rfl) rfl rfl ?_; (try simp only [Act.put, List.setIfInBounds_toArray, List.set_cons_zero, List.set_cons_succ]))
          (refine wpTree_qn 12 hTok hOps (by kernel_rfl) rfl rfl ?_; (try simp only [Act.put, List.setIfInBounds_toArray, List.set_cons_zero, List.set_cons_succ]))
          (refine wpTree_qn 13 hTok hOps (by kernel_rfl) rfl rfl ?_; (try simp only [Act.put, List.setIfInBounds_toArray, List.set_cons_zero, List.set_cons_succ]))
          (refine wpTree_qn 15 hTok hOps (by kernel_rfl) rfl rfl ?_; (try simp only [Act.put, List.setIfInBounds_toArray, List.set_cons_zero, List.set_cons_succ]))
          (refine wpTree_qn 16 hTok hOps (by kernel_rfl) rfl rfl ?_; (try simp only [Act.put, List.setIfInBounds_toArray, List.set_cons_zero, List.set_cons_succ]))
          (refine wpTree_qn 18 hTok hOps (by kernel_rfl) rfl rfl ?_; (try simp only [Act.put, List.setIfInBounds_toArray, List.set_cons_zero, List.set_cons_succ]))
          (refine wpTree_qn 19 hTok hOps (by kernel_rfl) rfl rfl ?_; (try simp only [Act.put, List.setIfInBounds_toArray, List.set_cons_zero, List.set_cons_succ]))
          (refine wpTree_qn 20 hTok hOps (by kernel_rfl) rfl rfl ?_; (try simp only [Act.put, List.setIfInBounds_toArray, List.set_cons_zero, List.set_cons_succ]))
          (refine wpTree_qn 21 hTok hOps (by kernel_rfl) rfl rfl ?_; (try simp only [Act.put, List.setIfInBounds_toArray, List.set_cons_zero, List.set_cons_succ]))
          (refine wpTree_qn 9 hTok hOps (by kernel_rfl) rfl rfl ?_; (try simp only [Act.put, List.setIfInBounds_toArray, List.set_cons_zero, List.set_cons_succ]))
          (refine wpTree_qn 11 hTok hOps (by kernel_rfl) rfl rfl ?_; (try simp only [Act.put, List.setIfInBounds_toArray, List.set_cons_zero, List.set_cons_succ]))
          (refine wpTree_qn 14 hTok hOps (by kernel_rfl) rfl rfl ?_; (try simp only [Act.put, List.setIfInBounds_toArray, List.set_cons_zero, List.set_cons_succ]))
          (refine wpTree_qn 17 hTok hOps (by kernel_rfl) rfl rfl ?_; (try simp only [Act.put, List.setIfInBounds_toArray, List.set_cons_zero, List.set_cons_succ]))
          refine wpTree_nil hOps (by kernel_rfl) ?_
          refine hT.out _ _ ?_
          simp only [List.drop_succ_cons, List.drop_zero]
          clear hOps hT hTok hHeld
          go_wp2_with fail
          go_meet
          case rel => exact ⟨rfl, (Below.refl _ _).drew⟩
      case rest =>
        obtain ⟨rfl, hbc⟩ := hcut
        obtain ⟨w2, hw2⟩ : ∃ w2, w2 = wc := ⟨_, rfl⟩
        rw [← hw2] at hbc ⊢
        clear hw2
        have hfull' := hfull.out
        cases full with
        | true =>
          have hcond : (m : Int) < (nn : Int) + k ∧ M.room < (U : Int) + nn + k - m := by simpa using hfull'.symm
          have hgo := RStep.same h hbc
          have hrq : rs = (6, M) := by rw [hrs.out, if_pos hcond]
          clear hfull hfull' hcond hrs
          subst hrq
          go_wp2_with fail
          go_ret
          exact ⟨rfl, hgo⟩
        | false =>
          have hcond : ¬ ((m : Int) < (nn : Int) + k ∧ M.room < (U : Int) + nn + k - m) := by simpa using hfull'.symm
          have hrq : Hid (rs = (0, { M with now := withL M.now s (overB f.bs nn db), chs := M.chs ++ [⟨0, s, nn, db⟩] })) := Lib.hid (by rw [hrs.out, if_neg hcond])
          have hnk : nn + k ≤ 1073741824 := by omega
          clear hfull hfull' hcond hus2 hrs
          have h2 := h.below hbc
          have c22 : w2.cell? ⟨mb, 2, none⟩ = some r.nv := h2.blk.cellAt rfl
          rw [hslot.out] at c22
          have hb2 : base ≤ w2.heap.size := Nat.le_trans hb hbc.size
          have hov : ∀ wy, Below w2.heap.size w2 wy → Calls Try.prog 53 #[.slice f.ao m f.cap, .int .i64 nn, .slice da k dc] wy fun e w' => ∃ v, e = .returned v ∧ OwnL encU w' wy.heap.size 5 1 v (overB f.bs nn db) ∧ Below wy.heap.size wy w' := fun wy hy => by
            have hzy := hbc.trans (hy.mono hbc.size)
            have := over_any f.ao f.cap f.bs nn da dc db wy (slaf (hfa.below hzy (Nat.le_refl _))) (hd.imp hzy hzy.size (fun cs x _ h => h)) (by rw [← hm.out]; exact hnm) (by rw [← hm.out]; omega) (by rw [← hk.out]; omega)
            rw [← hm.out, ← hk.out] at this
            exact this
          go_upto_region 9 with fail
          refine wp_region_tree (fun wx => wx.cell? ⟨mb, 2, none⟩ = some (.slice na nl nc)) 11 14 (by kernel_rfl) rfl (by kernel_rfl) (fun d _ _ _ _ h => by cases d <;> exact h) (c22) (fun opz T hOps hT hTok hHeld => ?_)
          (refine wpTree_q 0 hTok hOps (by kernel_rfl) rfl rfl ⟨?_, ?_, ?_⟩; rotate_left; (focus (intro wx hSx; (try dsimp only at hSx); go_simp; (try with_reducible rfl))); (simp only [Act.put, List.setIfInBounds_toArray, List.set_cons_zero, List.set_cons_succ]))
          (refine wpTree_q 1 hTok hOps (by kernel_rfl) rfl rfl ⟨?_, ?_, ?_⟩; rotate_left; (focus (intro wx hSx; (try dsimp only at hSx); go_simp; (try with_reducible rfl))); (simp only [Act.put, List.setIfInBounds_toArray, List.set_cons_zero, List.set_cons_succ]))
          (refine wpTree_q 2 hTok hOps (by kernel_rfl) rfl rfl ⟨?_, ?_, ?_⟩; rotate_left; (focus (intro wx hSx; (try dsimp only at hSx); go_simp; (try with_reducible rfl))); (simp only [Act.put, List.setIfInBounds_toArray, List.set_cons_zero, List.set_cons_succ]))
          (refine wpTree_q 3 hTok hOps (by kernel_rfl) rfl rfl ⟨?_, ?_, ?_⟩; rotate_left; (focus (intro wx hSx; (try dsimp only at hSx); go_simp; (try with_reducible rfl))); (simp only [Act.put, List.setIfInBounds_toArray, List.set_cons_zero, List.set_cons_succ]))
          (refine wpTree_q 4 hTok hOps (by kernel_rfl) rfl rfl ⟨?_, ?_, ?_⟩; rotate_left; (focus (intro wx hSx; (try dsimp only at hSx); go_simp; (try with_reducible rfl))); (simp only [Act.put, List.setIfInBounds_toArray, List.set_cons_zero, List.set_cons_succ]))
          (refine wpTree_q 5 hTok hOps (by kernel_rfl) rfl rfl ⟨?_, ?_, ?_⟩; rotate_left; (focus (intro wx hSx; (try dsimp only at hSx); go_simp; (try with_reducible rfl))); (simp only [Act.put, List.setIfInBounds_toArray, List.set_cons_zero, List.set_cons_succ]))
          (refine wpTree_q 6 hTok hOps (by kernel_rfl) rfl rfl ⟨?_, ?_, ?_⟩; rotate_left; (focus (intro wx hSx; (try dsimp only at hSx); go_simp; (try with_reducible rfl))); (simp only [Act.put, List.setIfInBounds_toArray, List.set_cons_zero, List.set_cons_succ]))
          (refine wpTree_q 7 hTok hOps (by kernel_rfl) rfl rfl ⟨?_, ?_, ?_⟩; rotate_left; (focus (intro wx hSx; (try dsimp only at hSx); go_simp; (try with_reducible rfl))); (simp only [Act.put, List.setIfInBounds_toArray, List.set_cons_zero, List.set_cons_succ]))
          (refine wpTree_q 8 hTok hOps (by kernel_rfl) rfl rfl ⟨?_, ?_, ?_⟩; rotate_left; (focus (intro wx hSx; (try dsimp only at hSx); go_simp; (try with_reducible rfl))); (simp only [Act.put, List.setIfInBounds_toArray, List.set_cons_zero, List.set_cons_succ]))
          refine wpTree_1 9 hOps (by kernel_rfl) (by decide) rfl (fun K' hK => ?_)
          go_simp
          refine (hov _ (Below.refl _ _).drew).mono ?_
          rintro e w3 ⟨v3, rfl, hown3, hb3⟩
          have hb3' : Below w2.heap.size w2 w3 := ((Below.refl _ _).drew).trans (hb3.mono (Nat.le_refl _))
          have hf3 : FileAt w3 base v3 (overB f.bs nn db) := (FileAt.own hown3).base_le hb2
          obtain ⟨f3, rfl, hf3b⟩ := hf3.fv
          rw [← hf3b] at hf3
          have h3 := h2.below hb3'
          have c23 := (hb3'.cell (p := ⟨mb, 2, none⟩) h2.blk.lt).trans c22
          have hwi := with_any s f3 base r.nv r.now w3 h3.now (Nat.le_trans (h.len_now hok) hN)
          rw [hslot.out] at hwi
          dsimp only
          refine hK.out _ _ c23 ?_
          clear hK K'
          try simp only [Act.put, List.setIfInBounds_toArray, List.set_cons_zero, List.set_cons_succ]
          refine wpTree_1 10 hOps (by kernel_rfl) (by decide) rfl (fun K' hK => ?_)
          go_simp
          refine hwi.mono ?_
          rintro e w4 ⟨v4, rfl, hfl4, hb4⟩
          have h4 := h3.below hb4
          have c24 := (hb4.cell (p := ⟨mb, 2, none⟩) h3.blk.lt).trans c23
          have hf4 := hf3.below hb4 (Nat.le_refl _)
          have hfil : ∀ p ∈ withL r.now s f3, FileAt w4 base p.2.v p.2.bs := fun p hp => by
            rcases mem_withL hp with rfl | ⟨hp, _⟩
            · exact hf4
            · exact h4.filn p hp
          have h5 := h4.setNow (hfl4.base_le (Nat.le_trans hb2 hb3'.size)) hfil (show mapL FV.bs (withL r.now s f3) = withL M.now s f3.bs by rw [withL_map, h.nq])
          have cf4 := h4.blk.frozen 2
          obtain ⟨a4, k4, hv4, _, _, _⟩ := hfl4.slice
          obtain ⟨n4, hn4⟩ : ∃ n4, n4 = (withL r.now s f3).length := ⟨_, rfl⟩
          rw [← hn4] at hv4
          subst hv4
          replace hn4 := Lib.hid hn4
          dsimp only
          refine hK.out _ _ c24 ?_
          clear hK K'
          try simp only [Act.put, List.setIfInBounds_toArray, List.set_cons_zero, List.set_cons_succ]
          refine wpTree_nil hOps (by kernel_rfl) ?_
          refine hT.out _ _ ?_
          simp only [List.drop_succ_cons, List.drop_zero]
          clear hOps hT hTok hHeld
          clear hov hwi hown3 hb3 hfl4 hfil hf4 hf3 c22 c23 h3 h2
          have hb24 : Below w2.heap.size w2 w4 := hb3'.trans (hb4.mono hb3'.size)
          have hlt4 := h4.blk.lt
          go_upto_region 10 with fail
          obtain ⟨w5, hw5⟩ : ∃ w5, w5 = w4.setCell ⟨mb, 2, none⟩ (.slice a4 n4 k4) := ⟨_, rfl⟩
          have hg5 : Chg (RS r mb) wz w5 := by
            rw [hw5]
            exact (((Chg.of_below (hbc.trans (hb24.mono hbc.size))).mono (fun k h1 h2 => by omega))).setCell _ _ (fun _ => .inl rfl)
          have hd5 : SlA w5.heap.size 1 EU w5 da dc db := by
            exact hd0.imp (hg5.below hb (fun k hk e => by have := h.base_le k e; omega)) (Nat.le_trans hb hg5.size) (fun cs x _ h => h)
          rw [← hw5] at h5 ⊢
          clear hw5 c24 cf4 h4 hb24 hb4 hb3' hbc
          have hb5 : base ≤ w5.heap.size := Nat.le_trans hb hg5.size
          obtain ⟨ca, cc, hcv, hcl1, hcl2, _⟩ := h5.row.slice
          dsimp only at hcv hcl1 hcl2
          have c4 : w5.cell? ⟨mb, 4, none⟩ = some r.cv := h5.blk.cellAt rfl
          obtain ⟨L, hL⟩ : ∃ L, L = r.chs.length := ⟨_, rfl⟩
          rw [hcv, ← hL] at c4
          replace hL := Lib.hid hL
          replace hcv := Lib.hid hcv
          obtain ⟨iu, hiu, hu0, hu1, hu2⟩ := partsU
          obtain ⟨ic, hic, hc0, hc1, hc2⟩ := partsRc
          have hLN : L ≤ 1000000 := by
            rw [hL.out]
            have q1 := congrArg List.length h.chq
            rw [List.length_map] at q1
            have := hok.lsc
            omega
          refine wp_region_tree (fun wx => wx.cell? ⟨mb, 4, none⟩ = some (.slice ca L cc)) 13 16 (by kernel_rfl) rfl (by kernel_rfl) (fun d _ _ _ _ h => by cases d <;> exact h) (c4) (fun opz T hOps hT hTok hHeld => ?_)
          (refine wpTree_q 0 hTok hOps (by kernel_rfl) rfl rfl ⟨?_, ?_, ?_⟩; rotate_left; (focus (intro wx hSx; (try dsimp only at hSx); go_simp; (try with_reducible rfl))); (simp only [Act.put, List.setIfInBounds_toArray, List.set_cons_zero, List.set_cons_succ]))
          (refine wpTree_q 1 hTok hOps (by kernel_rfl) rfl rfl ⟨?_, ?_, ?_⟩; rotate_left; (focus (intro wx hSx; (try dsimp only at hSx); go_simp; (try with_reducible rfl))); (simp only [Act.put, List.setIfInBounds_toArray, List.set_cons_zero, List.set_cons_succ]))
          (refine wpTree_q 2 hTok hOps (by kernel_rfl) rfl rfl ⟨?_, ?_, ?_⟩; rotate_left; (focus (intro wx hSx; (try dsimp only at hSx); go_simp; (try with_reducible rfl))); (simp only [Act.put, List.setIfInBounds_toArray, List.set_cons_zero, List.set_cons_succ]))
          (refine wpTree_q 3 hTok hOps (by kernel_rfl) rfl rfl ⟨?_, ?_, ?_⟩; rotate_left; (focus (intro wx hSx; (try dsimp only at hSx); go_simp; (try with_reducible rfl))); (simp only [Act.put, List.setIfInBounds_toArray, List.set_cons_zero, List.set_cons_succ]))
          (refine wpTree_q 4 hTok hOps (by kernel_rfl) rfl rfl ⟨?_, ?_, ?_⟩; rotate_left; (focus (intro wx hSx; (try dsimp only at hSx); go_simp; (try with_reducible rfl))); (simp only [Act.put, List.setIfInBounds_toArray, List.set_cons_zero, List.set_cons_succ]))
          (refine wpTree_q 5 hTok hOps (by kernel_rfl) rfl rfl ⟨?_, ?_, ?_⟩; rotate_left; (focus (intro wx hSx; (try dsimp only at hSx); go_simp; (try with_reducible rfl))); (simp only [Act.put, List.setIfInBounds_toArray, List.set_cons_zero, List.set_cons_succ]))
          (refine wpTree_q 6 hTok hOps (by kernel_rfl) rfl rfl ⟨?_, ?_, ?_⟩; rotate_left; (focus (intro wx hSx; (try dsimp only at hSx); go_simp; (try with_reducible rfl))); (simp only [Act.put, List.setIfInBounds_toArray, List.set_cons_zero, List.set_cons_succ]))
          (refine wpTree_q 8 hTok hOps (by kernel_rfl) rfl rfl ⟨?_, ?_, ?_⟩; rotate_left; (focus (intro wx hSx; (try dsimp only at hSx); go_simp; (try with_reducible rfl))); (simp only [Act.put, List.setIfInBounds_toArray, List.set_cons_zero, List.set_cons_succ]))
          refine wpTree_world ?_
          intro y5 hy5
          have hby5 : Below w5.heap.size w5 y5 := by rw [hy5]; exact (Below.refl _ _).drew
          have c4y : y5.cell? ⟨mb, 4, none⟩ = some (.slice ca L cc) := by rw [hy5]; exact c4
          clear hy5 c4
          have hlm5 := World.lt_of_cell c4y
          dsimp only at hlm5
          refine wpTree_1 7 hOps (by kernel_rfl) (by decide) rfl (fun K' hK => ?_)
          go_simp
          have hba5 := belowAlloc y5 (.cells #[] 5)
          have c4a := (hba5.cell (p := ⟨mb, 4, none⟩) hlm5).trans c4y
          refine hK.out _ _ c4a ?_
          clear hK K'
          try simp only [Act.put, List.setIfInBounds_toArray, List.set_cons_zero, List.set_cons_succ]
          refine wpTree_1 9 hOps (by kernel_rfl) (by decide) rfl (fun K' hK => ?_)
          have hde : SlA (y5.alloc (.cells #[] 5)).heap.size 1 (fun _ cs x => cs = encU x) (y5.alloc (.cells #[] 5)) da dc db := hd5.imp (hby5.trans (hba5.mono hby5.size)) (Nat.le_trans hby5.size hba5.size) (fun cs x _ h => h)
          refine step_app_sla (xs := []) (ys := db) (enc := encU) (base := y5.heap.size) _ rfl _ _ 23 rfl Try.underlying23 hiu hu0 hu1 hu2 rfl (by decide) rfl (ownEmpty y5 1 5) (by show Value.slice da k dc = _; rw [hk.out]) hde encU_len encU_one (by have := hk.out; unfold maxLen; simp; omega) (by have := hk.out; simp; omega) (by simp) ?_
          intro v6 w6 hown6 hgr6
          rw [List.nil_append] at hown6
          have hb56 : Below y5.heap.size y5 w6 := hba5.grown hgr6 (by simp) (fun g hg => by simp [Act.eval, Value.ownBlock] at hg; omega)
          have c46 := (hb56.cell (p := ⟨mb, 4, none⟩) hlm5).trans c4y
          have hb6 : Below w5.heap.size w5 w6 := hby5.trans (hb56.mono hby5.size)
          have hf6 : FileAt w6 base v6 db := (FileAt.own hown6).base_le (Nat.le_trans hb5 hby5.size)
          obtain ⟨f6, rfl, hf6b⟩ := hf6.fv
          rw [← hf6b] at hf6
          have hf6v : f6.v = .slice f6.ao k f6.cap := by unfold FV.v; rw [hf6b, ← hk.out]
          rw [hf6v]
          refine hK.out _ _ c46 ?_
          clear hK K'
          try simp only [Act.put, List.setIfInBounds_toArray, List.set_cons_zero, List.set_cons_succ]
          clear hde hown6 hgr6 hba5 c4a c4y hb56 hby5 hd5
          (refine wpTree_q 10 hTok hOps (by kernel_rfl) rfl rfl ⟨?_, ?_, ?_⟩; rotate_left; (focus (intro wx hSx; (try dsimp only at hSx); go_simp; (try with_reducible rfl))); (simp only [Act.put, List.setIfInBounds_toArray, List.set_cons_zero, List.set_cons_succ]))
          have h6 := h5.below hb6
          have hbl6 := World.lt_of_cell c46
          dsimp only at hbl6
          have hb6s : base ≤ w6.heap.size := Nat.le_trans hb5 hb6.size
          refine wpTree_1 11 hOps (by kernel_rfl) (by decide) rfl (fun K' hK => ?_)
          go_simp
          refine hK.out _ _ (((belowAlloc w6 _).cell (p := ⟨mb, 4, none⟩) hbl6).trans c46) ?_
          clear hK K'
          try simp only [Act.put, List.setIfInBounds_toArray, List.set_cons_zero, List.set_cons_succ]
          refine wpTree_1 12 hOps (by kernel_rfl) (by decide) rfl (fun K' hK => ?_)
          have hencc : encC ⟨0, s, nn, f6⟩ = [.int .i64 0, .string s, .int .i64 nn, .slice f6.ao k f6.cap] := by unfold encC; rw [hf6v]; rfl
          have hrow6 := h6.row
          dsimp only at hrow6
          rw [hcv.out, ← hL.out] at hrow6
          change if _ = true then Oper.wp _ _ _ (w6.alloc (.cells ([.int .i64 0, .string s, .int .i64 nn, .slice f6.ao k f6.cap] : List Value).toArray 91)) _ _ else _
          rw [← hencc]
          refine step_app1g rfl _ _ 43 rfl Try.underlying43 hic hc0 hc1 hc2 rfl (by decide) (enc := encC) ⟨0, s, nn, f6⟩ rfl hrow6 rfl (encC_len _) (encC_one _) (by rw [← hL.out]; omega) (by rw [← hL.out]; unfold maxLen; omega) hb6s ?_
          intro g cap7 w7 hown7 hgr7
          rw [← hL.out] at hown7 hgr7 ⊢
          have hgr5 : Grew w5 (.slice ca L cc) w7 (.slice (some ⟨g, 0, none⟩) (L + 1) cap7) := (Grew.of_below hb6 _).trans hgr7
          have hne6 := hrow6.ne_blk h6.blk (by decide)
          have hbk7 := hgr7.blk h6.blk hne6
          have c47 : w7.cell? ⟨mb, 4, none⟩ = some (.slice ca L cc) := hbk7.cellAt (by dsimp only; rw [hcv.out, ← hL.out]; rfl)
          refine hK.out _ _ c47 ?_
          clear hK K'
          try simp only [Act.put, List.setIfInBounds_toArray, List.set_cons_zero, List.set_cons_succ]
          refine wpTree_nil hOps (by kernel_rfl) ?_
          refine hT.out _ _ ?_
          simp only [List.drop_succ_cons, List.drop_zero]
          clear hOps hT hTok hHeld
          have hf7 : FileAt w7 base f6.v f6.bs := hf6.chg (Chg.of_grown hgr7.grown) (fun k2 hk2 cs hb2 => hrow6.ne_blk hb2 (by decide) hk2)
          have cf7 := hbk7.frozen 4
          have h8 := h5.push (v' := .slice (some ⟨g, 0, none⟩) (L + 1) cap7) (c := ⟨0, s, nn, f6⟩) (by dsimp only; rw [hcv.out, ← hL.out]; exact hgr5) hown7 hf7
          have hst : RStep wz base mb r rs.2 (w7.setCell ⟨mb, 4, none⟩ (.slice (some ⟨g, 0, none⟩) (L + 1) cap7)) := by
            rw [hrq.out]
            have habs : CH.abs ⟨0, s, nn, f6⟩ = ⟨0, s, nn, db⟩ := by unfold CH.abs; rw [hf6b]
            rw [habs, hf3b] at h8
            have hgr5' : Grew w5 ({ r with nv := .slice a4 n4 k4, now := withL r.now s f3 } : RX).cv w7 (.slice (some ⟨g, 0, none⟩) (L + 1) cap7) := by dsimp only; rw [hcv.out, ← hL.out]; exact hgr5
            exact RStep.then (r1 := { r with nv := .slice a4 n4 k4, now := withL r.now s f3 }) hg5 (fun k2 hk2 => .inl hk2) h8 (rpush_chg hgr5') (rpush_rs hgr5' rfl)
          have hrs1 : rs.1 = 0 := by rw [hrq.out]
          clear h8 h5 h6 hrow6 hgr5 hgr7 hown7 hf7 hcv hL hcl1 hcl2 hg5 hne6 hencc c46
          go_wp2_with fail
          go_ret
          exact ⟨by first | rfl | (rw [hrs1]; rfl), hst⟩
  · have hwm : writeM M s n db = (er, M) := by unfold writeM; rw [← her, if_pos he]
    rw [hwm]
    have d1 : ((er : Int) != 0) = true := by simp; omega
    clear hwm he her h hok hd hd0
    go_enter Try.func39, Try.ntmps39
    go_wp2_with fail
    refine hrd.mono ?_
    rintro e wz ⟨rfl, rfl⟩
    dsimp only
    go_wp2_with fail
    go_ret
    exact ⟨rfl, hgo0⟩
end Go.Proofs.Ytjhbeahkojippaa
