/- Disk: Write, Cut, Remove. -/
import Derived.Test.YtjgiphoolfhlmaaDe
namespace Go.Proofs.Ytjgiphoolfhlmaa
open Go.RowKit Go.Maps
attribute [local go_sem] Oper.semAt_some
set_option linter.unusedVariables false
set_option linter.unusedSimpArgs false

theorem infoCh : (Try.prog.info? 73).map (fun i => (i.zero, i.size, i.bytes)) = some (some (.agg #[.int .i64 0, .string ⟨#[]⟩, .int .i64 0, .slice none 0 0]), 4, 56) := by kernel_rfl
theorem partsCh : ∃ i, Try.prog.info? 73 = some i ∧ i.zero = some (.agg #[.int .i64 0, .string ⟨#[]⟩, .int .i64 0, .slice none 0 0]) ∧ i.size = 4 ∧ i.bytes = 56 := infoParts infoCh
theorem slaf {w : World} {base : Nat} {f : FV} (h : FileAt w base f.v f.bs) : SlA w.heap.size 1 EU w f.ao f.cap f.bs := by
  obtain ⟨ao, cap, hv, hs⟩ := h.sla
  unfold FV.v at hv
  simp only [Value.slice.injEq, true_and] at hv
  rw [hv.1, hv.2]
  exact hs
/-- A slice of bytes abides what turns maps alone. -/
theorem slaU_chg {S : Nat → Prop} {w w' : World} {ao : Option Addr} {cap : Nat} {bs : List UInt8} (h : SlA w.heap.size 1 EU w ao cap bs) (hc : Chg S w w') (hS : ∀ k, S k → ∀ o, w.cell? ⟨k, o, none⟩ = none) : SlA w'.heap.size 1 EU w' ao cap bs := by
  obtain ⟨h1, h2, h3, h4⟩ := h
  refine ⟨h1, h2, h3, fun hne => ?_⟩
  obtain ⟨b, off, rfl, hlt, h5⟩ := h4 hne
  refine ⟨b, off, rfl, Nat.lt_of_lt_of_le hlt hc.size, fun i hi => ?_⟩
  obtain ⟨cs, h6, h7, h8⟩ := h5 i hi
  refine ⟨cs, h6, fun j hj => ?_, h8⟩
  rw [← h7 j hj]
  refine hc.cell hlt (fun s => ?_)
  have h9 := h7 0 (by omega)
  rw [hS b s, h8] at h9
  simp [encU] at h9
theorem Dsk.no_cells {w : World} {base b : Nat} {x : DX} {M : DM} (h : Dsk w base b x M) : ∀ k, (k = x.mn ∨ k = x.md) → ∀ o, w.cell? ⟨k, o, none⟩ = none := by
  rintro k (rfl | rfl) o
  · obtain ⟨ms, cl, hb⟩ := h.mapn.obj
    simp [World.cell?, hb]
  · obtain ⟨ms, cl, hb⟩ := h.maps.obj
    simp [World.cell?, hb]
theorem mapL_len {α β : Type} (f : α → β) (l : List (ByteArray × α)) : (mapL f l).length = l.length := by simp [mapL]
theorem nowN {w : World} {base b : Nat} {x : DX} {M : DM} {N : Nat} (h : Dsk w base b x M) (hok : OkM N M) : (entF x.now).length ≤ N := by
  have h1 := h.permn.length_eq
  have h2 := hok.ln
  rw [mapL_len] at h1 ⊢
  omega
theorem safeN {w : World} {base b : Nat} {x : DX} {M : DM} {N : Nat} (h : Dsk w base b x M) (hok : OkM N M) : (entF x.safe).length ≤ N := by
  have h1 := h.perms.length_eq
  have h2 := hok.lsc
  rw [mapL_len] at h1 ⊢
  omega
theorem chsN {w : World} {base b : Nat} {x : DX} {M : DM} {N : Nat} (h : Dsk w base b x M) (hok : OkM N M) : x.chs.length ≤ N := by
  have := congrArg List.length h.chq
  rw [List.length_map] at this
  have h2 := hok.lsc
  omega

set_option maxRecDepth 100000 in
set_option maxHeartbeats 4000000 in
theorem write_any {base b : Nat} {x : DX} {M : DM} {N : Nat} (s : ByteArray) (n : Int) (da : Option Addr) (dc : Nat) (db : List UInt8) (w : World) (hs : s.size ≤ maxLen) (h : Dsk w base b x M) (hok : OkM N M) (hN : N ≤ 1000000) (hb : base ≤ w.heap.size) (hd : SlA w.heap.size 1 EU w da dc db) (hdz : db.length ≤ 140737488355328) :
    Calls Try.prog 24 #[.pointer (some ⟨b, 0, none⟩), .string s, .int .i64 n, .slice da db.length dc] w fun e w' => e = .returned (.int .i64 (writeM M s n db).1) ∧ DStep w base b x (writeM M s n db).2 w' := by
  obtain ⟨ii, hi, hz0, hz1, hz2⟩ := partsCh
  have hrd := ready_any b M s n w hs h.c1
  obtain ⟨k, hk⟩ : ∃ k, k = db.length := ⟨_, rfl⟩
  rw [← hk]
  obtain ⟨er, her⟩ : ∃ er, er = readyM M s n := ⟨_, rfl⟩
  rw [← her] at hrd
  by_cases he : er = 0
  · subst he
    obtain ⟨hf, hrt, hn0⟩ := ready0 her.symm
    obtain ⟨nn, rfl⟩ : ∃ nn : Nat, n = nn := ⟨n.toNat, by omega⟩
    obtain ⟨f, hfo⟩ : ∃ f, f = fileOf x.now s := ⟨_, rfl⟩
    have hfb : f.bs = bytesOf M.now s := by rw [hfo]; exact fileOf_bs h.permn hok.now s
    have hfa : FileAt w base f.v f.bs := by rw [hfo]; exact fileOf_at h.filn s
    have hlk : (getE (entF x.now) s).getD (.slice none 0 0) = f.v := by rw [hfo]; exact fileOf_v x.now s
    obtain ⟨m, hm⟩ : ∃ m, m = f.bs.length := ⟨_, rfl⟩
    have hfv : f.v = .slice f.ao m f.cap := by rw [hm]; rfl
    rw [hfv] at hlk
    have hmb : m = (bytesOf M.now s).length := by rw [hm, hfb]
    have hm30 : m ≤ 1073741824 := by rw [hmb]; exact bytesOf_le (fun p hp => (hok.nown p hp).2) s
    obtain ⟨U, hU⟩ : ∃ U, U = sumL M.now := ⟨_, rfl⟩
    have hmU : m ≤ U := by rw [hmb, hU]; exact bytesOf_sum M.now s
    have hU50 : U ≤ 1073741824000000 := by rw [hU]; exact Nat.le_trans (sumL_le (fun p hp => (hok.nown p hp).2)) (Nat.mul_le_mul_right _ (Nat.le_trans hok.ln hN))
    obtain ⟨hroom1, hroom2⟩ := hok.room
    have hwm : writeM M s nn db = if (m : Int) < nn then (8, M) else if (m : Int) < (nn : Int) + k ∧ M.room < (U : Int) + nn + k - m then (6, M) else (0, { M with now := withL M.now s (overB f.bs nn db), chs := M.chs ++ [⟨0, s, nn, db⟩] }) := by
      unfold writeM
      rw [← her, ← hmb, ← hU, ← hk, hfb]
      simp
    have c2 := h.c2
    have hM := h.mapn
    rw [← hk] at hdz
    by_cases hgt : (m : Int) < nn
    · rw [hwm, if_pos hgt]
      have d1 : decide ((m : Int) < (nn : Int)) = true := by simp; omega
      have d2 : decide (m < nn) = true := by simp; omega
      have hgo : ∀ w1, Below w.heap.size w w1 → DStep w base b x M w1 := fun w1 h1 => DStep.same h h1
      have hMb : ∀ w1, Below w.heap.size w w1 → MapL Try.prog 9 klT wfT w1 x.mn (entF x.now) := fun w1 h1 => hM.below h1 hM.lt
      have hcb : ∀ w1, Below w.heap.size w w1 → w1.cell? ⟨b, 2, none⟩ = some (.map (some x.mn)) := fun w1 h1 => (h1.cell (p := ⟨b, 2, none⟩) h.blk.lt).trans c2
      replace hm := Lib.hid hm
      replace hk := Lib.hid hk
      clear hwm hU hmb hfb hfo hfv her hgt c2 hM
      go_enter Try.func24, Try.ntmps24
      go_wp2_with fail
      refine hrd.mono ?_
      rintro e w1 ⟨rfl, hb1⟩
      have hM1 := hMb w1 hb1
      have c2 := hcb w1 hb1
      dsimp only
      go_wp2_with (at_lookup; refine wpList_lookupL rfl _ _ _ _ rfl keyN hM1 Try.underlying52 (zeroB _) (x := s) hs rfl rfl ?_; simp only [Bool.false_eq_true, if_false, hlk])
      go_ret
      exact ⟨rfl, hgo _ hb1⟩
    · rw [hwm, if_neg hgt]
      obtain ⟨rs, hrs⟩ : ∃ rs : Nat × DM, rs = if (m : Int) < (nn : Int) + k ∧ M.room < (U : Int) + nn + k - m then (6, M) else (0, { M with now := withL M.now s (overB f.bs nn db), chs := M.chs ++ [⟨0, s, nn, db⟩] }) := ⟨_, rfl⟩
      rw [← hrs]
      replace hrs := Lib.hid hrs
      have d1 : decide ((m : Int) < (nn : Int)) = false := by simp; omega
      have d2 : decide (m < nn) = false := by simp; omega
      have hnm : nn ≤ m := by omega
      obtain ⟨full, hfull⟩ : ∃ full, full = decide ((m : Int) < (nn : Int) + k ∧ M.room < (U : Int) + nn + k - m) := ⟨_, rfl⟩
      have hcb : ∀ w1, Below w.heap.size w w1 → w1.cell? ⟨b, 2, none⟩ = some (.map (some x.mn)) := fun w1 h1 => (h1.cell (p := ⟨b, 2, none⟩) h.blk.lt).trans c2
      have hus2 : ∀ w1, Below w.heap.size w w1 → Calls Try.prog 40 #[.pointer (some ⟨b, 0, none⟩)] w1 fun e w' => e = .returned (.int .i64 (U : Nat)) ∧ Below w1.heap.size w1 w' := fun w1 h1 => by
        have := used_any w1 (h.below h1) hok hN
        rw [← hU] at this
        exact this
      replace hus2 := Lib.hid hus2
      replace hcb := Lib.hid hcb
      replace hm := Lib.hid hm
      replace hk := Lib.hid hk
      replace hU := Lib.hid hU
      replace hfull := Lib.hid hfull
      replace hfo := Lib.hid hfo
      replace hfb := Lib.hid hfb
      clear hwm hmb hfv her c2
      go_enter Try.func24, Try.ntmps24
      go_wp2_with fail
      refine hrd.mono ?_
      rintro e w1 ⟨rfl, hb1⟩
      have h1 := h.below hb1
      have hM1 := h1.mapn
      have c2 := h1.c2
      dsimp only
      go_upto_region 8 with (at_lookup; refine wpList_lookupL rfl _ _ _ _ rfl keyN hM1 Try.underlying52 (zeroB _) (x := s) hs rfl rfl ?_; simp only [Bool.false_eq_true, if_false, hlk])
      clear hlk hM1 hrd
      obtain ⟨mr, hmr⟩ : ∃ mr : Int, mr = (nn : Int) + (k : Int) - (m : Int) := ⟨_, rfl⟩
      rw [← hmr]
      have hmr1 : -1073741824 ≤ mr := by omega
      have hmr2 : mr ≤ 140738562097152 := by omega
      replace hmr := Lib.hid hmr
      go_cut [48] from 36 (fun s48 wx => s48 = .bool full ∧ Below w.heap.size w wx)
      case first =>
        have c0 := h1.c0
        by_cases hmore : (m : Int) < (nn : Int) + k
        · have e1 : Hid (decide (0 < mr) = true) := Lib.hid (by have := hmr.out; simp; omega)
          have hfq : full = decide (M.room - (U : Int) < mr) := by
            rw [hfull.out, hmr.out]
            apply decide_eq_decide.2
            omega
          have hus3 := hus2.out w1.drew hb1.drew
          clear hmore
          replace hfq := Lib.hid hfq
          refine wp_region_tree (fun wx => wx.cell? ⟨b, 0, none⟩ = some (.int .i64 M.room)) 11 13 (by kernel_rfl) rfl (by kernel_rfl) (fun d _ _ _ _ h => by cases d <;> exact h) (c0) (fun opz T hOps hT hTok hHeld => ?_)
          (refine wpTree_q 0 hTok hOps (by kernel_rfl) rfl rfl ⟨?_, ?_, ?_⟩; rotate_left; (focus (intro wx hSx; (try dsimp only at hSx); go_simp; (try with_reducible rfl))); (simp only [Act.put, List.setIfInBounds_toArray, List.set_cons_zero, List.set_cons_succ]))
          (refine wpTree_q 1 hTok hOps (by kernel_rfl) rfl rfl ⟨?_, ?_, ?_⟩; rotate_left; (focus (intro wx hSx; (try dsimp only at hSx); go_simp; (try with_reducible rfl))); (simp only [Act.put, List.setIfInBounds_toArray, List.set_cons_zero, List.set_cons_succ]))
          (refine wpTree_q 2 hTok hOps (by kernel_rfl) rfl rfl ⟨?_, ?_, ?_⟩; rotate_left; (focus (intro wx hSx; (try dsimp only at hSx); go_simp; (try with_reducible rfl))); (simp only [Act.put, List.setIfInBounds_toArray, List.set_cons_zero, List.set_cons_succ]))
          simp only [e1.out]
          (refine wpTree_qg 3 hTok hOps (by kernel_rfl) rfl rfl ⟨?_, ?_, ?_⟩; rotate_left; (focus (intro wx hSx; (try dsimp only at hSx); go_simp; (try with_reducible rfl))); (simp only [Act.put, List.setIfInBounds_toArray, List.set_cons_zero, List.set_cons_succ]))
          (refine wpTree_qg 4 hTok hOps (by kernel_rfl) rfl rfl ⟨?_, ?_, ?_⟩; rotate_left; (focus (intro wx hSx; (try dsimp only at hSx); go_simp; (try with_reducible rfl))); (simp only [Act.put, List.setIfInBounds_toArray, List.set_cons_zero, List.set_cons_succ]))
          (refine wpTree_qg 5 hTok hOps (by kernel_rfl) rfl rfl ⟨?_, ?_, ?_⟩; rotate_left; (focus (intro wx hSx; (try dsimp only at hSx); go_simp; (try with_reducible rfl))); (simp only [Act.put, List.setIfInBounds_toArray, List.set_cons_zero, List.set_cons_succ]))
          (refine wpTree_qg 6 hTok hOps (by kernel_rfl) rfl rfl ⟨?_, ?_, ?_⟩; rotate_left; (focus (intro wx hSx; (try dsimp only at hSx); go_simp; (try with_reducible rfl))); (simp only [Act.put, List.setIfInBounds_toArray, List.set_cons_zero, List.set_cons_succ]))
          (refine wpTree_qg 7 hTok hOps (by kernel_rfl) rfl rfl ⟨?_, ?_, ?_⟩; rotate_left; (focus (intro wx hSx; (try dsimp only at hSx); go_simp; (try with_reducible rfl))); (simp only [Act.put, List.setIfInBounds_toArray, List.set_cons_zero, List.set_cons_succ]))
          (refine wpTree_qg 8 hTok hOps (by kernel_rfl) rfl rfl ⟨?_, ?_, ?_⟩; rotate_left; (focus (intro wx hSx; (try dsimp only at hSx); go_simp; (try with_reducible rfl))); (simp only [Act.put, List.setIfInBounds_toArray, List.set_cons_zero, List.set_cons_succ]))
          refine wpTree_1g 9 hOps (by kernel_rfl) (by decide) rfl rfl (fun K' hK => ?_)
          go_simp
          refine hus3.mono ?_
          rintro e w2 ⟨rfl, hb2⟩
          have hb2' : Below w.heap.size w w2 := hb1.drew.trans (hb2.mono hb1.size)
          have c0' : w2.cell? ⟨b, 0, none⟩ = some (.int .i64 M.room) := (h.below hb2').c0
          dsimp only
          refine hK.out _ _ c0' ?_
          clear hK K'
          try simp only [Act.put, List.setIfInBounds_toArray, List.set_cons_zero, List.set_cons_succ]
          (refine wpTree_qg 10 hTok hOps (by kernel_rfl) rfl rfl ⟨?_, ?_, ?_⟩; rotate_left; (focus (intro wx hSx; (try dsimp only at hSx); go_simp; (try with_reducible rfl))); (simp only [Act.put, List.setIfInBounds_toArray, List.set_cons_zero, List.set_cons_succ]))
          refine wpTree_nil hOps (by kernel_rfl) ?_
          refine hT.out _ _ ?_
          simp only [List.drop_succ_cons, List.drop_zero]
          clear hOps hT hTok hHeld
          go_wp2_with fail
          go_meet
          case rel => exact ⟨by rw [hfq.out], hb2'⟩
        · have e1 : Hid (decide (0 < mr) = false) := Lib.hid (by have := hmr.out; simp; omega)
          have hfq : full = false := by
            rw [hfull.out]
            simp only [decide_eq_false_iff_not]
            omega
          subst hfq
          clear hmore
          refine wp_region_tree (fun wx => wx.cell? ⟨b, 0, none⟩ = some (.int .i64 M.room)) 11 13 (by kernel_rfl) rfl (by kernel_rfl) (fun d _ _ _ _ h => by cases d <;> exact h) (c0) (fun opz T hOps hT hTok hHeld => ?_)
          (refine wpTree_q 0 hTok hOps (by kernel_rfl) rfl rfl ⟨?_, ?_, ?_⟩; rotate_left; (focus (intro wx hSx; (try dsimp only at hSx); go_simp; (try with_reducible rfl))); (simp only [Act.put, List.setIfInBounds_toArray, List.set_cons_zero, List.set_cons_succ]))
          (refine wpTree_q 1 hTok hOps (by kernel_rfl) rfl rfl ⟨?_, ?_, ?_⟩; rotate_left; (focus (intro wx hSx; (try dsimp only at hSx); go_simp; (try with_reducible rfl))); (simp only [Act.put, List.setIfInBounds_toArray, List.set_cons_zero, List.set_cons_succ]))
          (refine wpTree_q 2 hTok hOps (by kernel_rfl) rfl rfl ⟨?_, ?_, ?_⟩; rotate_left; (focus (intro wx hSx; (try dsimp only at hSx); go_simp; (try with_reducible rfl))); (simp only [Act.put, List.setIfInBounds_toArray, List.set_cons_zero, List.set_cons_succ]))
          simp only [e1.out]
          (refine wpTree_qn 3 hTok hOps (by kernel_rfl) rfl rfl ?_; (try simp only [Act.put, List.setIfInBounds_toArray, List.set_cons_zero, List.set_cons_succ]))
          (refine wpTree_qn 4 hTok hOps (by kernel_rfl) rfl rfl ?_; (try simp only [Act.put, List.setIfInBounds_toArray, List.set_cons_zero, List.set_cons_succ]))
          (refine wpTree_qn 5 hTok hOps (by kernel_rfl) rfl rfl ?_; (try simp only [Act.put, List.setIfInBounds_toArray, List.set_cons_zero, List.set_cons_succ]))
          (refine wpTree_qn 6 hTok hOps (by kernel_rfl) rfl rfl ?_; (try simp only [Act.put, List.setIfInBounds_toArray, List.set_cons_zero, List.set_cons_succ]))
          (refine wpTree_qn 7 hTok hOps (by kernel_rfl) rfl rfl ?_; (try simp only [Act.put, List.setIfInBounds_toArray, List.set_cons_zero, List.set_cons_succ]))
          (refine wpTree_qn 8 hTok hOps (by kernel_rfl) rfl rfl ?_; (try simp only [Act.put, List.setIfInBounds_toArray, List.set_cons_zero, List.set_cons_succ]))
          (refine wpTree_qn 9 hTok hOps (by kernel_rfl) rfl rfl ?_; (try simp only [Act.put, List.setIfInBounds_toArray, List.set_cons_zero, List.set_cons_succ]))
          (refine wpTree_qn 10 hTok hOps (by kernel_rfl) rfl rfl ?_; (try simp only [Act.put, List.setIfInBounds_toArray, List.set_cons_zero, List.set_cons_succ]))
          refine wpTree_nil hOps (by kernel_rfl) ?_
          refine hT.out _ _ ?_
          simp only [List.drop_succ_cons, List.drop_zero]
          clear hOps hT hTok hHeld
          go_wp2_with fail
          go_meet
          case rel => exact ⟨rfl, hb1.drew⟩
      case rest =>
        obtain ⟨rfl, hbc⟩ := hcut
        obtain ⟨w2, hw2⟩ : ∃ w2, w2 = wc := ⟨_, rfl⟩
        rw [← hw2] at hbc ⊢
        clear hw2 h1 c2 hb1
        have hfull' := hfull.out
        cases full with
        | true =>
          have hcond : (m : Int) < (nn : Int) + k ∧ M.room < (U : Int) + nn + k - m := by simpa using hfull'.symm
          have hgo := DStep.same h hbc
          have hrq : rs = (6, M) := by rw [hrs.out, if_pos hcond]
          clear hfull hfull' hcond hrs
          subst hrq
          go_wp2_with fail
          go_ret
          exact ⟨rfl, hgo⟩
        | false =>
          have hcond : ¬ ((m : Int) < (nn : Int) + k ∧ M.room < (U : Int) + nn + k - m) := by simpa using hfull'.symm
          have hrq : Hid (rs = (0, { M with now := withL M.now s (overB f.bs nn db), chs := M.chs ++ [⟨0, s, nn, db⟩] })) := Lib.hid (by rw [hrs.out, if_neg hcond])
          have hnk : nn + k ≤ 1073741824 := by omega
          clear hfull hfull' hcond hus2 hM hrs
          have h2 := h.below hbc
          have c2 := h2.c2
          have hMt := h2.mapn
          have hml : (entF x.now).length < maxLen := by have := nowN h hok; unfold maxLen; omega
          have hwr : ∀ wz, Below w.heap.size w wz → Calls Try.prog 28 #[.slice f.ao m f.cap, .int .i64 nn, .slice da k dc] wz fun e w' => ∃ v, e = .returned v ∧ FileAt w' w.heap.size v (overB f.bs nn db) ∧ Below wz.heap.size wz w' := fun wz hz => by
            have hfz : FileAt wz base f.v f.bs := hfa.below hz (Nat.le_refl _)
            have := written_any f.ao da f.cap dc nn f.bs db wz w.heap.size hz.size (slaf hfz) (hd.imp hz hz.size (fun cs x _ h => h)) (by rw [← hm.out]; exact hnm) (by rw [← hk.out]; omega) (by rw [← hm.out]; omega)
            rw [← hm.out, ← hk.out] at this
            exact this
          go_upto_region 10 with fail
          refine wp_region_tree (fun wx => wx.cell? ⟨b, 2, none⟩ = some (.map (some x.mn))) 9 10 (by kernel_rfl) rfl (by kernel_rfl) (fun d _ _ _ _ h => by cases d <;> exact h) (c2) (fun opz T hOps hT hTok hHeld => ?_)
          (refine wpTree_q 0 hTok hOps (by kernel_rfl) rfl rfl ⟨?_, ?_, ?_⟩; rotate_left; (focus (intro wx hSx; (try dsimp only at hSx); go_simp; (try with_reducible rfl))); (simp only [Act.put, List.setIfInBounds_toArray, List.set_cons_zero, List.set_cons_succ]))
          (refine wpTree_q 1 hTok hOps (by kernel_rfl) rfl rfl ⟨?_, ?_, ?_⟩; rotate_left; (focus (intro wx hSx; (try dsimp only at hSx); go_simp; (try with_reducible rfl))); (simp only [Act.put, List.setIfInBounds_toArray, List.set_cons_zero, List.set_cons_succ]))
          (refine wpTree_q 2 hTok hOps (by kernel_rfl) rfl rfl ⟨?_, ?_, ?_⟩; rotate_left; (focus (intro wx hSx; (try dsimp only at hSx); go_simp; (try with_reducible rfl))); (simp only [Act.put, List.setIfInBounds_toArray, List.set_cons_zero, List.set_cons_succ]))
          (refine wpTree_q 3 hTok hOps (by kernel_rfl) rfl rfl ⟨?_, ?_, ?_⟩; rotate_left; (focus (intro wx hSx; (try dsimp only at hSx); go_simp; (try with_reducible rfl))); (simp only [Act.put, List.setIfInBounds_toArray, List.set_cons_zero, List.set_cons_succ]))
          (refine wpTree_q 4 hTok hOps (by kernel_rfl) rfl rfl ⟨?_, ?_, ?_⟩; rotate_left; (focus (intro wx hSx; (try dsimp only at hSx); go_simp; (try with_reducible rfl))); (simp only [Act.put, List.setIfInBounds_toArray, List.set_cons_zero, List.set_cons_succ]))
          (refine wpTree_q 5 hTok hOps (by kernel_rfl) rfl rfl ⟨?_, ?_, ?_⟩; rotate_left; (focus (intro wx hSx; (try dsimp only at hSx); go_simp; (try with_reducible rfl))); (simp only [Act.put, List.setIfInBounds_toArray, List.set_cons_zero, List.set_cons_succ]))
          (refine wpTree_q 6 hTok hOps (by kernel_rfl) rfl rfl ⟨?_, ?_, ?_⟩; rotate_left; (focus (intro wx hSx; (try dsimp only at hSx); go_simp; (try with_reducible rfl))); (simp only [Act.put, List.setIfInBounds_toArray, List.set_cons_zero, List.set_cons_succ]))
          (refine wpTree_q 7 hTok hOps (by kernel_rfl) rfl rfl ⟨?_, ?_, ?_⟩; rotate_left; (focus (intro wx hSx; (try dsimp only at hSx); go_simp; (try with_reducible rfl))); (simp only [Act.put, List.setIfInBounds_toArray, List.set_cons_zero, List.set_cons_succ]))
          refine wpTree_1 8 hOps (by kernel_rfl) (by decide) rfl (fun K' hK => ?_)
          go_simp
          refine (hwr _ hbc.drew).mono ?_
          rintro e w3 ⟨v3, rfl, hf3, hb3⟩
          have hb3' : Below w.heap.size w w3 := hbc.drew.trans (hb3.mono hbc.size)
          have h3 := h.below hb3'
          obtain ⟨f3, rfl, hf3b⟩ := hf3.fv
          rw [← hf3b] at hf3
          have hn3 := Lib.hid hf3.new
          replace hf3 := hf3.base_le hb
          have hM3 := h3.mapn
          dsimp only
          refine hK.out _ _ h3.c2 ?_
          clear hK K'
          try simp only [Act.put, List.setIfInBounds_toArray, List.set_cons_zero, List.set_cons_succ]
          refine wpTree_nil hOps (by kernel_rfl) ?_
          refine hT.out _ _ ?_
          simp only [List.drop_succ_cons, List.drop_zero]
          clear hOps hT hTok hHeld
          clear hwr c2 h2 hMt
          go_upto_region 11 with (at_mapUpdate; refine wpList_updateL rfl _ _ _ _ rfl keyN hM3 Try.underlying52 hml (x := s) hs rfl rfl ?_; intro w4 hM4 hc4)
          have hM4' : MapL Try.prog 9 klT wfT w4 x.mn (entF ((s, f3) :: withoutL x.now s)) := by rw [← Dsk.set_ent]; exact hM4
          have h4 := h3.turnNow hM4' hc4 (Dsk.fil_with h3.filn hf3 s) (Dsk.perm_with h3.permn s f3)
          have hg4 : Chg (DS x b) w w4 := ((Chg.of_below hb3').mono (fun k h1 h2 => by omega)).then_new hc4 (fun i hi e => .inr (.inl e))
          have hb4 : Below base w w4 := hg4.below hb (fun k hk2 hk3 => by have := h.base_le k hk3; omega)
          have hd4 : SlA w4.heap.size 1 EU w4 da dc db := by
            have h5 : SlA w3.heap.size 1 EU w3 da dc db := hd.imp hb3' hb3'.size (fun cs x _ h => h)
            exact slaU_chg h5 hc4 (fun k hk2 => h3.no_cells k (.inl hk2))
          rw [hf3b] at h4
          clear hM3 hM4 hM4' h3 hb3 hb3' hf3
          obtain ⟨ca, cc, hcv, hcl1, hcl2, _⟩ := h4.row.slice
          dsimp only at hcv hcl1 hcl2
          have c4 := h4.c4
          dsimp only at c4
          obtain ⟨L, hL⟩ : ∃ L, L = x.chs.length := ⟨_, rfl⟩
          have hLN : L ≤ 1000000 := by rw [hL]; exact Nat.le_trans (chsN h hok) hN
          rw [hcv, ← hL] at c4
          have hb4' : base ≤ w4.heap.size := Nat.le_trans hb hg4.size
          have hcl := clone_any db da dc base w4.drew hb4' (hd4.imp ((Below.refl _ _).drew) (Nat.le_refl _) (fun cs x _ h => h)) (by rw [← hk.out]; exact hdz)
          rw [← hk.out] at hcl
          replace hL := Lib.hid hL
          replace hcv := Lib.hid hcv
          try simp only [Act.put]
          refine wp_region_tree (fun wx => wx.cell? ⟨b, 4, none⟩ = some (.slice ca L cc)) 12 15 (by kernel_rfl) rfl (by kernel_rfl) (fun d _ _ _ _ h => by cases d <;> exact h) (c4) (fun opz T hOps hT hTok hHeld => ?_)
          (refine wpTree_q 0 hTok hOps (by kernel_rfl) rfl rfl ⟨?_, ?_, ?_⟩; rotate_left; (focus (intro wx hSx; (try dsimp only at hSx); go_simp; (try with_reducible rfl))); (simp only [Act.put, List.setIfInBounds_toArray, List.set_cons_zero, List.set_cons_succ]))
          (refine wpTree_q 1 hTok hOps (by kernel_rfl) rfl rfl ⟨?_, ?_, ?_⟩; rotate_left; (focus (intro wx hSx; (try dsimp only at hSx); go_simp; (try with_reducible rfl))); (simp only [Act.put, List.setIfInBounds_toArray, List.set_cons_zero, List.set_cons_succ]))
          (refine wpTree_q 2 hTok hOps (by kernel_rfl) rfl rfl ⟨?_, ?_, ?_⟩; rotate_left; (focus (intro wx hSx; (try dsimp only at hSx); go_simp; (try with_reducible rfl))); (simp only [Act.put, List.setIfInBounds_toArray, List.set_cons_zero, List.set_cons_succ]))
          (refine wpTree_q 3 hTok hOps (by kernel_rfl) rfl rfl ⟨?_, ?_, ?_⟩; rotate_left; (focus (intro wx hSx; (try dsimp only at hSx); go_simp; (try with_reducible rfl))); (simp only [Act.put, List.setIfInBounds_toArray, List.set_cons_zero, List.set_cons_succ]))
          (refine wpTree_q 4 hTok hOps (by kernel_rfl) rfl rfl ⟨?_, ?_, ?_⟩; rotate_left; (focus (intro wx hSx; (try dsimp only at hSx); go_simp; (try with_reducible rfl))); (simp only [Act.put, List.setIfInBounds_toArray, List.set_cons_zero, List.set_cons_succ]))
          (refine wpTree_q 5 hTok hOps (by kernel_rfl) rfl rfl ⟨?_, ?_, ?_⟩; rotate_left; (focus (intro wx hSx; (try dsimp only at hSx); go_simp; (try with_reducible rfl))); (simp only [Act.put, List.setIfInBounds_toArray, List.set_cons_zero, List.set_cons_succ]))
          (refine wpTree_q 6 hTok hOps (by kernel_rfl) rfl rfl ⟨?_, ?_, ?_⟩; rotate_left; (focus (intro wx hSx; (try dsimp only at hSx); go_simp; (try with_reducible rfl))); (simp only [Act.put, List.setIfInBounds_toArray, List.set_cons_zero, List.set_cons_succ]))
          (refine wpTree_q 7 hTok hOps (by kernel_rfl) rfl rfl ⟨?_, ?_, ?_⟩; rotate_left; (focus (intro wx hSx; (try dsimp only at hSx); go_simp; (try with_reducible rfl))); (simp only [Act.put, List.setIfInBounds_toArray, List.set_cons_zero, List.set_cons_succ]))
          refine wpTree_1 8 hOps (by kernel_rfl) (by decide) rfl (fun K' hK => ?_)
          go_simp
          refine hcl.mono ?_
          rintro e w5 ⟨v5, rfl, hown5, hb5⟩
          have hf5w : FileAt w5 w.heap.size v5 db := (FileAt.own hown5).base_le hg4.size
          have hf5 : FileAt w5 base v5 db := (FileAt.own hown5).base_le hb4'
          obtain ⟨f5, rfl, hf5b⟩ := hf5.fv
          rw [← hf5b] at hf5w
          have hn5 := Lib.hid hf5w.new
          clear hf5w
          have hf5v : f5.v = .slice f5.ao k f5.cap := by unfold FV.v; rw [hf5b, ← hk.out]
          have hb5' : Below w4.heap.size w4 w5 := ((Below.refl _ _).drew).trans (hb5.mono (Nat.le_refl _))
          have h5 := h4.below hb5'
          have c4 := (hb5'.cell (p := ⟨b, 4, none⟩) h4.blk.lt).trans c4
          rw [hf5v]
          dsimp only
          refine hK.out _ _ c4 ?_
          clear hK K'
          try simp only [Act.put, List.setIfInBounds_toArray, List.set_cons_zero, List.set_cons_succ]
          (refine wpTree_q 9 hTok hOps (by kernel_rfl) rfl rfl ⟨?_, ?_, ?_⟩; rotate_left; (focus (intro wx hSx; (try dsimp only at hSx); go_simp; (try with_reducible rfl))); (simp only [Act.put, List.setIfInBounds_toArray, List.set_cons_zero, List.set_cons_succ]))
          refine wpTree_world ?_
          intro w6 hw6
          have hb6 : Below w4.heap.size w4 w6 := by rw [hw6]; exact hb5'
          have c46 : w6.cell? ⟨b, 4, none⟩ = some (.slice ca L cc) := by rw [hw6]; exact c4
          have hf6 : FileAt w6 base f5.v f5.bs := by rw [hw6, hf5b]; exact hf5
          have h6 := h4.below hb6
          clear hw6 c4 h5 hb5' hf5 hown5 hb5 hcl
          have hbl6 := World.lt_of_cell c46
          dsimp only at hbl6
          refine wpTree_1 10 hOps (by kernel_rfl) (by decide) rfl (fun K' hK => ?_)
          go_simp
          refine hK.out _ _ (((belowAlloc w6 _).cell (p := ⟨b, 4, none⟩) hbl6).trans c46) ?_
          clear hK K'
          try simp only [Act.put, List.setIfInBounds_toArray, List.set_cons_zero, List.set_cons_succ]
          refine wpTree_1 11 hOps (by kernel_rfl) (by decide) rfl (fun K' hK => ?_)
          have hencc : encC ⟨0, s, nn, f5⟩ = [.int .i64 0, .string s, .int .i64 nn, .slice f5.ao k f5.cap] := by unfold encC; rw [hf5v]; rfl
          have hrow6 := h6.row
          dsimp only at hrow6
          rw [hcv.out, ← hL.out] at hrow6
          change if _ = true then Oper.wp _ _ _ (w6.alloc (.cells ([.int .i64 0, .string s, .int .i64 nn, .slice f5.ao k f5.cap] : List Value).toArray 73)) _ _ else _
          rw [← hencc]
          refine step_app1g rfl _ _ 53 rfl Try.underlying53 hi hz0 hz1 hz2 rfl (by decide) (enc := encC) ⟨0, s, nn, f5⟩ rfl hrow6 rfl (encC_len _) (encC_one _) (by rw [← hL.out]; omega) (by rw [← hL.out]; unfold maxLen; omega) (Nat.le_trans hb4' hb6.size) ?_
          intro g cap7 w7 hown7 hgr7
          rw [← hL.out] at hown7 hgr7 ⊢
          have hgr4 : Grew w4 (.slice ca L cc) w7 (.slice (some ⟨g, 0, none⟩) (L + 1) cap7) := (Grew.of_below hb6 _).trans hgr7
          have c47 : w7.cell? ⟨b, 4, none⟩ = some (.slice ca L cc) := by
            have hne := hrow6.ne_blk h6.blk (by decide)
            exact (hgr7.blk h6.blk hne).cellAt (by rw [hcv.out, ← hL.out]; rfl)
          refine hK.out _ _ c47 ?_
          clear hK K'
          try simp only [Act.put, List.setIfInBounds_toArray, List.set_cons_zero, List.set_cons_succ]
          refine wpTree_nil hOps (by kernel_rfl) ?_
          refine hT.out _ _ ?_
          simp only [List.drop_succ_cons, List.drop_zero]
          clear hOps hT hTok hHeld
          have hf7 : FileAt w7 base f5.v f5.bs := hf6.chg (Chg.of_grown hgr7.grown) (fun k2 hk2 => h6.noU8 k2 (.inr (.inr (.inr (by rw [hcv.out, ← hL.out]; exact hk2)))))
          have hbk7 := hgr7.blk h6.blk (hrow6.ne_blk h6.blk (by decide))
          have cf7 := hbk7.frozen 4
          have hlen7 : ([] : List CH).length = 0 := rfl
          have h8 := h4.push (v' := .slice (some ⟨g, 0, none⟩) (L + 1) cap7) (c := ⟨0, s, nn, f5⟩) (by dsimp only; rw [hcv.out, ← hL.out]; exact hgr4) hown7 hf7
          have hc8 := push_chg (b := b) (x := { x with now := (s, f3) :: withoutL x.now s }) (u := .slice (some ⟨g, 0, none⟩) (L + 1) cap7) (by dsimp only; rw [hcv.out, ← hL.out]; exact hgr4)
          have hds8 := push_ds (b := b) (x := { x with now := (s, f3) :: withoutL x.now s }) (x' := { x with cv := .slice (some ⟨g, 0, none⟩) (L + 1) cap7, now := (s, f3) :: withoutL x.now s, chs := x.chs ++ [⟨0, s, nn, f5⟩] }) (v' := .slice (some ⟨g, 0, none⟩) (L + 1) cap7) (w := w4) (w1 := w7) (by dsimp only; rw [hcv.out, ← hL.out]; exact hgr4) rfl rfl rfl
          have hst : DStep w base b x rs.2 (w7.setCell ⟨b, 4, none⟩ (.slice (some ⟨g, 0, none⟩) (L + 1) cap7)) := by
            rw [hrq.out]
            have habs : CH.abs ⟨0, s, nn, f5⟩ = ⟨0, s, nn, db⟩ := by unfold CH.abs; rw [hf5b]
            rw [habs] at h8
            exact DStep.then (x1 := { x with now := (s, f3) :: withoutL x.now s }) (M1 := M) hg4 (fun k2 hk2 => .inl hk2) h8 hc8 hds8 (NewF.push hn3.out hn5.out)
          have hrs1 : rs.1 = 0 := by rw [hrq.out]
          clear h8 hc8 hds8 h4 h6 hrow6 hgr4 hgr7 hown7 hf7 hcv hL hcl1 hcl2 hg4
          go_wp2_with fail
          go_ret
          exact ⟨rfl, hst⟩
  · have hwm : writeM M s n db = (er, M) := by unfold writeM; rw [← her, if_pos he]
    rw [hwm]
    have d1 : ((er : Int) != 0) = true := by simp; omega
    have hgo : ∀ w1, Below w.heap.size w w1 → DStep w base b x M w1 := fun w1 h1 => DStep.same h h1
    clear hwm he her h hok hd
    go_enter Try.func24, Try.ntmps24
    go_wp2_with fail
    refine hrd.mono ?_
    rintro e w1 ⟨rfl, hb1⟩
    dsimp only
    go_wp2_with fail
    go_ret
    exact ⟨rfl, hgo _ hb1⟩
end Go.Proofs.Ytjgiphoolfhlmaa
