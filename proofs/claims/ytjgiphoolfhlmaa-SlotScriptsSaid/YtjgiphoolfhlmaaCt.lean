/- Slot: Put walks. -/
import Derived.Test.YtjgiphoolfhlmaaCq
import Derived.Test.YtjgiphoolfhlmaaWk
import Derived.LoopIn
namespace Go.Proofs.Ytjgiphoolfhlmaa
open Go.RowKit
attribute [local go_sem] Oper.semAt_some
set_option linter.unusedVariables false
set_option linter.unusedSimpArgs false

theorem wf_i64_of {n : Int} (h1 : -9223372036854775808 ≤ n) (h2 : n ≤ 9223372036854775807) : (Lit.int IntKind.i64 n).wf = true := by
  simpa [Lit.wf, IntKind.min, IntKind.max, IntKind.bits, IntKind.signed] using And.intro h1 h2
theorem OwnB.b {w : World} {base : Nat} {v : Value} {bs : List UInt8} {l : List Nat} (hl : bs.map UInt8.toNat = l) (h : OwnB w base v l) : OwnL encU w base 5 1 v bs := by
  rw [← hl] at h
  exact ownB_U.1 h

set_option maxRecDepth 100000 in
set_option maxHeartbeats 4000000 in
theorem put_walk {base db sb N : Nat} {x : DX} {nm : ByteArray} {s : SL} (val : ByteArray) (w : World) (hS : Slt w base db x sb nm s) (hnm : nm.size ≤ 12) (hok : OkM N s.M) (hN : N + 1 ≤ 1000000) (hb : base ≤ w.heap.size) (hval : val.size ≤ maxLen) (hn0 : s.n ≤ 9223372036854775807) :
    Calls Try.prog 10 #[.pointer (some ⟨sb, 0, none⟩), .string val] w fun e w' => e = .returned (.int .i64 (putM nm s val).1) ∧ ∃ x', Slt w' base db x' sb nm (putM nm s val).2 ∧ Below base w w' ∧ Chg (fun k => DS x db k ∨ k = sb) w w' ∧ ∀ k, DS x' db k → DS x db k ∨ w.heap.size ≤ k := by
  obtain ⟨r, hr⟩ : ∃ r, r = putM nm s val := ⟨_, rfl⟩
  rw [← hr]
  have c5 : w.cell? ⟨sb, 5, none⟩ = some (.bool s.br) := hS.blk.cellAt rfl
  have c4 : w.cell? ⟨sb, 4, none⟩ = some (.int .i64 s.inn) := hS.blk.cellAt rfl
  have c3 : w.cell? ⟨sb, 3, none⟩ = some (.int .i64 s.n) := hS.blk.cellAt rfl
  have c0 : w.cell? ⟨sb, 0, none⟩ = some (.pointer (some ⟨db, 0, none⟩)) := hS.blk.cellAt rfl
  by_cases hbr : s.br = true
  · have hr2 : r = (9, s) := by rw [hr]; unfold putM; rw [if_pos hbr]
    rw [hr2]
    rw [hbr] at c5
    replace hS := Lib.hid hS
    clear hr hr2 hok c4 c3 c0
    go_enter Try.func10, Try.ntmps10
    go_wp2_with fail
    go_ret
    exact ⟨rfl, _, hS.out, Below.refl _ _, Chg.refl _ _, fun k hk => .inl hk⟩
  · have hbf : s.br = false := by simpa using hbr
    rw [hbf] at c5
    by_cases hlong : 60000 < val.size
    · have hr2 : r = (2, s) := by rw [hr]; unfold putM; rw [if_neg hbr, if_pos hlong]
      rw [hr2]
      have d1 : decide ((60000 : Int) < (val.size : Int)) = true := by simp; omega
      replace hS := Lib.hid hS
      clear hr hr2 hok c4 c3 c0
      go_enter Try.func10, Try.ntmps10
      go_wp2_with fail
      go_ret
      exact ⟨rfl, _, hS.out, Below.refl _ _, Chg.refl _ _, fun k hk => .inl hk⟩
    · have d1 : decide ((60000 : Int) < (val.size : Int)) = false := by simp; omega
      by_cases hmax : s.n = 9223372036854775807
      · have hr2 : r = (14, s) := by rw [hr]; unfold putM; rw [if_neg hbr, if_neg hlong, if_pos hmax]
        rw [hr2]
        rw [hmax] at c3
        replace hS := Lib.hid hS
        clear hr hr2 hok c4 c0
        go_enter Try.func10, Try.ntmps10
        go_wp2_with fail
        go_ret
        exact ⟨rfl, _, hS.out, Below.refl _ _, Chg.refl _ _, fun k hk => .inl hk⟩
      · have d2 : ((s.n : Int) == 9223372036854775807) = false := by simp; omega
        have hw1 : IntKind.i64.wrap ((s.n : Int) + 1) = ((s.n + 1 : Nat) : Int) := by rw [IntWalk.i64_in _ (by omega)]; omega
        have hw1c : IntKind.i64.wrap (1 + (s.n : Int)) = ((s.n + 1 : Nat) : Int) := by rw [IntWalk.i64_in _ (by omega)]; omega
        obtain ⟨n1, hn1⟩ : ∃ n1, n1 = s.n + 1 := ⟨_, rfl⟩
        rw [← hn1] at hw1 hw1c
        have hwf : (Lit.int .i64 (n1 : Nat)).wf = true := wf_i64_of (by omega) (by omega)
        unfold putM at hr
        rw [if_neg hbr, if_neg hlong, if_neg hmax, ← hn1] at hr
        have hen := enc_itms (n := n1) (s := val) (by omega) (by omega)
        have hpn := payC_nat (n := n1) (s := val) (by omega) (by omega)
        have hpl := payC_len (n := n1) (s := val) (by omega)
        obtain ⟨sn, hsn⟩ : ∃ sn, sn = s.n := ⟨_, rfl⟩
        rw [← hsn] at c3 d2 hw1 hw1c
        replace hr := Lib.hid hr
        replace hS := Lib.hid hS
        replace hn1 := Lib.hid hn1
        replace hsn := Lib.hid hsn
        go_enter Try.func10, Try.ntmps10
        go_wp2_with (go_at_call 21; refine (int_any _ _).mono ?k1)
        case k1 =>
        rintro e w1 ⟨rfl, hb1⟩
        dsimp only
        go_wp2_with (go_at_call 22; refine (text_any _ _).mono ?k2)
        case k2 =>
        rintro e w2 ⟨rfl, hb2d⟩
        have hb2 := hb1.trans (hb2d.mono hb1.size)
        dsimp only
        go_wp2_with (go_at_call 20; refine Shut.out ?k3)
        case k3 =>
        unfold Shut
        refine Calls.world ?_
        intro w3 hw3
        have hb3d : Below w2.heap.size w2 w3 := by rw [hw3]; exact belowAlloc _ _
        have hb3 : Below w.heap.size w w3 := hb2.trans (hb3d.mono hb2.size)
        have hi3 : RIts 1 w3.heap.size w3 (some ⟨w2.heap.size, 0, none⟩) 2 (itmsC n1 val) := by
          rw [hw3]
          refine RIts.of_cells (ps := [⟨.mk 0 n1 ⟨#[]⟩ [], none, 0⟩, ⟨.mk 1 0 val [], none, 0⟩]) (Blk.new _ _ _) rfl ?_ (by simp)
          intro p hp
          simp only [List.mem_cons, List.not_mem_nil, or_false] at hp
          rcases hp with rfl | rfl
          · exact RIt.one0 hwf
          · exact RIt.one1 (by omega)
        have hen3 := encode_any 1 _ _ _ w3 _ hi3 (Nat.le_refl _)
        rw [hen] at hen3
        change Calls Try.prog 20 #[.slice (some ⟨w2.heap.size, 0, none⟩) 2 2] w3 _ at hen3
        clear hw3 hi3 hb1 hb2d hb2 hen hwf
        refine hen3.mono ?_
        rintro e w4 ⟨hb4d, v4, rfl, hO4⟩
        have hb4 : Below w.heap.size w w4 := hb3.trans (hb4d.mono hb3.size)
        have hO4' := OwnB.b hpn hO4
        obtain ⟨a4, q4, rfl, hs4⟩ := rdsOwn hO4'
        have hfp := fput_any a4 q4 (payC n1 val) w4 hs4 (by omega)
        obtain ⟨pc, hpc⟩ : ∃ pc, pc = payC n1 val := ⟨_, rfl⟩
        rw [← hpc] at hfp hr hpl ⊢
        obtain ⟨k, hk⟩ : ∃ k, k = pc.length := ⟨_, rfl⟩
        rw [← hk] at hfp ⊢
        obtain ⟨F, hF⟩ : ∃ F, F = frameC pc := ⟨_, rfl⟩
        rw [← hF] at hfp hr
        have hFl : F.length ≤ 60062 := by rw [hF, frameC_len]; omega
        clear hen3 hO4 hO4' hs4 hb3d hb4d hb3 hpn hpl hF hk hpc
        dsimp only
        go_wp2_with (go_at_call 23; refine Shut.out ?k4)
        case k4 =>
        unfold Shut
        refine hfp.mono ?_
        rintro e w5 ⟨v5, rfl, hO5, hb5d⟩
        have hb5 : Below w.heap.size w w5 := hb4.trans (hb5d.mono hb4.size)
        obtain ⟨a5, q5, rfl, hs5⟩ := rdsOwn hO5
        obtain ⟨m, hm⟩ : ∃ m, m = F.length := ⟨_, rfl⟩
        have hS5 := hS.out.below hb5
        have hbase5 : base ≤ w5.heap.size := Nat.le_trans hb hb5.size
        have hlt := hS5.blk.lt
        have hfl5 : Hid (∀ wy (i : Nat), i < 2 → Below w5.heap.size w5 wy → Calls Try.prog 25 #[.pointer (some ⟨sb, 0, none⟩), .int .i64 i] wy fun e w' => e = .returned (.string (nm ++ sufC i)) ∧ Below wy.heap.size wy w') := Lib.hid (fun wy i hi hy => file_any wy (hS5.blk.below hy hlt) hnm hi)
        have hwr5 : Hid (∀ wy (i : Nat), Below w5.heap.size w5 wy → Calls Try.prog 24 #[.pointer (some ⟨db, 0, none⟩), .string (nm ++ sufC i), .int .i64 0, .slice a5 m q5] wy fun e w' => e = .returned (.int .i64 (writeM s.M (nm ++ sufC i) 0 F).1) ∧ DStep wy base db x (writeM s.M (nm ++ sufC i) 0 F).2 w') := Lib.hid (fun wy i hy => by
          have h1 := write_any (nm ++ sufC i) 0 a5 q5 F wy (by have := suf_len i hnm; unfold maxLen; omega) (hS5.dsk.below hy) hok (by omega) (Nat.le_trans hbase5 hy.size) (hs5.imp hy hy.size (fun cs x _ h => h)) (by omega)
          rw [← hm] at h1
          exact h1)
        have hokw : Hid (∀ i : Nat, OkM (N + 1) (writeM s.M (nm ++ sufC i) 0 F).2) := Lib.hid (fun i => hok.write _ _ _)
        have e4 := cell_later hb5 c4
        have e3 := cell_later hb5 c3
        have e0 := cell_later hb5 c0
        have hbb5 : Below base w w5 := hb5.mono hb
        replace hS5 := Lib.hid hS5
        rw [← hm]
        clear hfp hO5 hs5 hb5d hb4 hS c5 c4 c3 c0 hm hok
        by_cases hin : s.inn = 0
        · have hto : toS s.inn = 1 := by unfold toS; rw [if_pos hin]
          rw [hto] at hr
          have dq : (s.inn == 0) = true := by simp [hin]
          generalize s.inn = sin at e4 dq
          have hfl := fun wy (hy : Below w5.heap.size w5 wy) => hfl5.out wy 1 (by omega) hy
          have hwr := fun wy (hy : Below w5.heap.size w5 wy) => hwr5.out wy 1 hy
          have hkw := hokw.out 1
          have hsl := suf_len 1 hnm
          obtain ⟨fn, hfn⟩ : ∃ fn, fn = nm ++ sufC 1 := ⟨_, rfl⟩
          rw [← hfn] at hfl hwr hkw hsl hr
          replace hfn := Lib.hid hfn
          clear hfl5 hwr5 hokw
          replace hfl := Lib.hid hfl
          replace hwr := Lib.hid hwr
          replace hkw := Lib.hid hkw
          dsimp only
          go_upto_region 12 with fail
          refine wp_region_tree (fun wx => wx.cell? ⟨sb, 0, none⟩ = some (.pointer (some ⟨db, 0, none⟩))) 9 10 (by kernel_rfl) rfl (by kernel_rfl) (fun d _ _ _ _ h => by cases d <;> exact h) (e0) (fun opz T hOps hT hTok hHeld => ?_)
          (refine wpTree_q 0 hTok hOps (by kernel_rfl) rfl rfl ⟨?_, ?_, ?_⟩; rotate_left; (focus (intro wx hSx; (try dsimp only at hSx); go_simp; (try with_reducible rfl))); (simp only [Act.put, List.setIfInBounds_toArray, List.set_cons_zero, List.set_cons_succ]))
          (refine wpTree_q 1 hTok hOps (by kernel_rfl) rfl rfl ⟨?_, ?_, ?_⟩; rotate_left; (focus (intro wx hSx; (try dsimp only at hSx); go_simp; (try with_reducible rfl))); (simp only [Act.put, List.setIfInBounds_toArray, List.set_cons_zero, List.set_cons_succ]))
          (refine wpTree_q 2 hTok hOps (by kernel_rfl) rfl rfl ⟨?_, ?_, ?_⟩; rotate_left; (focus (intro wx hSx; (try dsimp only at hSx); go_simp; (try with_reducible rfl))); (simp only [Act.put, List.setIfInBounds_toArray, List.set_cons_zero, List.set_cons_succ]))
          (refine wpTree_q 3 hTok hOps (by kernel_rfl) rfl rfl ⟨?_, ?_, ?_⟩; rotate_left; (focus (intro wx hSx; (try dsimp only at hSx); go_simp; (try with_reducible rfl))); (simp only [Act.put, List.setIfInBounds_toArray, List.set_cons_zero, List.set_cons_succ]))
          (refine wpTree_q 4 hTok hOps (by kernel_rfl) rfl rfl ⟨?_, ?_, ?_⟩; rotate_left; (focus (intro wx hSx; (try dsimp only at hSx); go_simp; (try with_reducible rfl))); (simp only [Act.put, List.setIfInBounds_toArray, List.set_cons_zero, List.set_cons_succ]))
          (refine wpTree_q 5 hTok hOps (by kernel_rfl) rfl rfl ⟨?_, ?_, ?_⟩; rotate_left; (focus (intro wx hSx; (try dsimp only at hSx); go_simp; (try with_reducible rfl))); (simp only [Act.put, List.setIfInBounds_toArray, List.set_cons_zero, List.set_cons_succ]))
          (refine wpTree_q 7 hTok hOps (by kernel_rfl) rfl rfl ⟨?_, ?_, ?_⟩; rotate_left; (focus (intro wx hSx; (try dsimp only at hSx); go_simp; (try with_reducible rfl))); (simp only [Act.put, List.setIfInBounds_toArray, List.set_cons_zero, List.set_cons_succ]))
          refine wpTree_1 6 hOps (by kernel_rfl) (by decide) rfl (fun K' hK => ?_)
          go_simp
          refine (hfl.out _ ((Below.refl _ _).drew)).mono ?_
          rintro e w6 ⟨rfl, hb6d⟩
          have hb6 : Below w5.heap.size w5 w6 := ((Below.refl _ _).drew).trans (hb6d.mono (Nat.le_refl _))
          have e06 := cell_later hb6 e0
          dsimp only
          refine hK.out _ _ e06 ?_
          clear hK K'
          try simp only [Act.put, List.setIfInBounds_toArray, List.set_cons_zero, List.set_cons_succ]
          refine wpTree_1 8 hOps (by kernel_rfl) (by decide) rfl (fun K' hK => ?_)
          go_simp
          refine (hwr.out _ hb6).mono ?_
          rintro e w7 ⟨rfl, hst7⟩
          obtain ⟨x7, hS7, hg7, hn7⟩ := (hS5.out.below hb6).step hst7
          have e07 : w7.cell? ⟨sb, 0, none⟩ = some (.pointer (some ⟨db, 0, none⟩)) := hS7.blk.cellAt rfl
          have hb7 : Below base w w7 := hbb5.trans ((hb6.mono hbase5).trans (hg7.below (Nat.le_trans hbase5 hb6.size) (fun k hk1 hk2 => by have := (hS5.out.below hb6).dsk.base_le k hk2; omega)))
          have hC7 : Hid (Chg (fun k => DS x db k ∨ k = sb) w w7) := Lib.hid (((Chg.of_below (hb5.trans (hb6.mono hb5.size))).mono (fun k h1 h2 => by omega)).then_new hg7 (fun k hk e => .inl e))
          have hX7 : Hid (∀ k, DS x7 db k → DS x db k ∨ w.heap.size ≤ k) := Lib.hid (fun k hk => (hn7 k hk).elim .inl (fun h => .inr (Nat.le_trans hb5.size (Nat.le_trans hb6.size h))))
          dsimp only
          refine hK.out _ _ e07 ?_
          clear hK K'
          try simp only [Act.put, List.setIfInBounds_toArray, List.set_cons_zero, List.set_cons_succ]
          refine wpTree_nil hOps (by kernel_rfl) ?_
          refine hT.out _ _ ?_
          simp only [List.drop_succ_cons, List.drop_zero]
          clear hOps hT hTok hHeld
          have hl7 := hS7.blk.lt
          have hfl7 : Hid (∀ wy, Below w7.heap.size w7 wy → Calls Try.prog 25 #[.pointer (some ⟨sb, 0, none⟩), .int .i64 (1 : Nat)] wy fun e w' => e = .returned (.string fn) ∧ Below wy.heap.size wy w') := Lib.hid (fun wy hy => by rw [hfn.out]; exact file_any wy (hS7.blk.below hy hl7) hnm (by omega))
          have hbase7 : base ≤ w7.heap.size := Nat.le_trans hb hb7.size
          obtain ⟨wr, hwrr⟩ : ∃ wr, wr = writeM s.M fn 0 F := ⟨_, rfl⟩
          rw [← hwrr] at hr hS7 hkw ⊢
          have hsy7 : Hid (∀ wy, Below w7.heap.size w7 wy → Calls Try.prog 26 #[.pointer (some ⟨db, 0, none⟩), .string fn] wy fun e w' => e = .returned (.int .i64 (syncM wr.2 fn).1) ∧ DStep wy base db x7 (syncM wr.2 fn).2 w') := Lib.hid (fun wy hy => sync_any fn wy (by unfold maxLen; omega) (hS7.dsk.below hy) hkw.out hN (Nat.le_trans hbase7 hy.size))
          clear hfl hwr hkw hst7 hb6 hb6d e06 e3 e4 e0 hg7 hn7 hwrr hS5 hbb5
          obtain ⟨w1e, w1m⟩ := wr
          dsimp only at hr hS7 hsy7 ⊢
          have e7 : Hid (SlotB w7 sb db nm s.v s.n s.inn s.br) := Lib.hid hS7.blk
          have e75 : w7.cell? ⟨sb, 5, none⟩ = some (.bool s.br) := hS7.blk.cellAt rfl
          have f5 := hS7.blk.frozen 5
          rw [hbf] at e75
          by_cases hw0 : w1e = 0
          · subst hw0
            rw [if_neg (by simp)] at hr
            have e70 : w7.cell? ⟨sb, 0, none⟩ = some (.pointer (some ⟨db, 0, none⟩)) := e07
            go_upto_region 14 with fail
            refine wp_region_tree (fun wx => wx.cell? ⟨sb, 0, none⟩ = some (.pointer (some ⟨db, 0, none⟩))) 8 9 (by kernel_rfl) rfl (by kernel_rfl) (fun d _ _ _ _ h => by cases d <;> exact h) (e70) (fun opz T hOps hT hTok hHeld => ?_)
            (refine wpTree_q 0 hTok hOps (by kernel_rfl) rfl rfl ⟨?_, ?_, ?_⟩; rotate_left; (focus (intro wx hSx; (try dsimp only at hSx); go_simp; (try with_reducible rfl))); (simp only [Act.put, List.setIfInBounds_toArray, List.set_cons_zero, List.set_cons_succ]))
            (refine wpTree_q 1 hTok hOps (by kernel_rfl) rfl rfl ⟨?_, ?_, ?_⟩; rotate_left; (focus (intro wx hSx; (try dsimp only at hSx); go_simp; (try with_reducible rfl))); (simp only [Act.put, List.setIfInBounds_toArray, List.set_cons_zero, List.set_cons_succ]))
            (refine wpTree_q 2 hTok hOps (by kernel_rfl) rfl rfl ⟨?_, ?_, ?_⟩; rotate_left; (focus (intro wx hSx; (try dsimp only at hSx); go_simp; (try with_reducible rfl))); (simp only [Act.put, List.setIfInBounds_toArray, List.set_cons_zero, List.set_cons_succ]))
            (refine wpTree_q 3 hTok hOps (by kernel_rfl) rfl rfl ⟨?_, ?_, ?_⟩; rotate_left; (focus (intro wx hSx; (try dsimp only at hSx); go_simp; (try with_reducible rfl))); (simp only [Act.put, List.setIfInBounds_toArray, List.set_cons_zero, List.set_cons_succ]))
            (refine wpTree_q 4 hTok hOps (by kernel_rfl) rfl rfl ⟨?_, ?_, ?_⟩; rotate_left; (focus (intro wx hSx; (try dsimp only at hSx); go_simp; (try with_reducible rfl))); (simp only [Act.put, List.setIfInBounds_toArray, List.set_cons_zero, List.set_cons_succ]))
            (refine wpTree_q 5 hTok hOps (by kernel_rfl) rfl rfl ⟨?_, ?_, ?_⟩; rotate_left; (focus (intro wx hSx; (try dsimp only at hSx); go_simp; (try with_reducible rfl))); (simp only [Act.put, List.setIfInBounds_toArray, List.set_cons_zero, List.set_cons_succ]))
            refine wpTree_1 6 hOps (by kernel_rfl) (by decide) rfl (fun K' hK => ?_)
            go_simp
            refine (hfl7.out _ ((Below.refl _ _).drew)).mono ?_
            rintro e w8 ⟨rfl, hb8d⟩
            have hb8 : Below w7.heap.size w7 w8 := ((Below.refl _ _).drew).trans (hb8d.mono (Nat.le_refl _))
            have e08 := cell_later hb8 e70
            dsimp only
            refine hK.out _ _ e08 ?_
            clear hK K'
            try simp only [Act.put, List.setIfInBounds_toArray, List.set_cons_zero, List.set_cons_succ]
            refine wpTree_1 7 hOps (by kernel_rfl) (by decide) rfl (fun K' hK => ?_)
            go_simp
            refine (hsy7.out _ hb8).mono ?_
            rintro e w9 ⟨rfl, hst9⟩
            have hS8 := hS7.below hb8
            obtain ⟨x9, hS9, hg9, hn9⟩ := hS8.step hst9
            have e09 : w9.cell? ⟨sb, 0, none⟩ = some (.pointer (some ⟨db, 0, none⟩)) := hS9.blk.cellAt rfl
            have hb9 : Below base w w9 := hb7.trans ((hb8.mono hbase7).trans (hg9.below (Nat.le_trans hbase7 hb8.size) (fun k hk1 hk2 => by have := hS8.dsk.base_le k hk2; omega)))
            have hbase9 : base ≤ w9.heap.size := Nat.le_trans hb hb9.size
            have hC8 : Chg (fun k => DS x db k ∨ k = sb) w w8 := hC7.out.then_new ((Chg.of_below hb8).mono (fun k h1 h2 => by omega) : Chg (fun _ => False) w7 w8) (fun k hk e => e.elim)
            have hC9 : Hid (Chg (fun k => DS x db k ∨ k = sb) w w9) := Lib.hid (hC8.then_new hg9 (fun k hk e => (hX7.out k e).elim .inl (fun h => by omega)))
            have hX9 : Hid (∀ k, DS x9 db k → DS x db k ∨ w.heap.size ≤ k) := Lib.hid (fun k hk => (hn9 k hk).elim (hX7.out k) (fun h => .inr (by have := hC8.size; omega)))
            clear hC8
            dsimp only
            refine hK.out _ _ e09 ?_
            clear hK K'
            try simp only [Act.put, List.setIfInBounds_toArray, List.set_cons_zero, List.set_cons_succ]
            refine wpTree_nil hOps (by kernel_rfl) ?_
            refine hT.out _ _ ?_
            simp only [List.drop_succ_cons, List.drop_zero]
            clear hOps hT hTok hHeld
            generalize syncM w1m fn = sr at hr hS9 ⊢
            obtain ⟨s1e, s1m⟩ := sr
            dsimp only at hr hS9 ⊢
            have bsl := hS9.bs
            by_cases hs0 : s1e = 0
            · subst hs0
              rw [if_neg (by simp)] at hr
              have g2 : w9.cell? ⟨sb, 2, none⟩ = some (.string s.v) := hS9.blk.cellAt rfl
              have g3 : w9.cell? ⟨sb, 3, none⟩ = some (.int .i64 s.n) := hS9.blk.cellAt rfl
              have g4 : w9.cell? ⟨sb, 4, none⟩ = some (.int .i64 s.inn) := hS9.blk.cellAt rfl
              have f2 := hS9.blk.frozen 2
              have f3 := hS9.blk.frozen 3
              have f4 := hS9.blk.frozen 4
              rw [← hsn.out] at g3
              have hfin : Hid (∃ x', Slt (((w9.setCell ⟨sb, 2, none⟩ (.string val)).setCell ⟨sb, 3, none⟩ (.int .i64 n1)).setCell ⟨sb, 4, none⟩ (.int .i64 1)) base db x' sb nm r.2 ∧ Below base w (((w9.setCell ⟨sb, 2, none⟩ (.string val)).setCell ⟨sb, 3, none⟩ (.int .i64 n1)).setCell ⟨sb, 4, none⟩ (.int .i64 1)) ∧ Chg (fun k => DS x db k ∨ k = sb) w (((w9.setCell ⟨sb, 2, none⟩ (.string val)).setCell ⟨sb, 3, none⟩ (.int .i64 n1)).setCell ⟨sb, 4, none⟩ (.int .i64 1)) ∧ ∀ k, DS x' db k → DS x db k ∨ w.heap.size ≤ k) := by
                have hc1 : Chg (fun k => k = sb) w9 (w9.setCell ⟨sb, 2, none⟩ (.string val)) := (Chg.refl _ _).setCell _ _ (fun _ => rfl)
                have hc2 : Chg (fun k => k = sb) w9 ((w9.setCell ⟨sb, 2, none⟩ (.string val)).setCell ⟨sb, 3, none⟩ (.int .i64 n1)) := hc1.setCell _ _ (fun _ => rfl)
                have hc : Chg (fun k => k = sb) w9 (((w9.setCell ⟨sb, 2, none⟩ (.string val)).setCell ⟨sb, 3, none⟩ (.int .i64 n1)).setCell ⟨sb, 4, none⟩ (.int .i64 1)) := hc2.setCell _ _ (fun _ => rfl)
                refine Lib.hid ⟨x9, ?_, hb9.trans (hc.below hbase9 (fun k hk1 hk2 => by omega)), hC9.out.then_new hc (fun k hk e => .inr e), hX9.out⟩
                rw [hr.out]
                refine hS9.turn hc rfl ?_
                unfold SlotB
                have h5 := ((hS9.blk.set 2 (.string val)).set 3 (.int .i64 n1)).set 4 (.int .i64 1)
                simp only at h5
                rw [hbf] at h5
                simpa using h5
              have hr1 : r.1 = 0 := by rw [hr.out]
              clear hr hfl7 hsy7 hS7 e7 hS8 hS9 hst9 hg9 hn9 hb8 hb8d e08 hsn hn1
              go_wp2_with fail
              go_ret
          
              exact ⟨by rw [hr1]; rfl, hfin.out⟩
            · rw [if_pos hs0] at hr
              have g5 : w9.cell? ⟨sb, 5, none⟩ = some (.bool s.br) := hS9.blk.cellAt rfl
              have f5 := hS9.blk.frozen 5
              have hfin : Hid (∃ x', Slt (w9.setCell ⟨sb, 5, none⟩ (.bool true)) base db x' sb nm r.2 ∧ Below base w (w9.setCell ⟨sb, 5, none⟩ (.bool true)) ∧ Chg (fun k => DS x db k ∨ k = sb) w (w9.setCell ⟨sb, 5, none⟩ (.bool true)) ∧ ∀ k, DS x' db k → DS x db k ∨ w.heap.size ≤ k) := by
                have hc : Chg (fun k => k = sb) w9 (w9.setCell ⟨sb, 5, none⟩ (.bool true)) := (Chg.refl _ _).setCell _ _ (fun _ => rfl)
                refine Lib.hid ⟨x9, ?_, hb9.trans (hc.below hbase9 (fun k hk1 hk2 => by omega)), hC9.out.then_new hc (fun k hk e => .inr e), hX9.out⟩
                rw [hr.out]
                exact hS9.turn hc rfl (by unfold SlotB; simpa using hS9.blk.set 5 (.bool true))
              have hr1 : r.1 = s1e := by rw [hr.out]
              have dw : ((s1e : Int) == 0) = false := by simp; omega
              clear hr hfl7 hsy7 hS7 e7 hS8 hS9 hst9 hg9 hn9 hb8 hb8d e08 hsn hn1
              go_wp2_with fail
              go_ret
              exact ⟨by rw [hr1]; rfl, hfin.out⟩
          · rw [if_pos hw0] at hr
            have hfin : Hid (∃ x', Slt (w7.setCell ⟨sb, 5, none⟩ (.bool true)) base db x' sb nm r.2 ∧ Below base w (w7.setCell ⟨sb, 5, none⟩ (.bool true)) ∧ Chg (fun k => DS x db k ∨ k = sb) w (w7.setCell ⟨sb, 5, none⟩ (.bool true)) ∧ ∀ k, DS x' db k → DS x db k ∨ w.heap.size ≤ k) := by
              have hc : Chg (fun k => k = sb) w7 (w7.setCell ⟨sb, 5, none⟩ (.bool true)) := (Chg.refl _ _).setCell _ _ (fun _ => rfl)
              refine Lib.hid ⟨x7, ?_, hb7.trans (hc.below hbase7 (fun k hk1 hk2 => by have := hS7.bs; omega)), hC7.out.then_new hc (fun k hk e => .inr e), hX7.out⟩
              rw [hr.out]
              exact hS7.turn hc rfl (by unfold SlotB; simpa using hS7.blk.set 5 (.bool true))
            have hr1 : r.1 = w1e := by rw [hr.out]
            have dw : ((w1e : Int) == 0) = false := by simp; omega
            clear hr hfl7 hsy7 hS7 e7
            go_wp2_with fail
            go_ret
            exact ⟨by rw [hr1]; rfl, hfin.out⟩
        · have hto : toS s.inn = 0 := by unfold toS; rw [if_neg hin]
          rw [hto] at hr
          have dq : (s.inn == 0) = false := by simp [hin]
          generalize s.inn = sin at e4 dq
          have hfl := fun wy (hy : Below w5.heap.size w5 wy) => hfl5.out wy 0 (by omega) hy
          have hwr := fun wy (hy : Below w5.heap.size w5 wy) => hwr5.out wy 0 hy
          have hkw := hokw.out 0
          have hsl := suf_len 0 hnm
          obtain ⟨fn, hfn⟩ : ∃ fn, fn = nm ++ sufC 0 := ⟨_, rfl⟩
          rw [← hfn] at hfl hwr hkw hsl hr
          replace hfn := Lib.hid hfn
          clear hfl5 hwr5 hokw
          replace hfl := Lib.hid hfl
          replace hwr := Lib.hid hwr
          replace hkw := Lib.hid hkw
          dsimp only
          go_upto_region 12 with fail
          refine wp_region_tree (fun wx => wx.cell? ⟨sb, 0, none⟩ = some (.pointer (some ⟨db, 0, none⟩))) 9 10 (by kernel_rfl) rfl (by kernel_rfl) (fun d _ _ _ _ h => by cases d <;> exact h) (e0) (fun opz T hOps hT hTok hHeld => ?_)
          (refine wpTree_q 0 hTok hOps (by kernel_rfl) rfl rfl ⟨?_, ?_, ?_⟩; rotate_left; (focus (intro wx hSx; (try dsimp only at hSx); go_simp; (try with_reducible rfl))); (simp only [Act.put, List.setIfInBounds_toArray, List.set_cons_zero, List.set_cons_succ]))
          (refine wpTree_q 1 hTok hOps (by kernel_rfl) rfl rfl ⟨?_, ?_, ?_⟩; rotate_left; (focus (intro wx hSx; (try dsimp only at hSx); go_simp; (try with_reducible rfl))); (simp only [Act.put, List.setIfInBounds_toArray, List.set_cons_zero, List.set_cons_succ]))
          (refine wpTree_q 2 hTok hOps (by kernel_rfl) rfl rfl ⟨?_, ?_, ?_⟩; rotate_left; (focus (intro wx hSx; (try dsimp only at hSx); go_simp; (try with_reducible rfl))); (simp only [Act.put, List.setIfInBounds_toArray, List.set_cons_zero, List.set_cons_succ]))
          (refine wpTree_q 3 hTok hOps (by kernel_rfl) rfl rfl ⟨?_, ?_, ?_⟩; rotate_left; (focus (intro wx hSx; (try dsimp only at hSx); go_simp; (try with_reducible rfl))); (simp only [Act.put, List.setIfInBounds_toArray, List.set_cons_zero, List.set_cons_succ]))
          (refine wpTree_q 4 hTok hOps (by kernel_rfl) rfl rfl ⟨?_, ?_, ?_⟩; rotate_left; (focus (intro wx hSx; (try dsimp only at hSx); go_simp; (try with_reducible rfl))); (simp only [Act.put, List.setIfInBounds_toArray, List.set_cons_zero, List.set_cons_succ]))
          (refine wpTree_q 5 hTok hOps (by kernel_rfl) rfl rfl ⟨?_, ?_, ?_⟩; rotate_left; (focus (intro wx hSx; (try dsimp only at hSx); go_simp; (try with_reducible rfl))); (simp only [Act.put, List.setIfInBounds_toArray, List.set_cons_zero, List.set_cons_succ]))
          (refine wpTree_q 7 hTok hOps (by kernel_rfl) rfl rfl ⟨?_, ?_, ?_⟩; rotate_left; (focus (intro wx hSx; (try dsimp only at hSx); go_simp; (try with_reducible rfl))); (simp only [Act.put, List.setIfInBounds_toArray, List.set_cons_zero, List.set_cons_succ]))
          refine wpTree_1 6 hOps (by kernel_rfl) (by decide) rfl (fun K' hK => ?_)
          go_simp
          refine (hfl.out _ ((Below.refl _ _).drew)).mono ?_
          rintro e w6 ⟨rfl, hb6d⟩
          have hb6 : Below w5.heap.size w5 w6 := ((Below.refl _ _).drew).trans (hb6d.mono (Nat.le_refl _))
          have e06 := cell_later hb6 e0
          dsimp only
          refine hK.out _ _ e06 ?_
          clear hK K'
          try simp only [Act.put, List.setIfInBounds_toArray, List.set_cons_zero, List.set_cons_succ]
          refine wpTree_1 8 hOps (by kernel_rfl) (by decide) rfl (fun K' hK => ?_)
          go_simp
          refine (hwr.out _ hb6).mono ?_
          rintro e w7 ⟨rfl, hst7⟩
          obtain ⟨x7, hS7, hg7, hn7⟩ := (hS5.out.below hb6).step hst7
          have e07 : w7.cell? ⟨sb, 0, none⟩ = some (.pointer (some ⟨db, 0, none⟩)) := hS7.blk.cellAt rfl
          have hb7 : Below base w w7 := hbb5.trans ((hb6.mono hbase5).trans (hg7.below (Nat.le_trans hbase5 hb6.size) (fun k hk1 hk2 => by have := (hS5.out.below hb6).dsk.base_le k hk2; omega)))
          have hC7 : Hid (Chg (fun k => DS x db k ∨ k = sb) w w7) := Lib.hid (((Chg.of_below (hb5.trans (hb6.mono hb5.size))).mono (fun k h1 h2 => by omega)).then_new hg7 (fun k hk e => .inl e))
          have hX7 : Hid (∀ k, DS x7 db k → DS x db k ∨ w.heap.size ≤ k) := Lib.hid (fun k hk => (hn7 k hk).elim .inl (fun h => .inr (Nat.le_trans hb5.size (Nat.le_trans hb6.size h))))
          dsimp only
          refine hK.out _ _ e07 ?_
          clear hK K'
          try simp only [Act.put, List.setIfInBounds_toArray, List.set_cons_zero, List.set_cons_succ]
          refine wpTree_nil hOps (by kernel_rfl) ?_
          refine hT.out _ _ ?_
          simp only [List.drop_succ_cons, List.drop_zero]
          clear hOps hT hTok hHeld
          have hl7 := hS7.blk.lt
          have hfl7 : Hid (∀ wy, Below w7.heap.size w7 wy → Calls Try.prog 25 #[.pointer (some ⟨sb, 0, none⟩), .int .i64 (0 : Nat)] wy fun e w' => e = .returned (.string fn) ∧ Below wy.heap.size wy w') := Lib.hid (fun wy hy => by rw [hfn.out]; exact file_any wy (hS7.blk.below hy hl7) hnm (by omega))
          have hbase7 : base ≤ w7.heap.size := Nat.le_trans hb hb7.size
          obtain ⟨wr, hwrr⟩ : ∃ wr, wr = writeM s.M fn 0 F := ⟨_, rfl⟩
          rw [← hwrr] at hr hS7 hkw ⊢
          have hsy7 : Hid (∀ wy, Below w7.heap.size w7 wy → Calls Try.prog 26 #[.pointer (some ⟨db, 0, none⟩), .string fn] wy fun e w' => e = .returned (.int .i64 (syncM wr.2 fn).1) ∧ DStep wy base db x7 (syncM wr.2 fn).2 w') := Lib.hid (fun wy hy => sync_any fn wy (by unfold maxLen; omega) (hS7.dsk.below hy) hkw.out hN (Nat.le_trans hbase7 hy.size))
          clear hfl hwr hkw hst7 hb6 hb6d e06 e3 e4 e0 hg7 hn7 hwrr hS5 hbb5
          obtain ⟨w1e, w1m⟩ := wr
          dsimp only at hr hS7 hsy7 ⊢
          have e7 : Hid (SlotB w7 sb db nm s.v s.n s.inn s.br) := Lib.hid hS7.blk
          have e75 : w7.cell? ⟨sb, 5, none⟩ = some (.bool s.br) := hS7.blk.cellAt rfl
          have f5 := hS7.blk.frozen 5
          rw [hbf] at e75
          by_cases hw0 : w1e = 0
          · subst hw0
            rw [if_neg (by simp)] at hr
            have e70 : w7.cell? ⟨sb, 0, none⟩ = some (.pointer (some ⟨db, 0, none⟩)) := e07
            go_upto_region 14 with fail
            refine wp_region_tree (fun wx => wx.cell? ⟨sb, 0, none⟩ = some (.pointer (some ⟨db, 0, none⟩))) 8 9 (by kernel_rfl) rfl (by kernel_rfl) (fun d _ _ _ _ h => by cases d <;> exact h) (e70) (fun opz T hOps hT hTok hHeld => ?_)
            (refine wpTree_q 0 hTok hOps (by kernel_rfl) rfl rfl ⟨?_, ?_, ?_⟩; rotate_left; (focus (intro wx hSx; (try dsimp only at hSx); go_simp; (try with_reducible rfl))); (simp only [Act.put, List.setIfInBounds_toArray, List.set_cons_zero, List.set_cons_succ]))
            (refine wpTree_q 1 hTok hOps (by kernel_rfl) rfl rfl ⟨?_, ?_, ?_⟩; rotate_left; (focus (intro wx hSx; (try dsimp only at hSx); go_simp; (try with_reducible rfl))); (simp only [Act.put, List.setIfInBounds_toArray, List.set_cons_zero, List.set_cons_succ]))
            (refine wpTree_q 2 hTok hOps (by kernel_rfl) rfl rfl ⟨?_, ?_, ?_⟩; rotate_left; (focus (intro wx hSx; (try dsimp only at hSx); go_simp; (try with_reducible rfl))); (simp only [Act.put, List.setIfInBounds_toArray, List.set_cons_zero, List.set_cons_succ]))
            (refine wpTree_q 3 hTok hOps (by kernel_rfl) rfl rfl ⟨?_, ?_, ?_⟩; rotate_left; (focus (intro wx hSx; (try dsimp only at hSx); go_simp; (try with_reducible rfl))); (simp only [Act.put, List.setIfInBounds_toArray, List.set_cons_zero, List.set_cons_succ]))
            (refine wpTree_q 4 hTok hOps (by kernel_rfl) rfl rfl ⟨?_, ?_, ?_⟩; rotate_left; (focus (intro wx hSx; (try dsimp only at hSx); go_simp; (try with_reducible rfl))); (simp only [Act.put, List.setIfInBounds_toArray, List.set_cons_zero, List.set_cons_succ]))
            (refine wpTree_q 5 hTok hOps (by kernel_rfl) rfl rfl ⟨?_, ?_, ?_⟩; rotate_left; (focus (intro wx hSx; (try dsimp only at hSx); go_simp; (try with_reducible rfl))); (simp only [Act.put, List.setIfInBounds_toArray, List.set_cons_zero, List.set_cons_succ]))
            refine wpTree_1 6 hOps (by kernel_rfl) (by decide) rfl (fun K' hK => ?_)
            go_simp
            refine (hfl7.out _ ((Below.refl _ _).drew)).mono ?_
            rintro e w8 ⟨rfl, hb8d⟩
            have hb8 : Below w7.heap.size w7 w8 := ((Below.refl _ _).drew).trans (hb8d.mono (Nat.le_refl _))
            have e08 := cell_later hb8 e70
            dsimp only
            refine hK.out _ _ e08 ?_
            clear hK K'
            try simp only [Act.put, List.setIfInBounds_toArray, List.set_cons_zero, List.set_cons_succ]
            refine wpTree_1 7 hOps (by kernel_rfl) (by decide) rfl (fun K' hK => ?_)
            go_simp
            refine (hsy7.out _ hb8).mono ?_
            rintro e w9 ⟨rfl, hst9⟩
            have hS8 := hS7.below hb8
            obtain ⟨x9, hS9, hg9, hn9⟩ := hS8.step hst9
            have e09 : w9.cell? ⟨sb, 0, none⟩ = some (.pointer (some ⟨db, 0, none⟩)) := hS9.blk.cellAt rfl
            have hb9 : Below base w w9 := hb7.trans ((hb8.mono hbase7).trans (hg9.below (Nat.le_trans hbase7 hb8.size) (fun k hk1 hk2 => by have := hS8.dsk.base_le k hk2; omega)))
            have hbase9 : base ≤ w9.heap.size := Nat.le_trans hb hb9.size
            have hC8 : Chg (fun k => DS x db k ∨ k = sb) w w8 := hC7.out.then_new ((Chg.of_below hb8).mono (fun k h1 h2 => by omega) : Chg (fun _ => False) w7 w8) (fun k hk e => e.elim)
            have hC9 : Hid (Chg (fun k => DS x db k ∨ k = sb) w w9) := Lib.hid (hC8.then_new hg9 (fun k hk e => (hX7.out k e).elim .inl (fun h => by omega)))
            have hX9 : Hid (∀ k, DS x9 db k → DS x db k ∨ w.heap.size ≤ k) := Lib.hid (fun k hk => (hn9 k hk).elim (hX7.out k) (fun h => .inr (by have := hC8.size; omega)))
            clear hC8
            dsimp only
            refine hK.out _ _ e09 ?_
            clear hK K'
            try simp only [Act.put, List.setIfInBounds_toArray, List.set_cons_zero, List.set_cons_succ]
            refine wpTree_nil hOps (by kernel_rfl) ?_
            refine hT.out _ _ ?_
            simp only [List.drop_succ_cons, List.drop_zero]
            clear hOps hT hTok hHeld
            generalize syncM w1m fn = sr at hr hS9 ⊢
            obtain ⟨s1e, s1m⟩ := sr
            dsimp only at hr hS9 ⊢
            have bsl := hS9.bs
            by_cases hs0 : s1e = 0
            · subst hs0
              rw [if_neg (by simp)] at hr
              have g2 : w9.cell? ⟨sb, 2, none⟩ = some (.string s.v) := hS9.blk.cellAt rfl
              have g3 : w9.cell? ⟨sb, 3, none⟩ = some (.int .i64 s.n) := hS9.blk.cellAt rfl
              have g4 : w9.cell? ⟨sb, 4, none⟩ = some (.int .i64 s.inn) := hS9.blk.cellAt rfl
              have f2 := hS9.blk.frozen 2
              have f3 := hS9.blk.frozen 3
              have f4 := hS9.blk.frozen 4
              rw [← hsn.out] at g3
              have hfin : Hid (∃ x', Slt (((w9.setCell ⟨sb, 2, none⟩ (.string val)).setCell ⟨sb, 3, none⟩ (.int .i64 n1)).setCell ⟨sb, 4, none⟩ (.int .i64 0)) base db x' sb nm r.2 ∧ Below base w (((w9.setCell ⟨sb, 2, none⟩ (.string val)).setCell ⟨sb, 3, none⟩ (.int .i64 n1)).setCell ⟨sb, 4, none⟩ (.int .i64 0)) ∧ Chg (fun k => DS x db k ∨ k = sb) w (((w9.setCell ⟨sb, 2, none⟩ (.string val)).setCell ⟨sb, 3, none⟩ (.int .i64 n1)).setCell ⟨sb, 4, none⟩ (.int .i64 0)) ∧ ∀ k, DS x' db k → DS x db k ∨ w.heap.size ≤ k) := by
                have hc1 : Chg (fun k => k = sb) w9 (w9.setCell ⟨sb, 2, none⟩ (.string val)) := (Chg.refl _ _).setCell _ _ (fun _ => rfl)
                have hc2 : Chg (fun k => k = sb) w9 ((w9.setCell ⟨sb, 2, none⟩ (.string val)).setCell ⟨sb, 3, none⟩ (.int .i64 n1)) := hc1.setCell _ _ (fun _ => rfl)
                have hc : Chg (fun k => k = sb) w9 (((w9.setCell ⟨sb, 2, none⟩ (.string val)).setCell ⟨sb, 3, none⟩ (.int .i64 n1)).setCell ⟨sb, 4, none⟩ (.int .i64 0)) := hc2.setCell _ _ (fun _ => rfl)
                refine Lib.hid ⟨x9, ?_, hb9.trans (hc.below hbase9 (fun k hk1 hk2 => by omega)), hC9.out.then_new hc (fun k hk e => .inr e), hX9.out⟩
                rw [hr.out]
                refine hS9.turn hc rfl ?_
                unfold SlotB
                have h5 := ((hS9.blk.set 2 (.string val)).set 3 (.int .i64 n1)).set 4 (.int .i64 0)
                simp only at h5
                rw [hbf] at h5
                simpa using h5
              have hr1 : r.1 = 0 := by rw [hr.out]
              clear hr hfl7 hsy7 hS7 e7 hS8 hS9 hst9 hg9 hn9 hb8 hb8d e08 hsn hn1
              go_wp2_with fail
              go_ret
          
              exact ⟨by rw [hr1]; rfl, hfin.out⟩
            · rw [if_pos hs0] at hr
              have g5 : w9.cell? ⟨sb, 5, none⟩ = some (.bool s.br) := hS9.blk.cellAt rfl
              have f5 := hS9.blk.frozen 5
              have hfin : Hid (∃ x', Slt (w9.setCell ⟨sb, 5, none⟩ (.bool true)) base db x' sb nm r.2 ∧ Below base w (w9.setCell ⟨sb, 5, none⟩ (.bool true)) ∧ Chg (fun k => DS x db k ∨ k = sb) w (w9.setCell ⟨sb, 5, none⟩ (.bool true)) ∧ ∀ k, DS x' db k → DS x db k ∨ w.heap.size ≤ k) := by
                have hc : Chg (fun k => k = sb) w9 (w9.setCell ⟨sb, 5, none⟩ (.bool true)) := (Chg.refl _ _).setCell _ _ (fun _ => rfl)
                refine Lib.hid ⟨x9, ?_, hb9.trans (hc.below hbase9 (fun k hk1 hk2 => by omega)), hC9.out.then_new hc (fun k hk e => .inr e), hX9.out⟩
                rw [hr.out]
                exact hS9.turn hc rfl (by unfold SlotB; simpa using hS9.blk.set 5 (.bool true))
              have hr1 : r.1 = s1e := by rw [hr.out]
              have dw : ((s1e : Int) == 0) = false := by simp; omega
              clear hr hfl7 hsy7 hS7 e7 hS8 hS9 hst9 hg9 hn9 hb8 hb8d e08 hsn hn1
              go_wp2_with fail
              go_ret
              exact ⟨by rw [hr1]; rfl, hfin.out⟩
          · rw [if_pos hw0] at hr
            have hfin : Hid (∃ x', Slt (w7.setCell ⟨sb, 5, none⟩ (.bool true)) base db x' sb nm r.2 ∧ Below base w (w7.setCell ⟨sb, 5, none⟩ (.bool true)) ∧ Chg (fun k => DS x db k ∨ k = sb) w (w7.setCell ⟨sb, 5, none⟩ (.bool true)) ∧ ∀ k, DS x' db k → DS x db k ∨ w.heap.size ≤ k) := by
              have hc : Chg (fun k => k = sb) w7 (w7.setCell ⟨sb, 5, none⟩ (.bool true)) := (Chg.refl _ _).setCell _ _ (fun _ => rfl)
              refine Lib.hid ⟨x7, ?_, hb7.trans (hc.below hbase7 (fun k hk1 hk2 => by have := hS7.bs; omega)), hC7.out.then_new hc (fun k hk e => .inr e), hX7.out⟩
              rw [hr.out]
              exact hS7.turn hc rfl (by unfold SlotB; simpa using hS7.blk.set 5 (.bool true))
            have hr1 : r.1 = w1e := by rw [hr.out]
            have dw : ((w1e : Int) == 0) = false := by simp; omega
            clear hr hfl7 hsy7 hS7 e7
            go_wp2_with fail
            go_ret
            exact ⟨by rw [hr1]; rfl, hfin.out⟩
end Go.Proofs.Ytjgiphoolfhlmaa

/- Slot: the document's Frame; the chapter's example, plainly. -/
namespace Go.Proofs.Ytjgiphoolfhlmaa
open Go.RowKit
attribute [local go_sem] Oper.semAt_some
set_option linter.unusedVariables false
set_option linter.unusedSimpArgs false

theorem payC_len2 (n : Nat) (s : ByteArray) : (payC n s).length ≤ s.size + 50 := by
  have h1 := digs_len10 (zig n)
  have h2 := digs_len10 s.size
  have h3 : (txtB s).length = s.size := by unfold txtB; rw [List.length_map]; rfl
  unfold payC
  rw [List.length_map]
  unfold payN itmsC
  simp only [encL, encI, List.length_append, List.length_cons, List.length_nil, if_true, if_neg (show ¬ (1 : Int) = 0 by decide)]
  omega
theorem put_okM {nm : ByteArray} {s : SL} {N : Nat} (h : OkM N s.M) (val : ByteArray) : OkM (N + 2) (putM nm s val).2.M := by
  have h0 := h.mono (show N ≤ N + 2 by omega)
  have h1 := (h.write (nm ++ sufC (toS s.inn)) 0 (frameC (payC (s.n + 1) val)))
  have h2 := h1.sync (nm ++ sufC (toS s.inn))
  unfold putM
  split
  · exact h0
  split
  · exact h0
  split
  · exact h0
  split
  · exact h1.mono (by omega)
  split
  · exact h2
  · exact h2
theorem put_go {base db sb N : Nat} {x : DX} {nm : ByteArray} {s s' : SL} {e0 : Nat} (val : ByteArray) (w : World) (hm : putM nm s val = (e0, s')) (hS : Slt w base db x sb nm s) (hnm : nm.size ≤ 12) (hok : OkM N s.M) (hN : N + 1 ≤ 1000000) (hb : base ≤ w.heap.size) (hval : val.size ≤ maxLen) (hn0 : s.n ≤ 9223372036854775807) :
    Calls Try.prog 10 #[.pointer (some ⟨sb, 0, none⟩), .string val] w fun e w' => e = .returned (.int .i64 e0) ∧ ∃ x', Slt w' base db x' sb nm s' ∧ Below base w w' := by
  have h := put_walk val w hS hnm hok hN hb hval hn0
  rw [hm] at h
  refine h.mono ?_
  rintro e w' ⟨h1, x', h2, h3, _⟩
  exact ⟨h1, x', h2, h3⟩

theorem put_go2 {base db sb N : Nat} {x : DX} {nm : ByteArray} {s s' : SL} {e0 : Nat} (val : ByteArray) (w : World) (hm : putM nm s val = (e0, s')) (hS : Slt w base db x sb nm s) (hnm : nm.size ≤ 12) (hok : OkM N s.M) (hN : N + 1 ≤ 1000000) (hb : base ≤ w.heap.size) (hval : val.size ≤ maxLen) (hn0 : s.n ≤ 9223372036854775807) :
    Calls Try.prog 10 #[.pointer (some ⟨sb, 0, none⟩), .string val] w fun e w' => e = .returned (.int .i64 e0) ∧ ∃ x', Slt w' base db x' sb nm s' ∧ Below base w w' ∧ Chg (fun k => DS x db k ∨ k = sb) w w' ∧ ∀ k, DS x' db k → DS x db k ∨ w.heap.size ≤ k := by
  have h := put_walk val w hS hnm hok hN hb hval hn0
  rw [hm] at h
  exact h

set_option maxRecDepth 100000 in
set_option maxHeartbeats 1000000 in
theorem rframe_any (n : Nat) (s : ByteArray) (w : World) (hn : n ≤ 9223372036854775807) (hs : s.size ≤ 60000) :
    Calls Try.prog 18 #[.int .i64 n, .string s] w fun e w' => ∃ v, e = .returned v ∧ OwnL encU w' w.heap.size 5 1 v (frameC (payC n s)) ∧ Below w.heap.size w w' := by
  have hen := enc_itms (n := n) (s := s) hn hs
  have hpn := payC_nat (n := n) (s := s) hn hs
  have hpl := payC_len (n := n) (s := s) hs
  have hwf : (Lit.int .i64 (n : Nat)).wf = true := wf_i64_of (by omega) (by omega)
  go_enter Try.func18, Try.ntmps18
  go_wp2_with (go_at_call 32; refine Shut.out ?k3)
  case k3 =>
  unfold Shut
  refine Calls.world ?_
  intro w3 hw3
  have hb3 : Below w.heap.size w w3 := by rw [hw3]; exact belowAlloc _ _
  have hi3 : RIts 1 w3.heap.size w3 (some ⟨w.heap.size, 0, none⟩) 2 (itmsC n s) := by
    rw [hw3]
    refine RIts.of_cells (ps := [⟨.mk 0 n ⟨#[]⟩ [], none, 0⟩, ⟨.mk 1 0 s [], none, 0⟩]) (Blk.new _ _ _) rfl ?_ (by simp)
    intro p hp
    simp only [List.mem_cons, List.not_mem_nil, or_false] at hp
    rcases hp with rfl | rfl
    · exact RIt.one0 hwf
    · exact RIt.one1 (by omega)
  have hen3 := refEncode_any 1 _ _ _ w3 _ hi3 (Nat.le_refl _)
  rw [hen] at hen3
  change Calls Try.prog 32 #[.slice (some ⟨w.heap.size, 0, none⟩) 2 2] w3 _ at hen3
  clear hw3 hi3 hen hwf
  refine hen3.mono ?_
  rintro e w4 ⟨hb4d, v4, rfl, hO4⟩
  have hb4 : Below w.heap.size w w4 := hb3.trans (hb4d.mono hb3.size)
  have hO4' := OwnB.b hpn hO4
  obtain ⟨a4, q4, rfl, hs4⟩ := rdsOwn hO4'
  have hfp := rput_any a4 q4 (payC n s) w4 hs4 (by omega)
  obtain ⟨F, hF⟩ : ∃ F, F = frameC (payC n s) := ⟨_, rfl⟩
  rw [← hF] at hfp
  replace hF := Lib.hid hF
  generalize (payC n s).length = k at hfp ⊢
  clear hen3 hO4 hO4' hs4 hb3 hb4d hpn
  dsimp only
  go_wp2_with (go_at_call 33; refine Shut.out ?k4)
  case k4 =>
  unfold Shut
  refine hfp.mono ?_
  rintro e w5 ⟨v5, rfl, hO5, hb5d⟩
  have hb5 : Below w.heap.size w w5 := hb4.trans (hb5d.mono hb4.size)
  have hO6 := hO5.base_le hb4.size
  clear hO5 hfp
  dsimp only
  go_wp2_with fail
  go_ret
  rw [hF.out] at hO6
  exact ⟨_, rfl, hO6, hb5⟩

/- The example, plainly. -/
def nN : ByteArray := ⟨#[110]⟩
def vX : ByteArray := ⟨#[120]⟩
def vY : ByteArray := ⟨#[121]⟩
def H0 : Nat → Nat × ByteArray := fun _ => (0, ⟨#[]⟩)
theorem name_n : nameS nN = true := by
  unfold nameS nN
  rw [ByteArray.toList_eq]
  decide
def sl0 (r : Int) : SL := ⟨stdM r [], ⟨#[]⟩, 0, -1, false⟩
theorem sinv0 (nm : ByteArray) (r : Int) : SInv nm (sl0 r) r [] H0 := ⟨rfl, fun j hj => .inl ⟨rfl, rfl, rfl⟩, rfl⟩
def L1 : Files := newL nN [] (sl0 1000) vX
def sl1 : SL := ⟨stdM 1000 L1, vX, 1, 0, false⟩
def L2 : Files := newL nN L1 sl1 vY
def sl2 : SL := ⟨stdM 1000 L2, vY, 2, 1, false⟩
theorem frame_len2 (n : Nat) (s : ByteArray) : (frameC (payC n s)).length ≤ s.size + 62 := by
  rw [frameC_len]
  have := payC_len2 n s
  omega
theorem newL_sum (nm : ByteArray) (L : Files) (s : SL) (val : ByteArray) : sumL (newL nm L s val) ≤ max (bytesOf L (nm ++ sufC (toS s.inn))).length (val.size + 62) + sumL L := by
  unfold newL
  refine Nat.le_trans (sumL_with_le _ _ _) ?_
  rw [overB_len (Nat.zero_le _)]
  have := frame_len2 (s.n + 1) val
  omega
theorem sum1 : sumL L1 ≤ 63 := by
  have h := newL_sum nN [] (sl0 1000) vX
  have h2 : (bytesOf [] (nN ++ sufC (toS (sl0 1000).inn))).length = 0 := rfl
  have h3 : vX.size = 1 := rfl
  have h4 : sumL [] = 0 := rfl
  rw [h2, h3, h4] at h
  exact h
theorem kn1 : putM nN (sl0 1000) vX = (0, sl1) := by
  rcases put_std (s := sl0 1000) (L := []) (r := 1000) name_n rfl rfl (val := vX) (by decide) (by decide) with ⟨_, h⟩ | h
  · have := frame_len2 ((sl0 1000).n + 1) vX
    have h3 : vX.size = 1 := rfl
    have h4 : sumL [] = 0 := rfl
    rw [h4] at h
    omega
  · exact h
theorem kn2 : putM nN sl1 vY = (0, sl2) := by
  rcases put_std (s := sl1) (L := L1) (r := 1000) name_n rfl rfl (val := vY) (by decide) (by decide) with ⟨_, h⟩ | h
  · have := frame_len2 (sl1.n + 1) vY
    have h3 : vY.size = 1 := rfl
    have h4 := sum1
    omega
  · exact h
theorem kn3 : getL L2 (nN ++ sufC 0) = some (frameC (payC 1 vX)) := by
  unfold L2 newL
  rw [show toS sl1.inn = 1 from rfl, getL_withL, if_neg (suf_ne nN)]
  unfold L1 newL
  rw [show toS (sl0 1000).inn = 0 from rfl, getL_withL, if_pos rfl, overB_frame]
  show some (_ ++ List.drop _ []) = _
  rw [List.drop_nil, List.append_nil]
  rfl
end Go.Proofs.Ytjgiphoolfhlmaa

/- Slot: the chapter's example, walked; SlotNames. -/
namespace Go.Proofs.Ytjgiphoolfhlmaa
open Go.RowKit
attribute [local go_sem] Oper.semAt_some
set_option linter.unusedVariables false
set_option linter.unusedSimpArgs false

set_option maxRecDepth 100000 in
set_option maxHeartbeats 4000000 in
theorem kslot_any (w : World) : Calls Try.prog 6 #[] w fun e w' => e = .returned (.bool true) ∧ Below w.heap.size w w' := by
  have hl1 : nN.size ≤ 12 := by decide
  have hl2 : nN.size ≤ maxLen := by decide
  have hx : vX.size ≤ maxLen := by decide
  have hy : vY.size ≤ maxLen := by decide
  go_enter Try.func6, Try.ntmps6
  go_wp2_with fail
  refine (new_any 1000 w (by omega) (by omega)).mono ?_
  rintro e w1 ⟨db, x, rfl, hD, hb1, _, _, _⟩
  have ok0 := OkM.empty 1000 (by omega) (by omega)
  have hop := sopen_any nN H0 w1 hl2 hD ok0 hb1.size (fun _ j hj => (sinv0 nN 1000).held j hj)
  change Calls Try.prog 8 #[.pointer (some ⟨db, 0, none⟩), .string ⟨#[110]⟩] w1 _ at hop
  dsimp only
  go_wp2_with fail
  refine hop.mono ?_
  rintro e w2 ⟨hb2d, _, hyes⟩
  obtain ⟨sb, rfl, hS2⟩ := hyes name_n
  have hb2 := hb1.trans (hb2d.mono hb1.size)
  have hS2' : Slt w2 w.heap.size db x sb nN (sl0 1000) := hS2
  have hp1 := put_go vX w2 kn1 hS2' hl1 ok0 (by omega) hb2.size hx (by decide)
  change Calls Try.prog 10 #[.pointer (some ⟨sb, 0, none⟩), .string ⟨#[120]⟩] w2 _ at hp1
  have ok2 : OkM 2 sl1.M := by have := put_okM (nm := nN) (s := sl0 1000) ok0 vX; rwa [kn1] at this
  have ok4 : OkM 4 sl2.M := by have := put_okM (nm := nN) (s := sl1) ok2 vY; rwa [kn2] at this
  clear hop hyes hS2 hb2d hD
  dsimp only
  go_wp2_with (go_at_call 10; refine Shut.out ?k1)
  case k1 =>
  unfold Shut
  refine hp1.mono ?_
  rintro e w3 ⟨rfl, x3, hS3, hb3d⟩
  have hb3 : Below w.heap.size w w3 := hb2.trans hb3d
  have hp2 := put_go vY w3 kn2 hS3 hl1 ok2 (by omega) hb3.size hy (by decide)
  change Calls Try.prog 10 #[.pointer (some ⟨sb, 0, none⟩), .string ⟨#[121]⟩] w3 _ at hp2
  clear hp1 hS2'
  dsimp only
  go_wp2_with (go_at_call 10; refine Shut.out ?k2)
  case k2 =>
  unfold Shut
  refine hp2.mono ?_
  rintro e w4 ⟨rfl, x4, hS4, hb4d⟩
  have hb4 : Below w.heap.size w w4 := hb3.trans hb4d
  have hg := sget_any w4 hS4.blk
  change Calls Try.prog 9 #[.pointer (some ⟨sb, 0, none⟩)] w4 fun e w' => e = .returned (.tuple #[.string ⟨#[121]⟩, .int .i64 2]) ∧ Below w4.heap.size w4 w' at hg
  clear hp2 hS3
  dsimp only
  go_wp2_with fail
  refine hg.mono ?_
  rintro e w5 ⟨rfl, hb5d⟩
  have hb5 : Below w.heap.size w w5 := hb4.trans (hb5d.mono hb4.size)
  have hS5 := hS4.below hb5d
  have hdu := durable_any (nN ++ sufC 0) w5 (by have := suf_len 0 hl1; unfold maxLen; omega) hS5.dsk ok4
  have hgl : getL sl2.M.safe (nN ++ sufC 0) = some (frameC (payC 1 vX)) := kn3
  have hbo : bytesOf sl2.M.safe (nN ++ sufC 0) = frameC (payC 1 vX) := by unfold bytesOf; rw [hgl]; rfl
  rw [hbo, hgl] at hdu
  change Calls Try.prog 16 #[.pointer (some ⟨db, 0, none⟩), .string ⟨#[110, 45, 97]⟩] w5 fun e w' => ∃ v, e = .returned (.tuple #[v, .bool true]) ∧ OwnL encU w' w5.heap.size 5 1 v (frameC (payC 1 vX)) ∧ Below w5.heap.size w5 w' at hdu
  clear hg hS4
  dsimp only
  go_wp2_with fail
  refine hdu.mono ?_
  rintro e w6 ⟨v6, rfl, hO6, hb6d⟩
  have hb6 : Below w.heap.size w w6 := hb5.trans (hb6d.mono hb5.size)
  have hr6 := Rds.own hO6
  have hrf := rframe_any 1 vX w6 (by omega) (by decide)
  change Calls Try.prog 18 #[.int .i64 1, .string ⟨#[120]⟩] w6 _ at hrf
  clear hdu hO6 hS5
  dsimp only
  go_wp2_with (go_at_call 18; refine Shut.out ?k3)
  case k3 =>
  unfold Shut
  refine hrf.mono ?_
  rintro e w7 ⟨v7, rfl, hO7, hb7d⟩
  have hb7 : Below w.heap.size w w7 := hb6.trans (hb7d.mono hb6.size)
  have hsm := same_rds (hr6.below hb7d) (Rds.own hO7)
  clear hrf hr6 hO7
  dsimp only
  go_wp2_with (go_at_call 17; refine Shut.out ?k4)
  case k4 =>
  unfold Shut
  refine hsm.mono ?_
  rintro e w8 ⟨rfl, rfl⟩
  clear hsm
  dsimp only
  simp only [decide_true]
  go_wp2_with fail
  go_ret
  exact ⟨rfl, hb7⟩
end Go.Proofs.Ytjgiphoolfhlmaa

/- Slot: SlotNames. -/
namespace Go.Proofs.Ytjgiphoolfhlmaa
open Go.RowKit
attribute [local go_sem] Oper.semAt_some
set_option linter.unusedVariables false
set_option linter.unusedSimpArgs false

theorem index_strS (t : TypeId) (ht : Try.prog.underlying t = some .string) (s : ByteArray) (i : Nat) (h : i < s.toList.length) (w : World) : (Instr.index t (.string s) (.int .i64 i)).run Try.prog w = .ok (.int .u8 (s.toList[i]).toNat) w := by
  have hsz : s.toList.length = s.size := by rw [ByteArray.toList_eq]; rfl
  have h2 : i < s.size := by omega
  have e : s.toList[i] = s[i] := by
    have : s.toList[i]? = some s[i] := by
      rw [ByteArray.toList_eq]
      show s.data.toList[i]? = some s.data[i]
      rw [Array.getElem?_toList, Array.getElem?_eq_getElem]
    rw [List.getElem?_eq_getElem h] at this
    exact Option.some.inj this
  rw [e]
  unfold Instr.index
  simp [run_underlying ht, go_sem, h2]

set_option maxRecDepth 100000 in
set_option maxHeartbeats 4000000 in
theorem names_any (s : ByteArray) (w : World) (hs : s.size ≤ maxLen) : Calls Try.prog 3 #[.string s] w fun e w' => e = .returned (.bool true) ∧ Below w.heap.size w w' := by
  have hsz : s.toList.length = s.size := by rw [ByteArray.toList_eq]; rfl
  obtain ⟨res, hres⟩ : ∃ res, res = nameS s := ⟨_, rfl⟩
  obtain ⟨n, hn⟩ : ∃ n, n = s.size := ⟨_, rfl⟩
  have hmx : n ≤ 9223372036854775807 := by rw [hn]; exact hs
  have hss : (s.size : Int) = (n : Int) := by rw [hn]
  have hrq : res = (s.toList.all okS && (decide (1 ≤ n) && decide (n ≤ 12))) := by rw [hres, hn]; unfold nameS; rw [Bool.and_assoc]
  replace hsz := Lib.hid hsz
  replace hrq := Lib.hid hrq
  replace hn := Lib.hid hn
  replace hres := Lib.hid hres
  replace hs := Lib.hid hs
  go_enter Try.func3, Try.ntmps3
  go_wp2_with fail
  refine (kslot_any w).mono ?_
  rintro e w1 ⟨rfl, hb1⟩
  dsimp only
  by_cases h1 : 1 ≤ n
  · have e1 : decide ((1 : Int) ≤ (n : Int)) = true := by simp; omega
    by_cases h2 : n ≤ 12
    · have e2 : decide ((n : Int) ≤ (12 : Int)) = true := by simp; omega
      rw [decide_eq_true h1, decide_eq_true h2] at hrq
      go_wp2_with fail
      go_loopw [3, 4] (fun x3 x4 wr => ∃ i : Nat, i ≤ n ∧ x4 = .int .i64 i ∧ wr = w1 ∧ x3 = .bool (true && (s.toList.take i).all okS)) (fun _ x4 _ => n - (intOf x4).toNat)
      case atStart => exact ⟨0, Nat.zero_le _, rfl, rfl, rfl⟩
      case round =>
        obtain ⟨i, hi, rfl, rfl, rfl⟩ := hrel
        by_cases hlt : i < n
        · have hil : i < s.toList.length := by rw [hsz.out, ← hn.out]; exact hlt
          obtain ⟨c, hc⟩ : ∃ c, s.toList[i] = c := ⟨_, rfl⟩
          have hix := index_strS 9 Try.underlying9 s i hil
          rw [hc] at hix
          have htk : (s.toList.take (i + 1)).all okS = ((s.toList.take i).all okS && okS c) := by
            rw [List.take_succ_eq_append_getElem hil, hc, List.all_append]
            simp
          have hok : okS c = (decide (97 ≤ c.toNat) && decide (c.toNat ≤ 122)) := rfl
          rw [hok] at htk
          have d1 : decide ((i : Int) < (n : Int)) = true := by simp; omega
          generalize c.toNat = m at hix htk
          generalize (s.toList.take i).all okS = b at htk ⊢
          replace htk := Lib.hid htk
          clear hc hok
          cases b
          · go_wp2_with fail
            go_roundw
            case rel => exact ⟨i + 1, by omega, by simp, trivial, by rw [htk.out]; simp⟩
            case measure => simp [intOf]; omega
          · by_cases m1 : 97 ≤ m
            · have a1 : decide ((97 : Int) ≤ (m : Int)) = true := by simp; omega
              by_cases m2 : m ≤ 122
              · have a2 : decide ((m : Int) ≤ (122 : Int)) = true := by simp; omega
                go_wp2_with fail
                go_roundw
                case rel => exact ⟨i + 1, by omega, by simp, trivial, by rw [htk.out]; simp [m1, m2]⟩
                case measure => simp [intOf]; omega
              · have a2 : decide ((m : Int) ≤ (122 : Int)) = false := by simp; omega
                go_wp2_with fail
                go_roundw
                case rel => exact ⟨i + 1, by omega, by simp, trivial, by rw [htk.out]; simp [m1, m2]⟩
                case measure => simp [intOf]; omega
            · have a1 : decide ((97 : Int) ≤ (m : Int)) = false := by simp; omega
              go_wp2_with fail
              go_roundw
              case rel => exact ⟨i + 1, by omega, by simp, trivial, by rw [htk.out]; simp [m1]⟩
              case measure => simp [intOf]; omega
        · obtain rfl : i = n := by omega
          have d9 : decide ((i : Int) < (i : Int)) = false := by simp
          have htake : s.toList.take i = s.toList := List.take_of_length_le (by rw [hsz.out, hn.out]; omega)
          have hfin : (true && (s.toList.take i).all okS) = res := by rw [htake, hrq.out]; simp
          rw [hfin]
          clear hfin htake hrq
          have hnw := new_any 100 wr (by omega) (by omega)
          go_wp2_with fail
          refine hnw.mono ?_
          rintro e w2 ⟨db, x, rfl, hD, hb2d, _, _, _⟩
          have hb2 := hb1.trans (hb2d.mono hb1.size)
          have ok0 := OkM.empty 100 (by omega) (by omega)
          have hop := sopen_any s H0 w2 hs.out hD ok0 hb2d.size (fun _ j hj => (sinv0 s 100).held j hj)
          rw [← hres.out] at hop
          have hon := fun wz => sopen_nil s wz
          clear hnw hD ok0
          dsimp only
          go_wp2_with fail
          refine hop.mono ?_
          rintro e w3 ⟨hb3d, hno, hyes⟩
          have hb3 := hb2.trans (hb3d.mono hb2.size)
          clear hop
          cases res
          · obtain rfl := hno rfl
            clear hno hyes
            dsimp only
            go_wp2_with fail
            refine (hon _).mono ?_
            rintro e w4 ⟨rfl, hb4d⟩
            have hb4 := hb3.trans (hb4d.mono hb3.size)
            dsimp only
            go_wp2_with fail
            refine (sget_nil _).mono ?_
            rintro e w5 ⟨rfl, hb5d⟩
            have hb5 := hb4.trans (hb5d.mono hb4.size)
            dsimp only
            go_wp2_with (go_at_call 10; refine Shut.out ?kq)
            case kq =>
            unfold Shut
            refine (sput_nil _ _).mono ?_
            rintro e w6 ⟨rfl, hb6d⟩
            have hb6 := hb5.trans (hb6d.mono hb5.size)
            dsimp only
            go_wp2_with fail
            go_ret
            exact ⟨rfl, hb6⟩
          · obtain ⟨sb, rfl, _⟩ := hyes rfl
            clear hno hyes
            dsimp only
            go_wp2_with fail
            refine (hon _).mono ?_
            rintro e w4 ⟨rfl, hb4d⟩
            have hb4 := hb3.trans (hb4d.mono hb3.size)
            dsimp only
            go_wp2_with fail
            refine (sget_nil _).mono ?_
            rintro e w5 ⟨rfl, hb5d⟩
            have hb5 := hb4.trans (hb5d.mono hb4.size)
            dsimp only
            go_wp2_with (go_at_call 10; refine Shut.out ?kq)
            case kq =>
            unfold Shut
            refine (sput_nil _ _).mono ?_
            rintro e w6 ⟨rfl, hb6d⟩
            have hb6 := hb5.trans (hb6d.mono hb5.size)
            dsimp only
            go_wp2_with fail
            go_ret
            exact ⟨rfl, hb6⟩
    · have e2 : decide ((n : Int) ≤ (12 : Int)) = false := by simp; omega
      rw [decide_eq_true h1, decide_eq_false h2] at hrq
      go_wp2_with fail
      go_loopw [3, 4] (fun x3 x4 wr => ∃ i : Nat, i ≤ n ∧ x4 = .int .i64 i ∧ wr = w1 ∧ x3 = .bool (false && (s.toList.take i).all okS)) (fun _ x4 _ => n - (intOf x4).toNat)
      case atStart => exact ⟨0, Nat.zero_le _, rfl, rfl, rfl⟩
      case round =>
        obtain ⟨i, hi, rfl, rfl, rfl⟩ := hrel
        by_cases hlt : i < n
        · have hil : i < s.toList.length := by rw [hsz.out, ← hn.out]; exact hlt
          obtain ⟨c, hc⟩ : ∃ c, s.toList[i] = c := ⟨_, rfl⟩
          have hix := index_strS 9 Try.underlying9 s i hil
          rw [hc] at hix
          have htk : (s.toList.take (i + 1)).all okS = ((s.toList.take i).all okS && okS c) := by
            rw [List.take_succ_eq_append_getElem hil, hc, List.all_append]
            simp
          have hok : okS c = (decide (97 ≤ c.toNat) && decide (c.toNat ≤ 122)) := rfl
          rw [hok] at htk
          have d1 : decide ((i : Int) < (n : Int)) = true := by simp; omega
          generalize c.toNat = m at hix htk
          generalize (s.toList.take i).all okS = b at htk ⊢
          replace htk := Lib.hid htk
          clear hc hok
          cases b
          · go_wp2_with fail
            go_roundw
            case rel => exact ⟨i + 1, by omega, by simp, trivial, by rw [htk.out]; simp⟩
            case measure => simp [intOf]; omega
          · by_cases m1 : 97 ≤ m
            · have a1 : decide ((97 : Int) ≤ (m : Int)) = true := by simp; omega
              by_cases m2 : m ≤ 122
              · have a2 : decide ((m : Int) ≤ (122 : Int)) = true := by simp; omega
                go_wp2_with fail
                go_roundw
                case rel => exact ⟨i + 1, by omega, by simp, trivial, by rw [htk.out]; simp [m1, m2]⟩
                case measure => simp [intOf]; omega
              · have a2 : decide ((m : Int) ≤ (122 : Int)) = false := by simp; omega
                go_wp2_with fail
                go_roundw
                case rel => exact ⟨i + 1, by omega, by simp, trivial, by rw [htk.out]; simp [m1, m2]⟩
                case measure => simp [intOf]; omega
            · have a1 : decide ((97 : Int) ≤ (m : Int)) = false := by simp; omega
              go_wp2_with fail
              go_roundw
              case rel => exact ⟨i + 1, by omega, by simp, trivial, by rw [htk.out]; simp [m1]⟩
              case measure => simp [intOf]; omega
        · obtain rfl : i = n := by omega
          have d9 : decide ((i : Int) < (i : Int)) = false := by simp
          have htake : s.toList.take i = s.toList := List.take_of_length_le (by rw [hsz.out, hn.out]; omega)
          have hfin : (false && (s.toList.take i).all okS) = res := by rw [htake, hrq.out]; simp
          rw [hfin]
          clear hfin htake hrq
          have hnw := new_any 100 wr (by omega) (by omega)
          go_wp2_with fail
          refine hnw.mono ?_
          rintro e w2 ⟨db, x, rfl, hD, hb2d, _, _, _⟩
          have hb2 := hb1.trans (hb2d.mono hb1.size)
          have ok0 := OkM.empty 100 (by omega) (by omega)
          have hop := sopen_any s H0 w2 hs.out hD ok0 hb2d.size (fun _ j hj => (sinv0 s 100).held j hj)
          rw [← hres.out] at hop
          have hon := fun wz => sopen_nil s wz
          clear hnw hD ok0
          dsimp only
          go_wp2_with fail
          refine hop.mono ?_
          rintro e w3 ⟨hb3d, hno, hyes⟩
          have hb3 := hb2.trans (hb3d.mono hb2.size)
          clear hop
          cases res
          · obtain rfl := hno rfl
            clear hno hyes
            dsimp only
            go_wp2_with fail
            refine (hon _).mono ?_
            rintro e w4 ⟨rfl, hb4d⟩
            have hb4 := hb3.trans (hb4d.mono hb3.size)
            dsimp only
            go_wp2_with fail
            refine (sget_nil _).mono ?_
            rintro e w5 ⟨rfl, hb5d⟩
            have hb5 := hb4.trans (hb5d.mono hb4.size)
            dsimp only
            go_wp2_with (go_at_call 10; refine Shut.out ?kq)
            case kq =>
            unfold Shut
            refine (sput_nil _ _).mono ?_
            rintro e w6 ⟨rfl, hb6d⟩
            have hb6 := hb5.trans (hb6d.mono hb5.size)
            dsimp only
            go_wp2_with fail
            go_ret
            exact ⟨rfl, hb6⟩
          · obtain ⟨sb, rfl, _⟩ := hyes rfl
            clear hno hyes
            dsimp only
            go_wp2_with fail
            refine (hon _).mono ?_
            rintro e w4 ⟨rfl, hb4d⟩
            have hb4 := hb3.trans (hb4d.mono hb3.size)
            dsimp only
            go_wp2_with fail
            refine (sget_nil _).mono ?_
            rintro e w5 ⟨rfl, hb5d⟩
            have hb5 := hb4.trans (hb5d.mono hb4.size)
            dsimp only
            go_wp2_with (go_at_call 10; refine Shut.out ?kq)
            case kq =>
            unfold Shut
            refine (sput_nil _ _).mono ?_
            rintro e w6 ⟨rfl, hb6d⟩
            have hb6 := hb5.trans (hb6d.mono hb5.size)
            dsimp only
            go_wp2_with fail
            go_ret
            exact ⟨rfl, hb6⟩
  · have e1 : decide ((1 : Int) ≤ (n : Int)) = false := by simp; omega
    rw [decide_eq_false h1, Bool.false_and] at hrq
    go_wp2_with fail
    go_loopw [3, 4] (fun x3 x4 wr => ∃ i : Nat, i ≤ n ∧ x4 = .int .i64 i ∧ wr = w1 ∧ x3 = .bool (false && (s.toList.take i).all okS)) (fun _ x4 _ => n - (intOf x4).toNat)
    case atStart => exact ⟨0, Nat.zero_le _, rfl, rfl, rfl⟩
    case round =>
      obtain ⟨i, hi, rfl, rfl, rfl⟩ := hrel
      by_cases hlt : i < n
      · have hil : i < s.toList.length := by rw [hsz.out, ← hn.out]; exact hlt
        obtain ⟨c, hc⟩ : ∃ c, s.toList[i] = c := ⟨_, rfl⟩
        have hix := index_strS 9 Try.underlying9 s i hil
        rw [hc] at hix
        have htk : (s.toList.take (i + 1)).all okS = ((s.toList.take i).all okS && okS c) := by
          rw [List.take_succ_eq_append_getElem hil, hc, List.all_append]
          simp
        have hok : okS c = (decide (97 ≤ c.toNat) && decide (c.toNat ≤ 122)) := rfl
        rw [hok] at htk
        have d1 : decide ((i : Int) < (n : Int)) = true := by simp; omega
        generalize c.toNat = m at hix htk
        generalize (s.toList.take i).all okS = b at htk ⊢
        replace htk := Lib.hid htk
        clear hc hok
        cases b
        · go_wp2_with fail
          go_roundw
          case rel => exact ⟨i + 1, by omega, by simp, trivial, by rw [htk.out]; simp⟩
          case measure => simp [intOf]; omega
        · by_cases m1 : 97 ≤ m
          · have a1 : decide ((97 : Int) ≤ (m : Int)) = true := by simp; omega
            by_cases m2 : m ≤ 122
            · have a2 : decide ((m : Int) ≤ (122 : Int)) = true := by simp; omega
              go_wp2_with fail
              go_roundw
              case rel => exact ⟨i + 1, by omega, by simp, trivial, by rw [htk.out]; simp [m1, m2]⟩
              case measure => simp [intOf]; omega
            · have a2 : decide ((m : Int) ≤ (122 : Int)) = false := by simp; omega
              go_wp2_with fail
              go_roundw
              case rel => exact ⟨i + 1, by omega, by simp, trivial, by rw [htk.out]; simp [m1, m2]⟩
              case measure => simp [intOf]; omega
          · have a1 : decide ((97 : Int) ≤ (m : Int)) = false := by simp; omega
            go_wp2_with fail
            go_roundw
            case rel => exact ⟨i + 1, by omega, by simp, trivial, by rw [htk.out]; simp [m1]⟩
            case measure => simp [intOf]; omega
      · obtain rfl : i = n := by omega
        have d9 : decide ((i : Int) < (i : Int)) = false := by simp
        have htake : s.toList.take i = s.toList := List.take_of_length_le (by rw [hsz.out, hn.out]; omega)
        have hfin : (false && (s.toList.take i).all okS) = res := by rw [htake, hrq.out]; simp
        rw [hfin]
        clear hfin htake hrq
        have hnw := new_any 100 wr (by omega) (by omega)
        go_wp2_with fail
        refine hnw.mono ?_
        rintro e w2 ⟨db, x, rfl, hD, hb2d, _, _, _⟩
        have hb2 := hb1.trans (hb2d.mono hb1.size)
        have ok0 := OkM.empty 100 (by omega) (by omega)
        have hop := sopen_any s H0 w2 hs.out hD ok0 hb2d.size (fun _ j hj => (sinv0 s 100).held j hj)
        rw [← hres.out] at hop
        have hon := fun wz => sopen_nil s wz
        clear hnw hD ok0
        dsimp only
        go_wp2_with fail
        refine hop.mono ?_
        rintro e w3 ⟨hb3d, hno, hyes⟩
        have hb3 := hb2.trans (hb3d.mono hb2.size)
        clear hop
        cases res
        · obtain rfl := hno rfl
          clear hno hyes
          dsimp only
          go_wp2_with fail
          refine (hon _).mono ?_
          rintro e w4 ⟨rfl, hb4d⟩
          have hb4 := hb3.trans (hb4d.mono hb3.size)
          dsimp only
          go_wp2_with fail
          refine (sget_nil _).mono ?_
          rintro e w5 ⟨rfl, hb5d⟩
          have hb5 := hb4.trans (hb5d.mono hb4.size)
          dsimp only
          go_wp2_with (go_at_call 10; refine Shut.out ?kq)
          case kq =>
          unfold Shut
          refine (sput_nil _ _).mono ?_
          rintro e w6 ⟨rfl, hb6d⟩
          have hb6 := hb5.trans (hb6d.mono hb5.size)
          dsimp only
          go_wp2_with fail
          go_ret
          exact ⟨rfl, hb6⟩
        · obtain ⟨sb, rfl, _⟩ := hyes rfl
          clear hno hyes
          dsimp only
          go_wp2_with fail
          refine (hon _).mono ?_
          rintro e w4 ⟨rfl, hb4d⟩
          have hb4 := hb3.trans (hb4d.mono hb3.size)
          dsimp only
          go_wp2_with fail
          refine (sget_nil _).mono ?_
          rintro e w5 ⟨rfl, hb5d⟩
          have hb5 := hb4.trans (hb5d.mono hb4.size)
          dsimp only
          go_wp2_with (go_at_call 10; refine Shut.out ?kq)
          case kq =>
          unfold Shut
          refine (sput_nil _ _).mono ?_
          rintro e w6 ⟨rfl, hb6d⟩
          have hb6 := hb5.trans (hb6d.mono hb5.size)
          dsimp only
          go_wp2_with fail
          go_ret
          exact ⟨rfl, hb6⟩
end Go.Proofs.Ytjgiphoolfhlmaa
