/- Disk: does the disk tell what the document's is? -/
import Derived.Test.YtjhbeahkojippaaD15
import Derived.Test.YtjhbeahkojippaaDr
namespace Go.Proofs.Ytjhbeahkojippaa
open Go.RowKit Go.Maps
attribute [local go_sem] Oper.semAt_some
set_option linter.unusedVariables false
set_option linter.unusedSimpArgs false

/-- It reads as these bytes. -/
def Rds (w : World) (v : Value) (bs : List UInt8) : Prop := ∃ ao cap, v = .slice ao bs.length cap ∧ SlA w.heap.size 1 EU w ao cap bs
theorem Rds.below {w w' : World} {v : Value} {bs : List UInt8} (h : Rds w v bs) (hb : Below w.heap.size w w') : Rds w' v bs := by
  obtain ⟨ao, cap, h1, h2⟩ := h
  exact ⟨ao, cap, h1, h2.imp hb hb.size (fun cs x _ h => h)⟩
theorem Rds.own {w : World} {base : Nat} {v : Value} {bs : List UInt8} (h : OwnL encU w base 5 1 v bs) : Rds w v bs := (FileAt.own h).sla
theorem Rds.file {w : World} {base : Nat} {v : Value} {bs : List UInt8} (h : FileAt w base v bs) : Rds w v bs := h.sla
theorem same_rds {w : World} {v1 v2 : Value} {b1 b2 : List UInt8} (h1 : Rds w v1 b1) (h2 : Rds w v2 b2) : Calls Try.prog 18 #[v1, v2] w fun e w' => e = .returned (.bool (decide (b1 = b2))) ∧ w' = w := by
  obtain ⟨a1, c1, rfl, h3⟩ := h1
  obtain ⟨a2, c2, rfl, h4⟩ := h2
  exact same_any w h3 h4

theorem Rf.file_safe {w : World} {base mb : Nat} {r : RX} {M : DM} (h : Rf w base mb r M) (s : ByteArray) : (fileOf r.safe s).bs = bytesOf M.safe s := by
  unfold fileOf bytesOf
  rw [h.get_safe]
  cases getL r.safe s <;> rfl
/-- A file of the list in its place. -/
theorem file_at {l : List (ByteArray × FV)} {L : Files} (hq : mapL FV.bs l = L) (hs : Srt L) {i : Nat} (hi : i < l.length) : getL L (l[i]).1 = some (l[i]).2.bs ∧ bytesOf L (l[i]).1 = (l[i]).2.bs ∧ (L.map Prod.fst)[i]? = some (l[i]).1 := by
  have h1 : L[i]? = some ((l[i]).1, (l[i]).2.bs) := by rw [← hq]; simp [mapL, hi]
  have h2 : getL L (l[i]).1 = some (l[i]).2.bs := getL_of_mem hs.nodup (List.mem_of_getElem? h1)
  refine ⟨h2, by unfold bytesOf; rw [h2]; rfl, by rw [List.getElem?_map, h1]; rfl⟩

set_option maxRecDepth 100000 in
set_option maxHeartbeats 8000000 in
theorem alike_any {base b mb : Nat} {x : DX} {r : RX} {M : DM} {N : Nat} (nm : ByteArray) (w : World) (hs : nm.size ≤ maxLen) (hD : Dsk w base b x M) (hR : Rf w base mb r M) (hok : OkM N M) (hN : N ≤ 1000000) :
    Calls Try.prog 27 #[.pointer (some ⟨b, 0, none⟩), .pointer (some ⟨mb, 0, none⟩), .string nm] w fun e w' => e = .returned (.bool true) ∧ Below w.heap.size w w' := by
  have hln := Nat.le_trans (hR.len_now hok) hN
  have hlc := Nat.le_trans (hR.len_chs hok) hN
  have hnq := hR.nq
  have hchl : r.chs.length = M.chs.length := by rw [← hR.chq, List.length_map]
  obtain ⟨n, hn⟩ : ∃ n, n = r.now.length := ⟨_, rfl⟩
  have hMn : M.now.length = n := by rw [← hnq, hn]; simp [mapL]
  obtain ⟨na, nc, hnv, _, _, _⟩ := hR.now.slice
  obtain ⟨ca, cc, hcv, _, _, _⟩ := hR.row.slice
  obtain ⟨sa, sc, hsv, _, _, _⟩ := hR.safe.slice
  obtain ⟨k, hk⟩ : ∃ k, k = M.chs.length := ⟨_, rfl⟩
  obtain ⟨m, hm⟩ : ∃ m, m = r.safe.length := ⟨_, rfl⟩
  have c2 : w.cell? ⟨mb, 2, none⟩ = some (.slice na n nc) := by have := hR.blk.cellAt (i := 2) (v := r.nv) rfl; rw [hnv, ← hn] at this; exact this
  have c4 : w.cell? ⟨mb, 4, none⟩ = some (.slice ca k cc) := by have := hR.blk.cellAt (i := 4) (v := r.cv) rfl; rw [hcv, hchl, ← hk] at this; exact this
  have c3 : w.cell? ⟨mb, 3, none⟩ = some (.slice sa m sc) := by have := hR.blk.cellAt (i := 3) (v := r.sv) rfl; rw [hsv, ← hm] at this; exact this
  have hl3 := hR.blk.lt
  have hlm : m ≤ 1000000 := by rw [hm]; exact Nat.le_trans (hR.len_safe hok) hN
  obtain ⟨us, hus⟩ : ∃ us, us = sumL M.now := ⟨_, rfl⟩
  have hnam := fun wy (hy : Below w.heap.size w wy) => names_any wy (hD.below hy) hok hN
  have hud := fun wy (hy : Below w.heap.size w wy) => used_any wy (hD.below hy) hok hN
  have hur := fun wy (hy : Below w.heap.size w wy) => rused_any wy (hR.below hy) hok hN
  have hpd := fun wy (hy : Below w.heap.size w wy) => pending_any wy (hD.below hy)
  rw [← hus] at hud hur
  rw [← hk] at hpd
  have hrd := fun s (hs : s.size ≤ maxLen) wy (hy : Below w.heap.size w wy) => read_any s wy hs (hD.below hy) hok
  have hdu := fun s (hs : s.size ≤ maxLen) wy (hy : Below w.heap.size w wy) => durable_any s wy hs (hD.below hy) hok
  replace hn := Lib.hid hn
  replace hk := Lib.hid hk
  replace hm := Lib.hid hm
  replace hus := Lib.hid hus
  replace hMn := Lib.hid hMn
  replace hnv := Lib.hid hnv
  replace hcv := Lib.hid hcv
  replace hsv := Lib.hid hsv
  replace hchl := Lib.hid hchl
  replace hnq := Lib.hid hnq
  replace hnam := Lib.hid hnam
  replace hud := Lib.hid hud
  replace hur := Lib.hid hur
  replace hpd := Lib.hid hpd
  replace hrd := Lib.hid hrd
  replace hdu := Lib.hid hdu
  go_enter Try.func27, Try.ntmps27
  go_wp2_with fail
  refine (hnam.out _ (Below.refl _ _)).mono ?_
  rintro e w1 ⟨v1, rfl, hO1, hb1⟩
  obtain ⟨la, lc, hlv, _, _, _⟩ := hO1.slice
  have hsl : SlA w1.heap.size 1 (fun _ cs x => cs = encT x) w1 la lc (M.now.map Prod.fst) := by
    obtain ⟨a2, c2, h1, h2⟩ := hO1.sla (E := fun _ cs x => cs = encT x) encT_len (fun _ _ => rfl)
    rw [hlv] at h1
    simp only [Value.slice.injEq, true_and] at h1
    obtain ⟨rfl, rfl⟩ := h1
    exact h2
  rw [List.length_map, hMn.out] at hlv
  subst hlv
  replace hsl := Lib.hid hsl
  clear hO1
  dsimp only
  go_upto_region 2 with fail
  have c21 := (hb1.cell (p := ⟨mb, 2, none⟩) hl3).trans c2
  have c41 := (hb1.cell (p := ⟨mb, 4, none⟩) hl3).trans c4
  refine wp_region_tree (fun wx => wx.cell? ⟨mb, 2, none⟩ = some (.slice na n nc) ∧ wx.cell? ⟨mb, 4, none⟩ = some (.slice ca k cc)) 24 25 (by kernel_rfl) rfl (by kernel_rfl) (fun d _ _ _ _ h => by cases d <;> exact h) (⟨c21, c41⟩) (fun opz T hOps hT hTok hHeld => ?_)
  (refine wpTree_q 0 hTok hOps (by kernel_rfl) rfl rfl ⟨?_, ?_, ?_⟩; rotate_left; (focus (intro wx hSx; (try dsimp only at hSx); go_simp; (try with_reducible rfl))); (simp only [Act.put, List.setIfInBounds_toArray, List.set_cons_zero, List.set_cons_succ]))
  (refine wpTree_q 1 hTok hOps (by kernel_rfl) rfl rfl ⟨?_, ?_, ?_⟩; rotate_left; (focus (intro wx hSx; (try dsimp only at hSx); go_simp; (try with_reducible rfl))); (simp only [Act.put, List.setIfInBounds_toArray, List.set_cons_zero, List.set_cons_succ]))
  (refine wpTree_q 2 hTok hOps (by kernel_rfl) rfl rfl ⟨?_, ?_, ?_⟩; rotate_left; (focus (intro wx hSx; (try dsimp only at hSx); go_simp; (try with_reducible rfl))); (simp only [Act.put, List.setIfInBounds_toArray, List.set_cons_zero, List.set_cons_succ]))
  (refine wpTree_q 3 hTok hOps (by kernel_rfl) rfl rfl ⟨?_, ?_, ?_⟩; rotate_left; (focus (intro wx hSx; (try dsimp only at hSx); go_simp; (try with_reducible rfl))); (simp only [Act.put, List.setIfInBounds_toArray, List.set_cons_zero, List.set_cons_succ]))
  (refine wpTree_q 4 hTok hOps (by kernel_rfl) rfl rfl ⟨?_, ?_, ?_⟩; rotate_left; (focus (intro wx hSx; (try dsimp only at hSx); go_simp; (try with_reducible rfl))); (simp only [Act.put, List.setIfInBounds_toArray, List.set_cons_zero, List.set_cons_succ]))
  (refine wpTree_q 5 hTok hOps (by kernel_rfl) rfl rfl ⟨?_, ?_, ?_⟩; rotate_left; (focus (intro wx hSx; (try dsimp only at hSx); go_simp; (try with_reducible rfl))); (simp only [Act.put, List.setIfInBounds_toArray, List.set_cons_zero, List.set_cons_succ]))
  (refine wpTree_q 6 hTok hOps (by kernel_rfl) rfl rfl ⟨?_, ?_, ?_⟩; rotate_left; (focus (intro wx hSx; (try dsimp only at hSx); go_simp; (try with_reducible rfl))); (simp only [Act.put, List.setIfInBounds_toArray, List.set_cons_zero, List.set_cons_succ]))
  (refine wpTree_q 7 hTok hOps (by kernel_rfl) rfl rfl ⟨?_, ?_, ?_⟩; rotate_left; (focus (intro wx hSx; (try dsimp only at hSx); go_simp; (try with_reducible rfl))); (simp only [Act.put, List.setIfInBounds_toArray, List.set_cons_zero, List.set_cons_succ]))
  (refine wpTree_q 8 hTok hOps (by kernel_rfl) rfl rfl ⟨?_, ?_, ?_⟩; rotate_left; (focus (intro wx hSx; (try dsimp only at hSx); go_simp; (try with_reducible rfl))); (simp only [Act.put, List.setIfInBounds_toArray, List.set_cons_zero, List.set_cons_succ]))
  (refine wpTree_qg 9 hTok hOps (by kernel_rfl) rfl rfl ⟨?_, ?_, ?_⟩; rotate_left; (focus (intro wx hSx; (try dsimp only at hSx); go_simp; (try with_reducible rfl))); (simp only [Act.put, List.setIfInBounds_toArray, List.set_cons_zero, List.set_cons_succ]))
  (refine wpTree_qg 11 hTok hOps (by kernel_rfl) rfl rfl ⟨?_, ?_, ?_⟩; rotate_left; (focus (intro wx hSx; (try dsimp only at hSx); go_simp; (try with_reducible rfl))); (simp only [Act.put, List.setIfInBounds_toArray, List.set_cons_zero, List.set_cons_succ]))
  refine wpTree_1g 10 hOps (by kernel_rfl) (by decide) rfl rfl (fun K' hK => ?_)
  go_simp
  refine (hud.out _ hb1.drew).mono ?_
  rintro e w2 ⟨rfl, hb2d⟩
  have hb12 : Below w1.heap.size w1 w2 := ((Below.refl _ _).drew).trans (hb2d.mono (Nat.le_refl _))
  have hb2 : Below w.heap.size w w2 := hb1.trans (hb12.mono hb1.size)
  have c22 := (hb2.cell (p := ⟨mb, 2, none⟩) hl3).trans c2
  have c42 := (hb2.cell (p := ⟨mb, 4, none⟩) hl3).trans c4
  dsimp only
  refine hK.out _ _ ⟨c22, c42⟩ ?_
  clear hK K'
  try simp only [Act.put, List.setIfInBounds_toArray, List.set_cons_zero, List.set_cons_succ]
  refine wpTree_1g 12 hOps (by kernel_rfl) (by decide) rfl rfl (fun K' hK => ?_)
  go_simp
  refine (hur.out _ hb2).mono ?_
  rintro e w3 ⟨rfl, hw3⟩
  obtain ⟨w4, hw4⟩ : ∃ w4, w4 = w3 := ⟨_, rfl⟩
  rw [← hw4] at hw3 ⊢
  obtain rfl : w2 = w4 := hw3.symm
  clear hw4
  dsimp only
  refine hK.out _ _ ⟨c22, c42⟩ ?_
  clear hK K'
  try simp only [Act.put, List.setIfInBounds_toArray, List.set_cons_zero, List.set_cons_succ]
  (refine wpTree_qg 13 hTok hOps (by kernel_rfl) rfl rfl ⟨?_, ?_, ?_⟩; rotate_left; (focus (intro wx hSx; (try dsimp only at hSx); go_simp; (try with_reducible rfl))); (simp only [Act.put, List.setIfInBounds_toArray, List.set_cons_zero, List.set_cons_succ]))
  (refine wpTree_q 14 hTok hOps (by kernel_rfl) rfl rfl ⟨?_, ?_, ?_⟩; rotate_left; (focus (intro wx hSx; (try dsimp only at hSx); go_simp; (try with_reducible rfl))); (simp only [Act.put, List.setIfInBounds_toArray, List.set_cons_zero, List.set_cons_succ]))
  (refine wpTree_q 15 hTok hOps (by kernel_rfl) rfl rfl ⟨?_, ?_, ?_⟩; rotate_left; (focus (intro wx hSx; (try dsimp only at hSx); go_simp; (try with_reducible rfl))); (simp only [Act.put, List.setIfInBounds_toArray, List.set_cons_zero, List.set_cons_succ]))
  (refine wpTree_qg 16 hTok hOps (by kernel_rfl) rfl rfl ⟨?_, ?_, ?_⟩; rotate_left; (focus (intro wx hSx; (try dsimp only at hSx); go_simp; (try with_reducible rfl))); (simp only [Act.put, List.setIfInBounds_toArray, List.set_cons_zero, List.set_cons_succ]))
  (refine wpTree_qg 18 hTok hOps (by kernel_rfl) rfl rfl ⟨?_, ?_, ?_⟩; rotate_left; (focus (intro wx hSx; (try dsimp only at hSx); go_simp; (try with_reducible rfl))); (simp only [Act.put, List.setIfInBounds_toArray, List.set_cons_zero, List.set_cons_succ]))
  (refine wpTree_qg 19 hTok hOps (by kernel_rfl) rfl rfl ⟨?_, ?_, ?_⟩; rotate_left; (focus (intro wx hSx; (try dsimp only at hSx); go_simp; (try with_reducible rfl))); (simp only [Act.put, List.setIfInBounds_toArray, List.set_cons_zero, List.set_cons_succ]))
  (refine wpTree_qg 20 hTok hOps (by kernel_rfl) rfl rfl ⟨?_, ?_, ?_⟩; rotate_left; (focus (intro wx hSx; (try dsimp only at hSx); go_simp; (try with_reducible rfl))); (simp only [Act.put, List.setIfInBounds_toArray, List.set_cons_zero, List.set_cons_succ]))
  (refine wpTree_qg 21 hTok hOps (by kernel_rfl) rfl rfl ⟨?_, ?_, ?_⟩; rotate_left; (focus (intro wx hSx; (try dsimp only at hSx); go_simp; (try with_reducible rfl))); (simp only [Act.put, List.setIfInBounds_toArray, List.set_cons_zero, List.set_cons_succ]))
  (refine wpTree_qg 22 hTok hOps (by kernel_rfl) rfl rfl ⟨?_, ?_, ?_⟩; rotate_left; (focus (intro wx hSx; (try dsimp only at hSx); go_simp; (try with_reducible rfl))); (simp only [Act.put, List.setIfInBounds_toArray, List.set_cons_zero, List.set_cons_succ]))
  refine wpTree_1g 17 hOps (by kernel_rfl) (by decide) rfl rfl (fun K' hK => ?_)
  go_simp
  refine (hpd.out _ hb2).mono ?_
  rintro e w3 ⟨rfl, hw3⟩
  obtain ⟨w4, hw4⟩ : ∃ w4, w4 = w3 := ⟨_, rfl⟩
  rw [← hw4] at hw3 ⊢
  obtain rfl : w2 = w4 := hw3.symm
  clear hw4
  dsimp only
  refine hK.out _ _ ⟨c22, c42⟩ ?_
  clear hK K'
  try simp only [Act.put, List.setIfInBounds_toArray, List.set_cons_zero, List.set_cons_succ]
  (refine wpTree_qg 23 hTok hOps (by kernel_rfl) rfl rfl ⟨?_, ?_, ?_⟩; rotate_left; (focus (intro wx hSx; (try dsimp only at hSx); go_simp; (try with_reducible rfl))); (simp only [Act.put, List.setIfInBounds_toArray, List.set_cons_zero, List.set_cons_succ]))
  refine wpTree_nil hOps (by kernel_rfl) ?_
  refine hT.out _ _ ?_
  simp only [List.drop_succ_cons, List.drop_zero]
  clear hOps hT hTok hHeld
  clear hw3
  have hwsz := hb2.size
  have hw12 := hb1.size
  go_wp2_with fail
  go_loopw [8] (fun x8 wr => ∃ i : Nat, i ≤ n ∧ x8 = .int .i64 i ∧ Below w2.heap.size w2 wr) (fun x8 _ => n - (intOf x8).toNat)
  case atStart => exact ⟨0, Nat.zero_le _, rfl, Below.refl _ _⟩
  case round =>
    obtain ⟨i, hin, rfl, hbr⟩ := hrel
    have hbW : Below w.heap.size w wr := hb2.trans (hbr.mono hwsz)
    by_cases hlt : i < n
    · have hil : i < r.now.length := by rw [← hn.out]; exact hlt
      obtain ⟨f1, f2, f3⟩ := file_at hnq.out hok.now hil
      have hfa := (hR.filn _ (List.getElem_mem hil)).below hbW (Nat.le_refl _)
      have hsz := hok.nown _ (getL_mem f1)
      obtain ⟨q, hq⟩ : ∃ q, q = r.now[i] := ⟨_, rfl⟩
      rw [← hq] at f1 f2 f3 hfa hsz
      have hrdi := fun wy hy => hrd.out q.1 (by unfold maxLen; have := hsz.1; dsimp only at this; omega) wy hy
      rw [f1, f2] at hrdi
      have hne : 0 < (M.now.map Prod.fst).length := by rw [List.length_map, hMn.out]; omega
      obtain ⟨lb, lo, hla, hlb, _⟩ := hsl.out.addr (by omega)
      subst hla
      have hil2 : i < (M.now.map Prod.fst).length := by rw [List.length_map, hMn.out]; exact hlt
      obtain ⟨cs, _, h6, h7⟩ := hsl.out.get i hil2
      have h8 := h6 0 (by omega)
      rw [List.getElem?_eq_getElem hil2] at f3
      rw [h7, Option.some.inj f3, Nat.mul_one, Nat.add_zero] at h8
      obtain ⟨na2, nc2, ecv, hrow2⟩ := hR.now.sla (E := fun _ cs x => cs = encFl x) encFl_len (fun _ _ => rfl)
      rw [hnv.out] at ecv
      simp only [Value.slice.injEq, true_and] at ecv
      obtain ⟨rfl, rfl⟩ := ecv
      obtain ⟨nb, no, hna, hnb, _⟩ := hrow2.addr (by omega)
      subst hna
      obtain ⟨cs2, _, g6, g7⟩ := hrow2.get i hil
      rw [← hq] at g7
      subst g7
      have g0 : w.cell? ⟨nb, no + i * 2, none⟩ = some (.string q.1) := g6 0 (by omega)
      have g1 : w.cell? ⟨nb, no + i * 2 + 1, none⟩ = some q.2.v := g6 1 (by omega)
      obtain ⟨qv, hqv⟩ : ∃ qv, qv = q.2.v := ⟨_, rfl⟩
      obtain ⟨qn, hqn⟩ : ∃ qn, qn = q.1 := ⟨_, rfl⟩
      obtain ⟨qb, hqb⟩ : ∃ qb, qb = q.2.bs := ⟨_, rfl⟩
      have hqr : Rds wr qv qb := by rw [hqv, hqb]; exact hfa.sla
      rw [← hqn] at h8 g0 hrdi
      rw [← hqv] at g1
      rw [← hqb] at hrdi
      have hl8 : w1.cell? ⟨lb, lo + i, none⟩ = some (.string qn) := by simpa [encT] using h8
      have e8 := ((hb12.trans (hbr.mono hb12.size)).cell (p := ⟨lb, lo + i, none⟩) hlb).trans hl8
      have e0 := (hbW.cell (p := ⟨nb, no + i * 2, none⟩) hnb).trans g0
      have e1 := (hbW.cell (p := ⟨nb, no + i * 2 + 1, none⟩) hnb).trans g1
      have e2 := (hbW.cell (p := ⟨mb, 2, none⟩) hl3).trans c2
      have d1 : decide ((i : Int) < (n : Int)) = true := by simp; omega
      replace hrdi := Lib.hid hrdi
      clear f1 f2 f3 hfa hsz hne h6 h7 h8 hrow2 g6 g0 g1 hl8 hil2 hq hqv hqn hqb
      go_wp2_with fail
      refine (hrdi.out _ hbW).mono ?_
      rintro e w5 ⟨v5, rfl, hO5, hb5⟩
      have hbW5 := hbW.trans (hb5.mono hbW.size)
      have hbr5 := hbr.trans (hb5.mono hbr.size)
      have e85 := (hb5.cell (p := ⟨lb, lo + i, none⟩) (World.lt_of_cell e8)).trans e8
      have e05 := (hb5.cell (p := ⟨nb, no + i * 2, none⟩) (World.lt_of_cell e0)).trans e0
      have e15 := (hb5.cell (p := ⟨nb, no + i * 2 + 1, none⟩) (World.lt_of_cell e1)).trans e1
      have e25 := (hb5.cell (p := ⟨mb, 2, none⟩) (World.lt_of_cell e2)).trans e2
      have hsm := same_rds (Rds.below (Rds.own hO5) (Below.refl _ _).drew) ((hqr.below hb5).below (Below.refl _ _).drew)
      rw [decide_eq_true rfl] at hsm
      replace hsm := Lib.hid hsm
      clear hrdi hqr hO5 hb5 e8 e0 e1 e2
      dsimp only
      simp only [Option.isSome_some]
      go_upto_region 8 with fail
      refine wp_region_tree (fun wx => wx.cell? ⟨lb, lo + i, none⟩ = some (.string qn) ∧ wx.cell? ⟨nb, no + i * 2, none⟩ = some (.string qn) ∧ wx.cell? ⟨nb, no + i * 2 + 1, none⟩ = some qv ∧ wx.cell? ⟨mb, 2, none⟩ = some (.slice (some ⟨nb, no, none⟩) n nc)) 29 30 (by kernel_rfl) rfl (by kernel_rfl) (fun d _ _ _ _ h => by cases d <;> exact h) (⟨e85, e05, e15, e25⟩) (fun opz T hOps hT hTok hHeld => ?_)
      (refine wpTree_q 0 hTok hOps (by kernel_rfl) rfl rfl ⟨?_, ?_, ?_⟩; rotate_left; (focus (intro wx hSx; (try dsimp only at hSx); go_simp; (try with_reducible rfl))); (simp only [Act.put, List.setIfInBounds_toArray, List.set_cons_zero, List.set_cons_succ]))
      (refine wpTree_q 1 hTok hOps (by kernel_rfl) rfl rfl ⟨?_, ?_, ?_⟩; rotate_left; (focus (intro wx hSx; (try dsimp only at hSx); go_simp; (try with_reducible rfl))); (simp only [Act.put, List.setIfInBounds_toArray, List.set_cons_zero, List.set_cons_succ]))
      (refine wpTree_q 2 hTok hOps (by kernel_rfl) rfl rfl ⟨?_, ?_, ?_⟩; rotate_left; (focus (intro wx hSx; (try dsimp only at hSx); go_simp; (try with_reducible rfl))); (simp only [Act.put, List.setIfInBounds_toArray, List.set_cons_zero, List.set_cons_succ]))
      (refine wpTree_qg 3 hTok hOps (by kernel_rfl) rfl rfl ⟨?_, ?_, ?_⟩; rotate_left; (focus (intro wx hSx; (try dsimp only at hSx); go_simp; (try with_reducible rfl))); (simp only [Act.put, List.setIfInBounds_toArray, List.set_cons_zero, List.set_cons_succ]))
      (refine wpTree_qg 4 hTok hOps (by kernel_rfl) rfl rfl ⟨?_, ?_, ?_⟩; rotate_left; (focus (intro wx hSx; (try dsimp only at hSx); go_simp; (try with_reducible rfl))); (simp only [Act.put, List.setIfInBounds_toArray, List.set_cons_zero, List.set_cons_succ]))
      (refine wpTree_qg 5 hTok hOps (by kernel_rfl) rfl rfl ⟨?_, ?_, ?_⟩; rotate_left; (focus (intro wx hSx; (try dsimp only at hSx); go_simp; (try with_reducible rfl))); (simp only [Act.put, List.setIfInBounds_toArray, List.set_cons_zero, List.set_cons_succ]))
      (refine wpTree_qg 6 hTok hOps (by kernel_rfl) rfl rfl ⟨?_, ?_, ?_⟩; rotate_left; (focus (intro wx hSx; (try dsimp only at hSx); go_simp; (try with_reducible rfl))); (simp only [Act.put, List.setIfInBounds_toArray, List.set_cons_zero, List.set_cons_succ]))
      (refine wpTree_qg 7 hTok hOps (by kernel_rfl) rfl rfl ⟨?_, ?_, ?_⟩; rotate_left; (focus (intro wx hSx; (try dsimp only at hSx); go_simp; (try with_reducible rfl))); (simp only [Act.put, List.setIfInBounds_toArray, List.set_cons_zero, List.set_cons_succ]))
      (refine wpTree_qg 8 hTok hOps (by kernel_rfl) rfl rfl ⟨?_, ?_, ?_⟩; rotate_left; (focus (intro wx hSx; (try dsimp only at hSx); go_simp; (try with_reducible rfl))); (simp only [Act.put, List.setIfInBounds_toArray, List.set_cons_zero, List.set_cons_succ]))
      (refine wpTree_qg 9 hTok hOps (by kernel_rfl) rfl rfl ⟨?_, ?_, ?_⟩; rotate_left; (focus (intro wx hSx; (try dsimp only at hSx); go_simp; (try with_reducible rfl))); (simp only [Act.put, List.setIfInBounds_toArray, List.set_cons_zero, List.set_cons_succ]))
      (refine wpTree_qg 10 hTok hOps (by kernel_rfl) rfl rfl ⟨?_, ?_, ?_⟩; rotate_left; (focus (intro wx hSx; (try dsimp only at hSx); go_simp; (try with_reducible rfl))); (simp only [Act.put, List.setIfInBounds_toArray, List.set_cons_zero, List.set_cons_succ]))
      (refine wpTree_qg 11 hTok hOps (by kernel_rfl) rfl rfl ⟨?_, ?_, ?_⟩; rotate_left; (focus (intro wx hSx; (try dsimp only at hSx); go_simp; (try with_reducible rfl))); (simp only [Act.put, List.setIfInBounds_toArray, List.set_cons_zero, List.set_cons_succ]))
      (refine wpTree_qg 12 hTok hOps (by kernel_rfl) rfl rfl ⟨?_, ?_, ?_⟩; rotate_left; (focus (intro wx hSx; (try dsimp only at hSx); go_simp; (try with_reducible rfl))); (simp only [Act.put, List.setIfInBounds_toArray, List.set_cons_zero, List.set_cons_succ]))
      (refine wpTree_qg 13 hTok hOps (by kernel_rfl) rfl rfl ⟨?_, ?_, ?_⟩; rotate_left; (focus (intro wx hSx; (try dsimp only at hSx); go_simp; (try with_reducible rfl))); (simp only [Act.put, List.setIfInBounds_toArray, List.set_cons_zero, List.set_cons_succ]))
      (refine wpTree_qg 14 hTok hOps (by kernel_rfl) rfl rfl ⟨?_, ?_, ?_⟩; rotate_left; (focus (intro wx hSx; (try dsimp only at hSx); go_simp; (try with_reducible rfl))); (simp only [Act.put, List.setIfInBounds_toArray, List.set_cons_zero, List.set_cons_succ]))
      (refine wpTree_qg 15 hTok hOps (by kernel_rfl) rfl rfl ⟨?_, ?_, ?_⟩; rotate_left; (focus (intro wx hSx; (try dsimp only at hSx); go_simp; (try with_reducible rfl))); (simp only [Act.put, List.setIfInBounds_toArray, List.set_cons_zero, List.set_cons_succ]))
      (refine wpTree_q 16 hTok hOps (by kernel_rfl) rfl rfl ⟨?_, ?_, ?_⟩; rotate_left; (focus (intro wx hSx; (try dsimp only at hSx); go_simp; (try with_reducible rfl))); (simp only [Act.put, List.setIfInBounds_toArray, List.set_cons_zero, List.set_cons_succ]))
      (refine wpTree_q 17 hTok hOps (by kernel_rfl) rfl rfl ⟨?_, ?_, ?_⟩; rotate_left; (focus (intro wx hSx; (try dsimp only at hSx); go_simp; (try with_reducible rfl))); (simp only [Act.put, List.setIfInBounds_toArray, List.set_cons_zero, List.set_cons_succ]))
      (refine wpTree_qg 18 hTok hOps (by kernel_rfl) rfl rfl ⟨?_, ?_, ?_⟩; rotate_left; (focus (intro wx hSx; (try dsimp only at hSx); go_simp; (try with_reducible rfl))); (simp only [Act.put, List.setIfInBounds_toArray, List.set_cons_zero, List.set_cons_succ]))
      (refine wpTree_qg 19 hTok hOps (by kernel_rfl) rfl rfl ⟨?_, ?_, ?_⟩; rotate_left; (focus (intro wx hSx; (try dsimp only at hSx); go_simp; (try with_reducible rfl))); (simp only [Act.put, List.setIfInBounds_toArray, List.set_cons_zero, List.set_cons_succ]))
      (refine wpTree_qg 20 hTok hOps (by kernel_rfl) rfl rfl ⟨?_, ?_, ?_⟩; rotate_left; (focus (intro wx hSx; (try dsimp only at hSx); go_simp; (try with_reducible rfl))); (simp only [Act.put, List.setIfInBounds_toArray, List.set_cons_zero, List.set_cons_succ]))
      (refine wpTree_qg 21 hTok hOps (by kernel_rfl) rfl rfl ⟨?_, ?_, ?_⟩; rotate_left; (focus (intro wx hSx; (try dsimp only at hSx); go_simp; (try with_reducible rfl))); (simp only [Act.put, List.setIfInBounds_toArray, List.set_cons_zero, List.set_cons_succ]))
      (refine wpTree_qg 22 hTok hOps (by kernel_rfl) rfl rfl ⟨?_, ?_, ?_⟩; rotate_left; (focus (intro wx hSx; (try dsimp only at hSx); go_simp; (try with_reducible rfl))); (simp only [Act.put, List.setIfInBounds_toArray, List.set_cons_zero, List.set_cons_succ]))
      (refine wpTree_qg 23 hTok hOps (by kernel_rfl) rfl rfl ⟨?_, ?_, ?_⟩; rotate_left; (focus (intro wx hSx; (try dsimp only at hSx); go_simp; (try with_reducible rfl))); (simp only [Act.put, List.setIfInBounds_toArray, List.set_cons_zero, List.set_cons_succ]))
      (refine wpTree_qg 24 hTok hOps (by kernel_rfl) rfl rfl ⟨?_, ?_, ?_⟩; rotate_left; (focus (intro wx hSx; (try dsimp only at hSx); go_simp; (try with_reducible rfl))); (simp only [Act.put, List.setIfInBounds_toArray, List.set_cons_zero, List.set_cons_succ]))
      (refine wpTree_qg 25 hTok hOps (by kernel_rfl) rfl rfl ⟨?_, ?_, ?_⟩; rotate_left; (focus (intro wx hSx; (try dsimp only at hSx); go_simp; (try with_reducible rfl))); (simp only [Act.put, List.setIfInBounds_toArray, List.set_cons_zero, List.set_cons_succ]))
      (refine wpTree_qg 26 hTok hOps (by kernel_rfl) rfl rfl ⟨?_, ?_, ?_⟩; rotate_left; (focus (intro wx hSx; (try dsimp only at hSx); go_simp; (try with_reducible rfl))); (simp only [Act.put, List.setIfInBounds_toArray, List.set_cons_zero, List.set_cons_succ]))
      refine wpTree_1g 27 hOps (by kernel_rfl) (by decide) rfl rfl (fun K' hK => ?_)
      go_simp
      refine hsm.out.mono ?_
      rintro e w6 ⟨rfl, rfl⟩
      dsimp only
      refine hK.out _ _ ⟨e85, e05, e15, e25⟩ ?_
      clear hK K'
      try simp only [Act.put, List.setIfInBounds_toArray, List.set_cons_zero, List.set_cons_succ]
      (refine wpTree_qg 28 hTok hOps (by kernel_rfl) rfl rfl ⟨?_, ?_, ?_⟩; rotate_left; (focus (intro wx hSx; (try dsimp only at hSx); go_simp; (try with_reducible rfl))); (simp only [Act.put, List.setIfInBounds_toArray, List.set_cons_zero, List.set_cons_succ]))
      refine wpTree_nil hOps (by kernel_rfl) ?_
      refine hT.out _ _ ?_
      simp only [List.drop_succ_cons, List.drop_zero]
      clear hOps hT hTok hHeld
      have hbr6 : Below w2.heap.size w2 w5.drew := hbr5.drew
      clear hsm
      go_wp2_with fail
      go_roundw
      case rel => exact ⟨i + 1, by omega, by go_num, hbr6⟩
      case measure => simp [intOf]; omega
    · obtain rfl : i = n := by omega
      have d9 : decide ((i : Int) < (i : Int)) = false := by simp
      obtain ⟨w7, hw7⟩ : ∃ w7, w7 = wr := ⟨_, rfl⟩
      rw [← hw7] at hbr hbW ⊢
      clear hw7 hsl hnam hud hur hpd c22 c42 c21 c41 hwsz hw12 hbr
      have hwsz := hbW.size
      have c37 := (hbW.cell (p := ⟨mb, 3, none⟩) hl3).trans c3
      go_wp2_with fail
      go_loopw [11] (fun x11 wr => ∃ j : Nat, j ≤ m ∧ x11 = .int .i64 j ∧ Below w7.heap.size w7 wr) (fun x11 _ => m - (intOf x11).toNat)
      case atStart => exact ⟨0, Nat.zero_le _, rfl, Below.refl _ _⟩
      case round =>
        obtain ⟨j, hjn, rfl, hbr⟩ := hrel
        have hbX : Below w.heap.size w wr := hbW.trans (hbr.mono hwsz)
        have e3 := (hbX.cell (p := ⟨mb, 3, none⟩) hl3).trans c3
        by_cases hlt : j < m
        · have hil : j < r.safe.length := by rw [← hm.out]; exact hlt
          obtain ⟨f1, f2, f3⟩ := file_at hR.sq hok.safe hil
          have hfa := (hR.fils _ (List.getElem_mem hil)).below hbX (Nat.le_refl _)
          have hsz := hok.safen _ (getL_mem f1)
          obtain ⟨q, hq⟩ : ∃ q, q = r.safe[j] := ⟨_, rfl⟩
          rw [← hq] at f1 f2 f3 hfa hsz
          have hrdi := fun wy hy => hdu.out q.1 (by unfold maxLen; have := hsz.1; dsimp only at this; omega) wy hy
          rw [f1, f2] at hrdi
          obtain ⟨na2, nc2, ecv, hrow2⟩ := hR.safe.sla (E := fun _ cs x => cs = encFl x) encFl_len (fun _ _ => rfl)
          rw [hsv.out] at ecv
          simp only [Value.slice.injEq, true_and] at ecv
          obtain ⟨rfl, rfl⟩ := ecv
          obtain ⟨nb, no, hna, hnb, _⟩ := hrow2.addr (by omega)
          subst hna
          obtain ⟨cs2, _, g6, g7⟩ := hrow2.get j hil
          rw [← hq] at g7
          subst g7
          have g0 : w.cell? ⟨nb, no + j * 2, none⟩ = some (.string q.1) := g6 0 (by omega)
          have g1 : w.cell? ⟨nb, no + j * 2 + 1, none⟩ = some q.2.v := g6 1 (by omega)
          obtain ⟨qv, hqv⟩ : ∃ qv, qv = q.2.v := ⟨_, rfl⟩
          obtain ⟨qn, hqn⟩ : ∃ qn, qn = q.1 := ⟨_, rfl⟩
          obtain ⟨qb, hqb⟩ : ∃ qb, qb = q.2.bs := ⟨_, rfl⟩
          have hqr : Rds wr qv qb := by rw [hqv, hqb]; exact hfa.sla
          rw [← hqn] at g0 hrdi
          rw [← hqv] at g1
          rw [← hqb] at hrdi
          have e0 := (hbX.cell (p := ⟨nb, no + j * 2, none⟩) hnb).trans g0
          have e1 := (hbX.cell (p := ⟨nb, no + j * 2 + 1, none⟩) hnb).trans g1
          have d1 : decide ((j : Int) < (m : Int)) = true := by simp; omega
          have hlt2 : Hid (j < m) := Lib.hid hlt
          replace hrdi := Lib.hid hrdi
          clear f1 f2 f3 hfa hsz hrow2 g6 g0 g1 hq hqv hqn hqb
          go_wp2_with fail
          refine (hrdi.out _ hbX).mono ?_
          rintro e w5 ⟨v5, rfl, hO5, hb5⟩
          have hbr5 := hbr.trans (hb5.mono hbr.size)
          have e05 := (hb5.cell (p := ⟨nb, no + j * 2, none⟩) (World.lt_of_cell e0)).trans e0
          have e15 := (hb5.cell (p := ⟨nb, no + j * 2 + 1, none⟩) (World.lt_of_cell e1)).trans e1
          have e35 := (hb5.cell (p := ⟨mb, 3, none⟩) (World.lt_of_cell e3)).trans e3
          have hsm := same_rds (Rds.own hO5) (hqr.below hb5)
          rw [decide_eq_true rfl] at hsm
          replace hsm := Lib.hid hsm
          clear hrdi hqr hO5 hb5 e0 e1 e3
          dsimp only
          simp only [Option.isSome_some]
          go_wp2_with fail
          refine hsm.out.mono ?_
          rintro e w6 ⟨rfl, hw6⟩
          obtain ⟨w8, hw8⟩ : ∃ w8, w8 = w6 := ⟨_, rfl⟩
          rw [← hw8] at hw6 ⊢
          obtain rfl : w5 = w8 := hw6.symm
          clear hw8 hsm
          dsimp only
          go_wp2_with fail
          go_roundw
          case rel => exact ⟨j + 1, hlt2.out, by go_num, hbr5⟩
          case measure => have := hlt2.out; simp [intOf]; omega
        · obtain rfl : j = m := by omega
          have d9 : decide ((j : Int) < (j : Int)) = false := by simp
          obtain ⟨w8, hw8⟩ : ∃ w8, w8 = wr := ⟨_, rfl⟩
          rw [← hw8] at hbX e3 ⊢
          clear hw8 hbr
          have e2 := (hbX.cell (p := ⟨mb, 2, none⟩) hl3).trans c2
          obtain ⟨in0, hin0⟩ : ∃ in0, in0 = (getL M.now nm).isSome := ⟨_, rfl⟩
          obtain ⟨in1, hin1⟩ : ∃ in1, in1 = (getL M.safe nm).isSome := ⟨_, rfl⟩
          have hr1 := fun wy hy => hrd.out nm hs wy hy
          have hr2 := fun wy hy => hdu.out nm hs wy hy
          have hls := Nat.le_trans (hR.len_safe hok) hN
          have hg1 : ∀ wy, Below w.heap.size w wy → Calls Try.prog 46 #[.slice na i nc, .string nm] wy fun e w' => w' = wy ∧ e = .returned (.tuple #[(fileOf r.now nm).v, .bool in0]) := fun wy hy => by
            have := rget_any nm base r.nv r.now wy (hR.below hy).now hln
            rw [hnv.out, ← hn.out] at this
            rw [hin0, hR.get_now, Option.isSome_map]
            exact this
          have hg2 : ∀ wy, Below w.heap.size w wy → Calls Try.prog 46 #[.slice sa j sc, .string nm] wy fun e w' => w' = wy ∧ e = .returned (.tuple #[(fileOf r.safe nm).v, .bool in1]) := fun wy hy => by
            have := rget_any nm base r.sv r.safe wy (hR.below hy).safe hls
            rw [hsv.out, ← hm.out] at this
            rw [hin1, hR.get_safe, Option.isSome_map]
            exact this
          have hF1 : ∀ wy, Below w.heap.size w wy → Rds wy (fileOf r.now nm).v (bytesOf M.now nm) := fun wy hy => by
            rw [← hR.file_now]
            exact Rds.file (fileOf_at (hR.below hy).filn nm)
          have hF2 : ∀ wy, Below w.heap.size w wy → Rds wy (fileOf r.safe nm).v (bytesOf M.safe nm) := fun wy hy => by
            rw [← hR.file_safe]
            exact Rds.file (fileOf_at (hR.below hy).fils nm)
          rw [← hin0] at hr1
          rw [← hin1] at hr2
          generalize (fileOf r.now nm).v = fv1 at hg1 hF1
          generalize (fileOf r.safe nm).v = fv2 at hg2 hF2
          generalize bytesOf M.now nm = bb1 at hr1 hF1
          generalize bytesOf M.safe nm = bb2 at hr2 hF2
          replace hr1 := Lib.hid hr1
          replace hr2 := Lib.hid hr2
          replace hg1 := Lib.hid hg1
          replace hg2 := Lib.hid hg2
          replace hF1 := Lib.hid hF1
          replace hF2 := Lib.hid hF2
          clear hin0 hin1 hrd hdu
          go_wp2_with fail
          refine (hr1.out _ hbX).mono ?_
          rintro e w10 ⟨u1, rfl, hO1, hb10⟩
          have hX10 := hbX.trans (hb10.mono hbX.size)
          have e210 := (hX10.cell (p := ⟨mb, 2, none⟩) hl3).trans c2
          have hU1 := Rds.own hO1
          dsimp only
          go_wp2_with fail
          refine (hg1.out _ hX10).mono ?_
          rintro e w11 ⟨hw11, rfl⟩
          obtain ⟨w12, hw12⟩ : ∃ w12, w12 = w11 := ⟨_, rfl⟩
          rw [← hw12] at hw11 ⊢
          obtain rfl : w10 = w12 := hw11.symm
          clear hw12 hw11
          dsimp only
          go_wp2_with fail
          refine (hr2.out _ hX10).mono ?_
          rintro e w13 ⟨u2, rfl, hO2, hb13⟩
          have hX13 := hX10.trans (hb13.mono hX10.size)
          have e313 := (hX13.cell (p := ⟨mb, 3, none⟩) hl3).trans c3
          have hU2 := Rds.own hO2
          replace hU1 := hU1.below hb13
          dsimp only
          go_wp2_with fail
          refine (hg2.out _ hX13).mono ?_
          rintro e w14 ⟨hw14, rfl⟩
          obtain ⟨w12, hw12⟩ : ∃ w12, w12 = w14 := ⟨_, rfl⟩
          rw [← hw12] at hw14 ⊢
          obtain rfl : w13 = w12 := hw14.symm
          clear hw12 hw14
          have hs1 := same_rds hU1 (hF1.out _ hX13)
          have hs2 := same_rds hU2 (hF2.out _ hX13)
          rw [decide_eq_true rfl] at hs1 hs2
          replace hs1 := Lib.hid hs1
          replace hs2 := Lib.hid hs2
          clear hr1 hr2 hg1 hg2 hF1 hF2 hO1 hO2 hU1 hU2
          dsimp only
          have b0 : (in0 == in0) = true := by cases in0 <;> rfl
          have b1 : (in1 == in1) = true := by cases in1 <;> rfl
          go_wp2_with fail
          refine hs1.out.mono ?_
          rintro e w15 ⟨rfl, hw15⟩
          obtain ⟨w12, hw12⟩ : ∃ w12, w12 = w15 := ⟨_, rfl⟩
          rw [← hw12] at hw15 ⊢
          obtain rfl : w13 = w12 := hw15.symm
          clear hw12 hw15
          dsimp only
          go_wp2_with fail
          refine hs2.out.mono ?_
          rintro e w15 ⟨rfl, hw15⟩
          obtain ⟨w12, hw12⟩ : ∃ w12, w12 = w15 := ⟨_, rfl⟩
          rw [← hw12] at hw15 ⊢
          obtain rfl : w13 = w12 := hw15.symm
          clear hw12 hw15
          dsimp only
          go_wp2_with fail
          go_ret
          exact ⟨rfl, hX13⟩
end Go.Proofs.Ytjhbeahkojippaa
