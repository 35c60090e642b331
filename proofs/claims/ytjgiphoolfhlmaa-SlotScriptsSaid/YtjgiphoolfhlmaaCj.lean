/- Frames: the program's and the document's numbers. -/
import Derived.Test.YtjgiphoolfhlmaaCg
import Derived.OwnWalk
import Derived.Test.YtjgiphoolfhlmaaDm
namespace Go.Proofs.Ytjgiphoolfhlmaa
open Go.RowKit
attribute [local go_sem] Oper.semAt_some
set_option linter.unusedVariables false
set_option linter.unusedSimpArgs false

theorem or_shift {a b i : Nat} (h : a < 2 ^ i) : a ||| b * 2 ^ i = b * 2 ^ i + a := by
  rw [Nat.or_comm, Nat.mul_comm, Nat.two_pow_add_eq_or_of_lt h]
/-- The first cells of bytes. -/
theorem cells4 {B : Nat} {w : World} {ao : Option Addr} {cap : Nat} {bs : List UInt8} (h : SlA B 1 EU w ao cap bs) (h4 : 4 ≤ bs.length) :
    ∃ b o, ao = some ⟨b, o, none⟩ ∧ b < B ∧ w.cell? ⟨b, o + 0, none⟩ = some (.int .u8 (bs.getD 0 0).toNat) ∧ w.cell? ⟨b, o + 1, none⟩ = some (.int .u8 (bs.getD 1 0).toNat) ∧ w.cell? ⟨b, o + 2, none⟩ = some (.int .u8 (bs.getD 2 0).toNat) ∧ w.cell? ⟨b, o + 3, none⟩ = some (.int .u8 (bs.getD 3 0).toNat) := by
  obtain ⟨b, o, rfl, hb, _⟩ := h.addr (by omega)
  have hc : ∀ i, i < 4 → w.cell? ⟨b, o + i, none⟩ = some (.int .u8 (bs.getD i 0).toNat) := fun i hi => by
    have hil : i < bs.length := by omega
    obtain ⟨cs, _, h6, h7⟩ := h.get i hil
    have h8 := h6 0 (by omega)
    rw [h7, Nat.mul_one, Nat.add_zero] at h8
    rw [h8, List.getD_eq_getElem?_getD, List.getElem?_eq_getElem hil]
    rfl
  exact ⟨b, o, rfl, hb, hc 0 (by omega), hc 1 (by omega), hc 2 (by omega), hc 3 (by omega)⟩
theorem numC_lt (bs : List UInt8) : numC bs < 4294967296 := by
  unfold numC
  have h0 := (bs.getD 0 0).toNat_lt
  have h1 := (bs.getD 1 0).toNat_lt
  have h2 := (bs.getD 2 0).toNat_lt
  have h3 := (bs.getD 3 0).toNat_lt
  omega

set_option maxRecDepth 100000 in
set_option maxHeartbeats 4000000 in
theorem number_any4 (ao : Option Addr) (cap m : Nat) (bs : List UInt8) (w : World) {B : Nat} (hd : SlA B 1 EU w ao cap bs) (hm : m = bs.length) (h4 : 4 ≤ m) :
    Calls Try.prog 55 #[.slice ao m cap] w fun e w' => e = .returned (.int .u32 (numC bs : Nat)) ∧ Below w.heap.size w w' := by
  obtain ⟨b, o, rfl, hb, e0, e1, e2, e3⟩ := cells4 hd (by omega)
  obtain ⟨N, hN⟩ : ∃ N, N = numC bs := ⟨_, rfl⟩
  rw [← hN]
  unfold numC at hN
  have h0 := (bs.getD 0 0).toNat_lt
  have h1 := (bs.getD 1 0).toNat_lt
  have h2 := (bs.getD 2 0).toNat_lt
  have h3 := (bs.getD 3 0).toNat_lt
  generalize (bs.getD 0 0).toNat = x0 at e0 h0 hN
  generalize (bs.getD 1 0).toNat = x1 at e1 h1 hN
  generalize (bs.getD 2 0).toNat = x2 at e2 h2 hN
  generalize (bs.getD 3 0).toNat = x3 at e3 h3 hN
  rw [Nat.add_zero] at e0
  replace hm := Lib.hid hm
  replace hN := Lib.hid hN
  have g0 : (0 : Int) < (m : Int) := by omega
  have g1 : (1 : Int) < (m : Int) := by omega
  have g2 : (2 : Int) < (m : Int) := by omega
  have g3 : (3 : Int) < (m : Int) := by omega
  clear hd
  go_enter Try.func55, Try.ntmps55
  go_upto_region 1 with fail
  go_quiet (fail)
  have hor : bits BinOp.or IntKind.u32 (bits BinOp.or IntKind.u32 (bits BinOp.or IntKind.u32 (x0 : Int) ((x1 : Int) * 256)) ((x2 : Int) * 65536)) ((x3 : Int) * 16777216) = (N : Int) := by
    rw [show (x1 : Int) * 256 = ((x1 * 2 ^ 8 : Nat) : Int) by omega, show (x2 : Int) * 65536 = ((x2 * 2 ^ 16 : Nat) : Int) by omega, show (x3 : Int) * 16777216 = ((x3 * 2 ^ 24 : Nat) : Int) by omega]
    rw [bits_or x0 (x1 * 2 ^ 8) (by omega) (by omega), or_shift (i := 8) (by omega), bits_or _ (x2 * 2 ^ 16) (by omega) (by omega), or_shift (i := 16) (by omega), bits_or _ (x3 * 2 ^ 24) (by omega) (by omega), or_shift (i := 24) (by omega), hN.out]
    omega
  have hbq : Below w.heap.size w (w.drewN nq) := below_drewN (Below.refl _ _) _
  replace hor := Lib.hid hor
  go_wp2_with fail
  go_ret
  exact ⟨by rw [hor.out]; rfl, hbq⟩

set_option maxRecDepth 100000 in
set_option maxHeartbeats 4000000 in
theorem rnumber_at (ao : Option Addr) (cap m : Nat) (bs : List UInt8) (w : World) {B : Nat} (hd : SlA B 1 EU w ao cap bs) (hm : m = bs.length) (h4 : 4 ≤ m) :
    Calls Try.prog 61 #[.slice ao m cap] w fun e w' => e = .returned (.int .i64 (numC bs : Nat)) ∧ Below w.heap.size w w' := by
  obtain ⟨b, o, rfl, hb, e0, e1, e2, e3⟩ := cells4 hd (by omega)
  obtain ⟨N, hN⟩ : ∃ N, N = numC bs := ⟨_, rfl⟩
  rw [← hN]
  unfold numC at hN
  have h0 := (bs.getD 0 0).toNat_lt
  have h1 := (bs.getD 1 0).toNat_lt
  have h2 := (bs.getD 2 0).toNat_lt
  have h3 := (bs.getD 3 0).toNat_lt
  generalize (bs.getD 0 0).toNat = x0 at e0 h0 hN
  generalize (bs.getD 1 0).toNat = x1 at e1 h1 hN
  generalize (bs.getD 2 0).toNat = x2 at e2 h2 hN
  generalize (bs.getD 3 0).toNat = x3 at e3 h3 hN
  rw [Nat.add_zero] at e0
  replace hm := Lib.hid hm
  replace hN := Lib.hid hN
  have g0 : (0 : Int) < (m : Int) := by omega
  have g1 : (1 : Int) < (m : Int) := by omega
  have g2 : (2 : Int) < (m : Int) := by omega
  have g3 : (3 : Int) < (m : Int) := by omega
  clear hd
  go_enter Try.func61, Try.ntmps61
  go_upto_region 1 with fail
  go_quiet (fail)
  have hor : (x0 : Int) + 256 * ((x1 : Int) + 256 * ((x2 : Int) + 256 * (x3 : Int))) = (N : Int) := by rw [hN.out]; omega
  have hbq : Below w.heap.size w (w.drewN nq) := below_drewN (Below.refl _ _) _
  replace hor := Lib.hid hor
  go_wp2_with fail
  go_ret
  exact ⟨by rw [hor.out]; rfl, hbq⟩
end Go.Proofs.Ytjgiphoolfhlmaa

/- Frames: the program's Next at a frame, and at nothing. -/
namespace Go.Proofs.Ytjgiphoolfhlmaa
open Go.RowKit
attribute [local go_sem] Oper.semAt_some
set_option linter.unusedVariables false
set_option linter.unusedSimpArgs false

theorem frame_parts (p tail : List UInt8) : (frameC p ++ tail).take 4 = fourC p.length ∧ (frameC p ++ tail).drop 4 = fourC (sumC (fourC p.length)) ++ (p ++ fourC (sumC p) ++ tail) ∧ ((frameC p ++ tail).drop 8).take p.length = p ∧ (frameC p ++ tail).drop (8 + p.length) = fourC (sumC p) ++ tail := by
  have h8 : (frameC p ++ tail).drop 8 = p ++ (fourC (sumC p) ++ tail) := by
    have : frameC p ++ tail = (fourC p.length ++ fourC (sumC (fourC p.length))) ++ (p ++ (fourC (sumC p) ++ tail)) := by unfold frameC; simp [List.append_assoc]
    rw [this]
    exact List.drop_left' rfl
  refine ⟨?_, ?_, ?_, ?_⟩
  · have : frameC p ++ tail = fourC p.length ++ (fourC (sumC (fourC p.length)) ++ (p ++ (fourC (sumC p) ++ tail))) := by unfold frameC; simp [List.append_assoc]
    rw [this]
    exact List.take_left' rfl
  · have : frameC p ++ tail = fourC p.length ++ (fourC (sumC (fourC p.length)) ++ (p ++ fourC (sumC p) ++ tail)) := by unfold frameC; simp [List.append_assoc]
    rw [this]
    exact List.drop_left' rfl
  · rw [h8]
    exact List.take_left' rfl
  · rw [← List.drop_drop, h8]
    exact List.drop_left' rfl

set_option maxRecDepth 100000 in
set_option maxHeartbeats 400000 in
theorem fnext_any (b off cap : Nat) (p tail : List UInt8) (w : World) (hd : SlA w.heap.size 1 EU w (some ⟨b, off, none⟩) cap (frameC p ++ tail)) (hl : p.length ≤ 65536) :
    Calls Try.prog 34 #[.slice (some ⟨b, off, none⟩) (frameC p ++ tail).length cap, .int .i64 0] w fun e w' => ∃ v, e = .returned (.tuple #[v, .int .i64 (12 + p.length : Nat), .int .i64 0]) ∧ OwnL encU w' w.heap.size 5 1 v p ∧ Below w.heap.size w w' := by
  obtain ⟨iu, hiu, hu0, hu1, hu2⟩ := partsU
  obtain ⟨f1, f2, f3, f4⟩ := frame_parts p tail
  have hcap := hd.1
  have hmx := hd.2.1
  have hlm := hd.len
  have hXl : (frameC p ++ tail).length = p.length + 12 + tail.length := by rw [List.length_append, frameC_len]
  obtain ⟨X, hX⟩ : ∃ X, X = frameC p ++ tail := ⟨_, rfl⟩
  rw [← hX] at hd f1 f2 f3 f4 hcap hlm hXl ⊢
  obtain ⟨n, hn⟩ : ∃ n, n = p.length := ⟨_, rfl⟩
  rw [← hn] at hl f1 f2 f3 f4 hXl ⊢
  obtain ⟨m, hm⟩ : ∃ m, m = X.length := ⟨_, rfl⟩
  rw [← hm] at hcap hlm hXl ⊢
  have hm12 : n + 12 ≤ m := by omega
  replace hX := Lib.hid hX
  replace hn := Lib.hid hn
  replace hm := Lib.hid hm
  replace f1 := Lib.hid f1
  replace f2 := Lib.hid f2
  replace f3 := Lib.hid f3
  replace f4 := Lib.hid f4
  replace hXl := Lib.hid hXl
  have d1 : decide ((m : Int) < 0) = false := by simp
  have k4 : ¬ cap = 4 := by omega
  have k8 : ¬ cap = 8 := by omega
  have k8n : ¬ cap = 8 + n := by omega
  have d8 : decide ((m : Int) < 8) = false := by simp; omega
  go_enter Try.func34, Try.ntmps34
  have hsum1 : Hid (∀ wy, Below w.heap.size w wy → Calls Try.prog 38 #[.slice (some ⟨b, off, none⟩) 4 cap] wy fun e w' => e = .returned (.int .u32 (sumC (fourC n) : Nat)) ∧ Below wy.heap.size wy w') := Lib.hid (fun wy hy => by
    have h1 := slaTake hd 4
    rw [f1.out] at h1
    exact sum_any _ cap (fourC n) wy (h1.imp hy hy.size (fun cs x _ h => h)))
  have hnum1 : Hid (∀ wy, Below w.heap.size w wy → Calls Try.prog 55 #[.slice (some ⟨b, off + 4, none⟩) (m - 4) (cap - 4)] wy fun e w' => e = .returned (.int .u32 (sumC (fourC n) : Nat)) ∧ Below wy.heap.size wy w') := Lib.hid (fun wy hy => by
    have h1 := slaDrop hd 4 (by rw [← hm.out]; omega) (some ⟨b, off + 4 * 1, none⟩) (cap - 4) (.inl ⟨rfl, rfl⟩)
    have h2 := number_any4 _ (cap - 4) (m - 4) (X.drop 4) wy (h1.imp hy hy.size (fun cs x _ h => h)) (by rw [List.length_drop, ← hm.out]) (by omega)
    rw [f2.out, numC_four (sumC_lt _)] at h2
    exact h2)
  obtain ⟨s1, hs1⟩ : ∃ s1, s1 = sumC (fourC n) := ⟨_, rfl⟩
  rw [← hs1] at hsum1 hnum1
  replace hs1 := Lib.hid hs1
  have hnum0 : Hid (∀ wy, Below w.heap.size w wy → Calls Try.prog 55 #[.slice (some ⟨b, off, none⟩) m cap] wy fun e w' => e = .returned (.int .u32 (n : Nat)) ∧ Below wy.heap.size wy w') := Lib.hid (fun wy hy => by
    have h2 := number_any4 _ cap m X wy (hd.imp hy hy.size (fun cs x _ h => h)) hm.out (by omega)
    have h3 : numC X = n := by
      rw [← List.take_append_drop 4 X, f1.out, numC_four (by omega)]
    rw [h3] at h2
    exact h2)
  have hsum2 : Hid (∀ wy L, L = n → Below w.heap.size w wy → Calls Try.prog 38 #[.slice (some ⟨b, off + 8, none⟩) L (cap - 8)] wy fun e w' => e = .returned (.int .u32 (sumC p : Nat)) ∧ Below wy.heap.size wy w') := Lib.hid (fun wy L hL hy => by
    have h1 := slaTake (slaDrop hd 8 (by rw [← hm.out]; omega) (some ⟨b, off + 8 * 1, none⟩) (cap - 8) (.inl ⟨rfl, rfl⟩)) n
    rw [f3.out] at h1
    rw [hL, hn.out]
    exact sum_any _ (cap - 8) p wy (h1.imp hy hy.size (fun cs x _ h => h)))
  have hnum2 : Hid (∀ wy a L C, a = off + (8 + n) → L = m - (8 + n) → C = cap - (8 + n) → Below w.heap.size w wy → Calls Try.prog 55 #[.slice (some ⟨b, a, none⟩) L C] wy fun e w' => e = .returned (.int .u32 (sumC p : Nat)) ∧ Below wy.heap.size wy w') := Lib.hid (fun wy a L C ha hL hC hy => by
    have h1 := slaDrop hd (8 + n) (by rw [← hm.out]; omega) (some ⟨b, off + (8 + n) * 1, none⟩) (cap - (8 + n)) (.inl ⟨rfl, rfl⟩)
    have h2 := number_any4 _ (cap - (8 + n)) (m - (8 + n)) (X.drop (8 + n)) wy (h1.imp hy hy.size (fun cs x _ h => h)) (by rw [List.length_drop, ← hm.out]) (by omega)
    rw [f4.out, numC_four (sumC_lt _)] at h2
    rw [ha, hL, hC]
    rw [Nat.mul_one] at h2
    exact h2)
  obtain ⟨s2, hs2⟩ : ∃ s2, s2 = sumC p := ⟨_, rfl⟩
  rw [← hs2] at hsum2 hnum2
  replace hs2 := Lib.hid hs2
  have hdp : Hid (∀ wy, Below w.heap.size w wy → SlA w.heap.size 1 EU wy (some ⟨b, off + 8, none⟩) (cap - 8) p) := Lib.hid (fun wy hy => by
    have h1 := slaTake (slaDrop hd 8 (by rw [← hm.out]; omega) (some ⟨b, off + 8 * 1, none⟩) (cap - 8) (.inl ⟨rfl, rfl⟩)) n
    rw [f3.out] at h1
    exact h1.imp hy (Nat.le_refl _) (fun cs x _ h => h))
  clear hd
  go_upto_region 6 with fail
  refine wp_region_tree (fun wx => True) 6 7 (by kernel_rfl) rfl (by kernel_rfl) (fun d _ _ _ _ h => by cases d <;> exact h) (trivial) (fun opz T hOps hT hTok hHeld => ?_)
  (refine wpTree_q 0 hTok hOps (by kernel_rfl) rfl rfl ⟨?_, ?_, ?_⟩; rotate_left; (focus (intro wx hSx; (try dsimp only at hSx); go_simp; (try with_reducible rfl))); (simp only [Act.put, List.setIfInBounds_toArray, List.set_cons_zero, List.set_cons_succ]))
  (refine wpTree_qg 1 hTok hOps (by kernel_rfl) rfl rfl ⟨?_, ?_, ?_⟩; rotate_left; (focus (intro wx hSx; (try dsimp only at hSx); go_simp; rw [if_pos (by omega)])); (simp only [Act.put, List.setIfInBounds_toArray, List.set_cons_zero, List.set_cons_succ]))
  (refine wpTree_q 3 hTok hOps (by kernel_rfl) rfl rfl ⟨?_, ?_, ?_⟩; rotate_left; (focus (intro wx hSx; (try dsimp only at hSx); go_simp; (try with_reducible rfl))); (simp only [Act.put, List.setIfInBounds_toArray, List.set_cons_zero, List.set_cons_succ]))
  (refine wpTree_qg 4 hTok hOps (by kernel_rfl) rfl rfl ⟨?_, ?_, ?_⟩; rotate_left; (focus (intro wx hSx; (try dsimp only at hSx); go_simp; rw [if_pos (by omega)])); (simp only [Act.put, List.setIfInBounds_toArray, List.set_cons_zero, List.set_cons_succ]))
  refine wpTree_1 2 hOps (by kernel_rfl) (by decide) rfl (fun K' hK => ?_)
  go_simp
  refine (hsum1.out _ (Below.refl _ _).drew).mono ?_
  rintro e w1 ⟨rfl, hb1d⟩
  have hb1 : Below w.heap.size w w1 := ((Below.refl _ _).drew).trans (hb1d.mono (Nat.le_refl _))
  dsimp only
  refine hK.out _ _ trivial ?_
  clear hK K'
  try simp only [Act.put, List.setIfInBounds_toArray, List.set_cons_zero, List.set_cons_succ]
  refine wpTree_1 5 hOps (by kernel_rfl) (by decide) rfl (fun K' hK => ?_)
  go_simp
  refine (hnum1.out _ hb1).mono ?_
  rintro e w2 ⟨rfl, hb2d⟩
  have hb2 : Below w.heap.size w w2 := hb1.trans (hb2d.mono hb1.size)
  dsimp only
  refine hK.out _ _ trivial ?_
  clear hK K'
  try simp only [Act.put, List.setIfInBounds_toArray, List.set_cons_zero, List.set_cons_succ]
  refine wpTree_nil hOps (by kernel_rfl) ?_
  refine hT.out _ _ ?_
  simp only [List.drop_succ_cons, List.drop_zero]
  clear hOps hT hTok hHeld
  clear hsum1 hnum1 hb1d hb2d hb1
  go_wp2_with fail
  refine (hnum0.out _ hb2).mono ?_
  rintro e w3 ⟨rfl, hb3d⟩
  have hb3 : Below w.heap.size w w3 := hb2.trans (hb3d.mono hb2.size)
  have d65 : decide ((65536 : Int) < (n : Int)) = false := by simp; omega
  have d12 : decide ((m : Int) < 12 + (n : Int)) = false := by simp; omega
  clear hnum0 hb3d hb2
  dsimp only
  obtain ⟨q, hq⟩ : ∃ q, q = 8 + n := ⟨_, rfl⟩
  have w8 : IntKind.i64.wrap (8 + (n : Int)) = (q : Int) := by rw [IntWalk.i64_in _ (by omega)]; omega
  have hq1 : q ≤ cap := by omega
  have hq2 : 8 ≤ q := by omega
  have hq3 : q ≤ m := by omega
  have hq4 : ¬ cap = q := by omega
  replace hq := Lib.hid hq
  go_upto_region 13 with fail
  refine wp_region_tree (fun wx => True) 11 12 (by kernel_rfl) rfl (by kernel_rfl) (fun d _ _ _ _ h => by cases d <;> exact h) (trivial) (fun opz T hOps hT hTok hHeld => ?_)
  (refine wpTree_q 0 hTok hOps (by kernel_rfl) rfl rfl ⟨?_, ?_, ?_⟩; rotate_left; (focus (intro wx hSx; (try dsimp only at hSx); go_simp; (try with_reducible rfl))); (simp only [Act.put, List.setIfInBounds_toArray, List.set_cons_zero, List.set_cons_succ]))
  (refine wpTree_q 1 hTok hOps (by kernel_rfl) rfl rfl ⟨?_, ?_, ?_⟩; rotate_left; (focus (intro wx hSx; (try dsimp only at hSx); go_simp; (try with_reducible rfl))); (simp only [Act.put, List.setIfInBounds_toArray, List.set_cons_zero, List.set_cons_succ]))
  (refine wpTree_q 2 hTok hOps (by kernel_rfl) rfl rfl ⟨?_, ?_, ?_⟩; rotate_left; (focus (intro wx hSx; (try dsimp only at hSx); go_simp; (try with_reducible rfl))); (simp only [Act.put, List.setIfInBounds_toArray, List.set_cons_zero, List.set_cons_succ]))
  (refine wpTree_qg 3 hTok hOps (by kernel_rfl) rfl rfl ⟨?_, ?_, ?_⟩; rotate_left; (focus (intro wx hSx; (try dsimp only at hSx); go_simp; rw [if_pos (by omega)])); (simp only [Act.put, List.setIfInBounds_toArray, List.set_cons_zero, List.set_cons_succ]))
  (refine wpTree_q 5 hTok hOps (by kernel_rfl) rfl rfl ⟨?_, ?_, ?_⟩; rotate_left; (focus (intro wx hSx; (try dsimp only at hSx); go_simp; (try with_reducible rfl))); (simp only [Act.put, List.setIfInBounds_toArray, List.set_cons_zero, List.set_cons_succ]))
  (refine wpTree_q 6 hTok hOps (by kernel_rfl) rfl rfl ⟨?_, ?_, ?_⟩; rotate_left; (focus (intro wx hSx; (try dsimp only at hSx); go_simp; (try with_reducible rfl))); (simp only [Act.put, List.setIfInBounds_toArray, List.set_cons_zero, List.set_cons_succ]))
  (refine wpTree_q 7 hTok hOps (by kernel_rfl) rfl rfl ⟨?_, ?_, ?_⟩; rotate_left; (focus (intro wx hSx; (try dsimp only at hSx); go_simp; (try with_reducible rfl))); (simp only [Act.put, List.setIfInBounds_toArray, List.set_cons_zero, List.set_cons_succ]))
  first
    | (refine wpTree_qg 8 hTok hOps (by kernel_rfl) rfl rfl ⟨?_, ?_, ?_⟩; rotate_left; (focus (intro wx hSx; (try dsimp only at hSx); go_simp; rw [if_pos (by omega)])); (simp only [Act.put, List.setIfInBounds_toArray, List.set_cons_zero, List.set_cons_succ]))
    | (refine wpTree_q 8 hTok hOps (by kernel_rfl) rfl rfl ⟨?_, ?_, ?_⟩; rotate_left; (focus (intro wx hSx; (try dsimp only at hSx); go_simp; (try with_reducible rfl))); (simp only [Act.put, List.setIfInBounds_toArray, List.set_cons_zero, List.set_cons_succ]))
  refine wpTree_1 4 hOps (by kernel_rfl) (by decide) rfl (fun K' hK => ?_)
  go_simp
  refine (hsum2.out _ _ (by have := hq.out; omega) hb3.drew).mono ?_
  rintro e w4 ⟨rfl, hb4d⟩
  have hb4 : Below w.heap.size w w4 := hb3.drew.trans (hb4d.mono hb3.size)
  dsimp only
  refine hK.out _ _ trivial ?_
  clear hK K'
  try simp only [Act.put, List.setIfInBounds_toArray, List.set_cons_zero, List.set_cons_succ]
  refine wpTree_1 9 hOps (by kernel_rfl) (by decide) rfl (fun K' hK => ?_)
  go_simp
  refine (hnum2.out _ _ _ _ (by have := hq.out; omega) (by have := hq.out; omega) (by have := hq.out; omega) hb4).mono ?_
  rintro e w5 ⟨rfl, hb5d⟩
  have hb5 : Below w.heap.size w w5 := hb4.trans (hb5d.mono hb4.size)
  dsimp only
  refine hK.out _ _ trivial ?_
  clear hK K'
  try simp only [Act.put, List.setIfInBounds_toArray, List.set_cons_zero, List.set_cons_succ]
  (refine wpTree_q 10 hTok hOps (by kernel_rfl) rfl rfl ⟨?_, ?_, ?_⟩; rotate_left; (focus (intro wx hSx; (try dsimp only at hSx); go_simp; (try with_reducible rfl))); (simp only [Act.put, List.setIfInBounds_toArray, List.set_cons_zero, List.set_cons_succ]))
  refine wpTree_nil hOps (by kernel_rfl) ?_
  refine hT.out _ _ ?_
  simp only [List.drop_succ_cons, List.drop_zero]
  clear hOps hT hTok hHeld
  have h8q : (8 : Int) ≤ (q : Int) := by omega
  have w12 : IntKind.i64.wrap (12 + (n : Int)) = ((12 + n : Nat) : Int) := by rw [IntWalk.i64_in _ (by omega)]; omega
  have hdp5 := hdp.out w5 hb5
  have hnil : OwnL encU w5 w.heap.size 5 1 (.slice none 0 0) [] := OwnL.nil _ _ _ _ _
  have hqn : Hid (q - 8 = p.length) := Lib.hid (by rw [hq.out, ← hn.out]; omega)
  obtain ⟨q8, hq8⟩ : ∃ q8, q8 = q - 8 := ⟨_, rfl⟩
  have hq8' : q - 8 = q8 := hq8.symm
  rw [hq8'] at hqn
  clear hq8 hsum2 hnum2 hdp hb4d hb5d hb4 hb3
  go_wp2_with (at_builtin; refine Shut.out ?ka)
  unfold Shut
  refine wpList_app_sla _ rfl _ _ 44 rfl Try.underlying44 hiu hu0 hu1 hu2 rfl (by decide) (enc := encU) rfl hnil (by first | (show Value.slice (some ⟨b, off + 8, none⟩) q8 (cap - 8) = _; rw [hqn.out]) | (show Value.slice (some ⟨b, off + 8, none⟩) (q - 8) (cap - 8) = _; rw [hq8', hqn.out])) hdp5 encU_len encU_one (by rw [← hn.out]; simp only [List.length_nil]; unfold maxLen; omega) (by rw [← hn.out]; simp only [List.length_nil]; omega) hb5.size ?_
  intro v6 w6 hO6 hg6
  rw [List.nil_append] at hO6
  have hb6 : Below w.heap.size w w6 := hb5.grown hg6 hb5.size (fun k hk => (hnil.lt k hk).1)
  clear hnil hdp5 hg6 hb5
  go_wp2_with fail
  go_ret3
  exact ⟨_, by first | rfl | (simp; omega), hO6, hb6⟩

theorem fnext_nil (w : World) (ao : Option Addr) (cap : Nat) :
    Calls Try.prog 34 #[.slice ao 0 cap, .int .i64 0] w fun e w' => e = .returned (.tuple #[.slice none 0 0, .int .i64 0, .int .i64 5]) ∧ w' = w := by
  go_enter Try.func34, Try.ntmps34
  go_wp2_with fail
  go_ret3
  exact ⟨rfl, rfl⟩
end Go.Proofs.Ytjgiphoolfhlmaa

/- Frames: the document's Next at a frame, and at nothing. -/
namespace Go.Proofs.Ytjgiphoolfhlmaa
open Go.RowKit
attribute [local go_sem] Oper.semAt_some
set_option linter.unusedVariables false
set_option linter.unusedSimpArgs false

set_option maxRecDepth 100000 in
theorem sameU_any {B1 B2 : Nat} {a1 a2 : Option Addr} {c1 c2 : Nat} {bs1 bs2 : List UInt8} (w : World) (h1 : SlA B1 1 EU w a1 c1 bs1) (h2 : SlA B2 1 EU w a2 c2 bs2) :
    Calls Try.prog 17 #[.slice a1 bs1.length c1, .slice a2 bs2.length c2] w fun e w' => e = .returned (.bool (decide (bs1 = bs2))) ∧ w' = w := by
  have t1 := textU h1
  have t2 := textU h2
  have he := strU_eq bs1 bs2
  obtain ⟨n1, hn1⟩ : ∃ n, n = bs1.length := ⟨_, rfl⟩
  obtain ⟨n2, hn2⟩ : ∃ n, n = bs2.length := ⟨_, rfl⟩
  obtain ⟨q, hq⟩ : ∃ q, q = decide (bs1 = bs2) := ⟨_, rfl⟩
  rw [← hn1] at t1 ⊢
  rw [← hn2] at t2 ⊢
  rw [← hq] at he ⊢
  generalize strU bs1 = s1 at t1 he
  generalize strU bs2 = s2 at t2 he
  clear hn1 hn2 hq h1 h2
  go_enter Try.func17, Try.ntmps17
  go_wp2_with fail
  go_ret
  refine ⟨?_, rfl⟩
  first | rfl | (rw [he]) | (simp only [he])

/-- It reads as these bytes. -/
def Rds (w : World) (v : Value) (bs : List UInt8) : Prop := ∃ ao cap, v = .slice ao bs.length cap ∧ SlA w.heap.size 1 EU w ao cap bs
theorem Rds.below {w w' : World} {v : Value} {bs : List UInt8} (h : Rds w v bs) (hb : Below w.heap.size w w') : Rds w' v bs := by
  obtain ⟨ao, cap, h1, h2⟩ := h
  exact ⟨ao, cap, h1, h2.imp hb hb.size (fun cs x _ h => h)⟩
theorem Rds.own {w : World} {base : Nat} {v : Value} {bs : List UInt8} (h : OwnL encU w base 5 1 v bs) : Rds w v bs := (FileAt.own h).sla
theorem Rds.file {w : World} {base : Nat} {v : Value} {bs : List UInt8} (h : FileAt w base v bs) : Rds w v bs := h.sla
theorem same_rds {w : World} {v1 v2 : Value} {b1 b2 : List UInt8} (h1 : Rds w v1 b1) (h2 : Rds w v2 b2) : Calls Try.prog 17 #[v1, v2] w fun e w' => e = .returned (.bool (decide (b1 = b2))) ∧ w' = w := by
  obtain ⟨a1, c1, rfl, h3⟩ := h1
  obtain ⟨a2, c2, rfl, h4⟩ := h2
  exact sameU_any w h3 h4

theorem frame_parts2 (p tail : List UInt8) : ((frameC p ++ tail).drop 4).take 4 = fourC (sumC (fourC p.length)) ∧ (frameC p ++ tail).take (12 + p.length) = frameC p := by
  obtain ⟨_, h2, _, _⟩ := frame_parts p tail
  refine ⟨by rw [h2]; exact List.take_left' rfl, List.take_left' (by rw [frameC_len]; omega)⟩

set_option maxRecDepth 100000 in
set_option maxHeartbeats 1000000 in
theorem rnext_any (b off cap : Nat) (p tail : List UInt8) (w : World) (hd : SlA w.heap.size 1 EU w (some ⟨b, off, none⟩) cap (frameC p ++ tail)) (hl : p.length ≤ 65536) :
    Calls Try.prog 48 #[.slice (some ⟨b, off, none⟩) (frameC p ++ tail).length cap, .int .i64 0] w fun e w' => ∃ v, e = .returned (.tuple #[v, .int .i64 (12 + p.length : Nat), .int .i64 0]) ∧ OwnL encU w' w.heap.size 5 1 v p ∧ Below w.heap.size w w' := by
  obtain ⟨iu, hiu, hu0, hu1, hu2⟩ := partsU
  obtain ⟨f1, f2, f3, f4⟩ := frame_parts p tail
  obtain ⟨f5, f6⟩ := frame_parts2 p tail
  have hcap := hd.1
  have hmx := hd.2.1
  have hlm := hd.len
  have hXl : (frameC p ++ tail).length = p.length + 12 + tail.length := by rw [List.length_append, frameC_len]
  obtain ⟨X, hX⟩ : ∃ X, X = frameC p ++ tail := ⟨_, rfl⟩
  rw [← hX] at hd f1 f2 f3 f4 f5 f6 hcap hlm hXl ⊢
  obtain ⟨n, hn⟩ : ∃ n, n = p.length := ⟨_, rfl⟩
  rw [← hn] at hl f1 f2 f3 f4 f5 f6 hXl ⊢
  obtain ⟨m, hm⟩ : ∃ m, m = X.length := ⟨_, rfl⟩
  rw [← hm] at hcap hlm hXl ⊢
  have hm12 : n + 12 ≤ m := by omega
  obtain ⟨s1, hs1⟩ : ∃ s1, s1 = sumC (fourC n) := ⟨_, rfl⟩
  have hs132 : s1 < 4294967296 := by rw [hs1]; exact sumC_lt _
  rw [← hs1] at f5
  have hext : Hid (∀ wy, Below w.heap.size w wy → Calls Try.prog 54 #[.int .u32 0, .slice (some ⟨b, off, none⟩) 4 cap] wy fun e w' => e = .returned (.int .u32 (s1 : Nat)) ∧ w' = wy) := Lib.hid (fun wy hy => by
    have h1 := slaTake hd 4
    rw [f1] at h1
    have := rextend_any _ cap (fourC n) wy (h1.imp hy (Nat.le_refl _) (fun cs x _ h => h))
    rw [← hs1] at this
    exact this)
  have hfo : Hid (∀ wy, Calls Try.prog 53 #[.int .u32 (s1 : Nat)] wy fun e w' => ∃ v, e = .returned v ∧ OwnL encU w' wy.heap.size 5 1 v (fourC s1) ∧ Below wy.heap.size wy w') := Lib.hid (fun wy => rfour_any s1 hs132 wy)
  have hr4 : Hid (∀ wy, Below w.heap.size w wy → Rds wy (.slice (some ⟨b, off + 4, none⟩) 4 (cap - 4)) (fourC s1)) := Lib.hid (fun wy hy => by
    have h1 := slaTake (slaDrop hd 4 (by rw [← hm]; omega) (some ⟨b, off + 4 * 1, none⟩) (cap - 4) (.inl ⟨rfl, rfl⟩)) 4
    rw [f5] at h1
    exact ⟨_, _, rfl, h1.imp hy hy.size (fun cs x _ h => h)⟩)
  have hnum : Hid (∀ wy, Below w.heap.size w wy → Calls Try.prog 61 #[.slice (some ⟨b, off, none⟩) 4 cap] wy fun e w' => e = .returned (.int .i64 (n : Nat)) ∧ Below wy.heap.size wy w') := Lib.hid (fun wy hy => by
    have h1 := slaTake hd 4
    rw [f1] at h1
    have h2 := rnumber_at _ cap 4 (fourC n) wy (h1.imp hy (Nat.le_refl _) (fun cs x _ h => h)) rfl (by decide)
    have h3 : numC (fourC n) = n := by
      have := numC_four (n := n) (by omega) []
      rwa [List.append_nil] at this
    rw [h3] at h2
    exact h2)
  have hdp : Hid (∀ wy, Below w.heap.size w wy → SlA w.heap.size 1 EU wy (some ⟨b, off + 8, none⟩) (cap - 8) p) := Lib.hid (fun wy hy => by
    have h1 := slaTake (slaDrop hd 8 (by rw [← hm]; omega) (some ⟨b, off + 8 * 1, none⟩) (cap - 8) (.inl ⟨rfl, rfl⟩)) n
    rw [f3] at h1
    exact h1.imp hy (Nat.le_refl _) (fun cs x _ h => h))
  have hrf : Hid (∀ wy L, L = 12 + n → Below w.heap.size w wy → Rds wy (.slice (some ⟨b, off, none⟩) L cap) (frameC p)) := Lib.hid (fun wy L hL hy => by
    have h1 := slaTake hd (12 + n)
    rw [f6] at h1
    refine ⟨_, _, ?_, h1.imp hy hy.size (fun cs x _ h => h)⟩
    rw [hL, frameC_len, ← hn, Nat.add_comm])
  replace hX := Lib.hid hX
  replace hn := Lib.hid hn
  replace hm := Lib.hid hm
  replace hXl := Lib.hid hXl
  replace hs1 := Lib.hid hs1
  have d8 : decide ((m : Int) < 8) = false := by simp; omega
  have d0 : decide ((m : Int) < 0) = false := by simp
  have v4 : IntKind.i64.wrap 4 = 4 := by decide
  have v8 : IntKind.i64.wrap 8 = 8 := by decide
  have v12 : IntKind.i64.wrap 12 = 12 := by decide
  have k4 : ¬ cap = 4 := by omega
  have k8 : ¬ cap = 8 := by omega
  clear f1 f2 f3 f4 f5 f6 hd
  go_enter Try.func48, Try.ntmps48
  go_upto_region 5 with fail
  refine wp_region_tree (fun wx => True) 14 15 (by kernel_rfl) rfl (by kernel_rfl) (fun d _ _ _ _ h => by cases d <;> exact h) (trivial) (fun opz T hOps hT hTok hHeld => ?_)
  (refine wpTree_q 0 hTok hOps (by kernel_rfl) rfl rfl ⟨?_, ?_, ?_⟩; rotate_left; (focus (intro wx hSx; (try dsimp only at hSx); go_simp; (try with_reducible rfl))); (simp only [Act.put, List.setIfInBounds_toArray, List.set_cons_zero, List.set_cons_succ]))
  (refine wpTree_q 1 hTok hOps (by kernel_rfl) rfl rfl ⟨?_, ?_, ?_⟩; rotate_left; (focus (intro wx hSx; (try dsimp only at hSx); go_simp; (try with_reducible rfl))); (simp only [Act.put, List.setIfInBounds_toArray, List.set_cons_zero, List.set_cons_succ]))
  (refine wpTree_q 2 hTok hOps (by kernel_rfl) rfl rfl ⟨?_, ?_, ?_⟩; rotate_left; (focus (intro wx hSx; (try dsimp only at hSx); go_simp; (try with_reducible rfl))); (simp only [Act.put, List.setIfInBounds_toArray, List.set_cons_zero, List.set_cons_succ]))
  (refine wpTree_q 3 hTok hOps (by kernel_rfl) rfl rfl ⟨?_, ?_, ?_⟩; rotate_left; (focus (intro wx hSx; (try dsimp only at hSx); go_simp; (try with_reducible rfl))); (simp only [Act.put, List.setIfInBounds_toArray, List.set_cons_zero, List.set_cons_succ]))
  (refine wpTree_qg 4 hTok hOps (by kernel_rfl) rfl rfl ⟨?_, ?_, ?_⟩; rotate_left; (focus (intro wx hSx; (try dsimp only at hSx); go_simp; rw [if_pos (by omega)])); (simp only [Act.put, List.setIfInBounds_toArray, List.set_cons_zero, List.set_cons_succ]))
  (refine wpTree_q 7 hTok hOps (by kernel_rfl) rfl rfl ⟨?_, ?_, ?_⟩; rotate_left; (focus (intro wx hSx; (try dsimp only at hSx); go_simp; (try with_reducible rfl))); (simp only [Act.put, List.setIfInBounds_toArray, List.set_cons_zero, List.set_cons_succ]))
  (refine wpTree_q 8 hTok hOps (by kernel_rfl) rfl rfl ⟨?_, ?_, ?_⟩; rotate_left; (focus (intro wx hSx; (try dsimp only at hSx); go_simp; (try with_reducible rfl))); (simp only [Act.put, List.setIfInBounds_toArray, List.set_cons_zero, List.set_cons_succ]))
  (refine wpTree_q 9 hTok hOps (by kernel_rfl) rfl rfl ⟨?_, ?_, ?_⟩; rotate_left; (focus (intro wx hSx; (try dsimp only at hSx); go_simp; (try with_reducible rfl))); (simp only [Act.put, List.setIfInBounds_toArray, List.set_cons_zero, List.set_cons_succ]))
  (refine wpTree_q 10 hTok hOps (by kernel_rfl) rfl rfl ⟨?_, ?_, ?_⟩; rotate_left; (focus (intro wx hSx; (try dsimp only at hSx); go_simp; (try with_reducible rfl))); (simp only [Act.put, List.setIfInBounds_toArray, List.set_cons_zero, List.set_cons_succ]))
  (refine wpTree_q 11 hTok hOps (by kernel_rfl) rfl rfl ⟨?_, ?_, ?_⟩; rotate_left; (focus (intro wx hSx; (try dsimp only at hSx); go_simp; (try with_reducible rfl))); (simp only [Act.put, List.setIfInBounds_toArray, List.set_cons_zero, List.set_cons_succ]))
  (refine wpTree_qg 12 hTok hOps (by kernel_rfl) rfl rfl ⟨?_, ?_, ?_⟩; rotate_left; (focus (intro wx hSx; (try dsimp only at hSx); go_simp; rw [if_pos (by omega)])); (simp only [Act.put, List.setIfInBounds_toArray, List.set_cons_zero, List.set_cons_succ]))
  refine wpTree_1 5 hOps (by kernel_rfl) (by decide) rfl (fun K' hK => ?_)
  go_simp
  refine (hext.out _ (Below.refl _ _).drew).mono ?_
  rintro e wz ⟨rfl, hwz⟩
  rw [hwz]
  clear hwz
  dsimp only
  refine hK.out _ _ trivial ?_
  clear hK K'
  try simp only [Act.put, List.setIfInBounds_toArray, List.set_cons_zero, List.set_cons_succ]
  refine wpTree_1 6 hOps (by kernel_rfl) (by decide) rfl (fun K' hK => ?_)
  go_simp
  refine (hfo.out _).mono ?_
  rintro e w2 ⟨v2, rfl, hO2, hb2d⟩
  have hb2 : Below w.heap.size w w2 := ((Below.refl _ _).drew).trans (hb2d.mono (Nat.le_refl _))
  have hsm := same_rds (Rds.own hO2) (hr4.out w2 hb2)
  rw [decide_eq_true rfl] at hsm
  replace hsm := Lib.hid hsm
  dsimp only
  refine hK.out _ _ trivial ?_
  clear hK K'
  try simp only [Act.put, List.setIfInBounds_toArray, List.set_cons_zero, List.set_cons_succ]
  refine wpTree_1 13 hOps (by kernel_rfl) (by decide) rfl (fun K' hK => ?_)
  go_simp
  refine hsm.out.mono ?_
  rintro e wz2 ⟨rfl, hwz2⟩
  rw [hwz2]
  clear hwz2
  dsimp only
  refine hK.out _ _ trivial ?_
  clear hK K'
  try simp only [Act.put, List.setIfInBounds_toArray, List.set_cons_zero, List.set_cons_succ]
  refine wpTree_nil hOps (by kernel_rfl) ?_
  refine hT.out _ _ ?_
  simp only [List.drop_succ_cons, List.drop_zero]
  clear hOps hT hTok hHeld
  clear hext hfo hr4 hO2 hb2d hsm
  go_wp2_with fail
  refine (hnum.out _ hb2).mono ?_
  rintro e w3 ⟨rfl, hb3d⟩
  have hb3 : Below w.heap.size w w3 := hb2.trans (hb3d.mono hb2.size)
  have d65 : decide ((65536 : Int) < (n : Int)) = false := by simp; omega
  obtain ⟨m2, hm2⟩ : ∃ m2, m2 = m - 12 := ⟨_, rfl⟩
  have wm : IntKind.i64.wrap ((m : Int) - 12) = (m2 : Int) := by rw [IntWalk.i64_in _ (by omega)]; omega
  have d12 : decide ((m2 : Int) < (n : Int)) = false := by simp; omega
  have d12n : decide (m2 < n) = false := by simp; omega
  obtain ⟨q, hq⟩ : ∃ q, q = 8 + n := ⟨_, rfl⟩
  have w8 : IntKind.i64.wrap (8 + (n : Int)) = (q : Int) := by rw [IntWalk.i64_in _ (by omega)]; omega
  have hq1 : q ≤ cap := by omega
  have hq2 : 8 ≤ q := by omega
  have h8q : (8 : Int) ≤ (q : Int) := by omega
  obtain ⟨q12, hq12⟩ : ∃ q12, q12 = 12 + n := ⟨_, rfl⟩
  have w12 : IntKind.i64.wrap (12 + (n : Int)) = (q12 : Int) := by rw [IntWalk.i64_in _ (by omega)]; omega
  have hq121 : q12 ≤ cap := by omega
  have hq122 : (0 : Int) ≤ (q12 : Int) := by omega
  have hqn : Hid (q - 8 = p.length) := Lib.hid (by rw [hq, ← hn.out]; omega)
  have hOe : Hid (OwnL encU (w3.alloc (.cells #[] 5)) w.heap.size 5 1 (.slice (some ⟨w3.heap.size, 0, none⟩) 0 0) []) := Lib.hid ((ownEmpty w3 1 5).base_le hb3.size)
  have hbe : Hid (Below w.heap.size w (w3.alloc (.cells #[] 5))) := Lib.hid (hb3.alloc hb3.size _)
  replace hq := Lib.hid hq
  replace hq12 := Lib.hid hq12
  replace hm2 := Lib.hid hm2
  clear hnum hb3d hb2
  dsimp only
  go_wp2_with (at_builtin; refine Shut.out ?ka)
  unfold Shut
  refine wpList_app_sla _ rfl _ _ 44 rfl Try.underlying44 hiu hu0 hu1 hu2 rfl (by decide) (enc := encU) rfl hOe.out (by first | (show Value.slice (some ⟨b, off + 8, none⟩) (q - 8) (cap - 8) = _; rw [hqn.out])) (hdp.out _ hbe.out) encU_len encU_one (by rw [← hn.out]; simp only [List.length_nil]; unfold maxLen; omega) (by rw [← hn.out]; simp only [List.length_nil]; omega) hbe.out.size ?_
  intro v6 w6 hO6 hg6
  rw [List.nil_append] at hO6
  have hb6 : Below w.heap.size w w6 := hbe.out.grown hg6 hbe.out.size (fun k hk => (hOe.out.lt k hk).1)
  obtain ⟨a6, c6, rfl, hs6⟩ := rdsOwn hO6
  have hpt := rput_any a6 c6 p w6 hs6 (by rw [← hn.out]; exact hl)
  rw [← hn.out] at hpt ⊢
  replace hpt := Lib.hid hpt
  clear hOe hbe hg6 hdp hs6
  go_wp2_with fail
  refine hpt.out.mono ?_
  rintro e w7 ⟨v7, rfl, hO7, hb7d⟩
  have hb7 : Below w.heap.size w w7 := hb6.trans (hb7d.mono hb6.size)
  have hO67 := hO6.below hb7d (Nat.le_refl _)
  have hsm := same_rds (Rds.own hO7) (hrf.out w7 q12 hq12.out hb7)
  rw [decide_eq_true rfl] at hsm
  replace hsm := Lib.hid hsm
  clear hpt hO6 hO7 hb7d hrf hb6
  dsimp only
  go_wp2_with fail
  refine hsm.out.mono ?_
  rintro e wz2 ⟨rfl, hwz2⟩
  rw [hwz2]
  clear hwz2 hsm
  dsimp only
  go_wp2_with fail
  go_ret3
  exact ⟨_, by first | rfl | (simp; have := hq12.out; have := hn.out; omega), hO67, hb7⟩

theorem rnext_nil (w : World) (ao : Option Addr) (cap : Nat) :
    Calls Try.prog 48 #[.slice ao 0 cap, .int .i64 0] w fun e w' => e = .returned (.tuple #[.slice none 0 0, .int .i64 0, .int .i64 5]) ∧ w' = w := by
  go_enter Try.func48, Try.ntmps48
  go_wp2_with fail
  go_ret3
  exact ⟨rfl, rfl⟩
end Go.Proofs.Ytjgiphoolfhlmaa
