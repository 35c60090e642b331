/- Slot: SlotLast. -/
import Derived.Test.YtjgiphoolfhlmaaCt
import Derived.LoopIn
namespace Go.Proofs.Ytjgiphoolfhlmaa
open Go.RowKit
attribute [local go_sem] Oper.semAt_some
set_option linter.unusedVariables false
set_option linter.unusedSimpArgs false

def nmS : ByteArray := ⟨#[115]⟩
theorem name_s : nameS nmS = true := by
  unfold nameS nmS
  rw [ByteArray.toList_eq]
  decide
def Bnd (L : Files) : Prop := ∀ p ∈ L, p.2.length ≤ 60062
theorem Bnd.new {L : Files} (h : Bnd L) (nm : ByteArray) (s : SL) {val : ByteArray} (hv : val.size ≤ 60000) : Bnd (newL nm L s val) := fun p hp => by
  unfold newL at hp
  rcases mem_withL hp with rfl | ⟨hp, _⟩
  · show (overB _ 0 _).length ≤ _
    rw [overB_len (Nat.zero_le _)]
    have h1 := frame_len2 (s.n + 1) val
    have h2 := bytesOf_le h (nm ++ sufC (toS s.inn))
    omega
  · exact h p hp
theorem Bnd.sum {L : Files} (h : Bnd L) (nm : ByteArray) (s : SL) {val : ByteArray} (hv : val.size ≤ 60000) : sumL (newL nm L s val) ≤ 60062 + sumL L := by
  have h1 := newL_sum nm L s val
  have h2 := bytesOf_le h (nm ++ sufC (toS s.inn))
  omega

/-- Where the loop stands. -/
structure SLoop (w0 : World) (i : Nat) (wr : World) (db : Nat) (x : DX) (sb : Nat) (s : SL) (L : Files) (H : Nat → Nat × ByteArray) : Prop where
  slt : Slt wr w0.heap.size db x sb nmS s
  inv : SInv nmS s 67108864 L H
  ok : OkM (2 * i) s.M
  bnd : Bnd L
  sum : sumL L ≤ i * 60062
  n : s.n ≤ i
  br : s.br = false
  bel : Below w0.heap.size w0 wr
theorem SInv.br {nm : ByteArray} {s : SL} {r : Int} {L : Files} {H : Nat → Nat × ByteArray} (h : SInv nm s r L H) : s.br = false := by
  rw [← h.opn]
  exact (opS_M _ _ 2).2
/-- A Put in the loop. -/
theorem loop_put {w0 : World} {i : Nat} {wr : World} {db sb : Nat} {x : DX} {s : SL} {L : Files} {H : Nat → Nat × ByteArray} (h : SLoop w0 i wr db x sb s L H) (hi : i < 20) (val : ByteArray) (hv : val.size ≤ maxLen) :
    Calls Try.prog 10 #[.pointer (some ⟨sb, 0, none⟩), .string val] wr fun e w' => (e = .returned (.int .i64 0) ∧ ∃ x' M' L' H' k, SLoop w0 (i + 1) w' db x' sb ⟨M', val, s.n + 1, k, false⟩ L' H') ∨ (e = .returned (.int .i64 2) ∧ ∃ x', SLoop w0 (i + 1) w' db x' sb s L H) := by
  have hlt := h.bel.size
  have hn := h.n
  by_cases hl : 60000 < val.size
  · refine (put_go val wr (put_long h.br hl) h.slt (by decide) h.ok (by omega) hlt hv (by omega)).mono ?_
    rintro e w' ⟨rfl, x', h1, h2⟩
    exact .inr ⟨rfl, x', ⟨h1, h.inv, h.ok.mono (by omega), h.bnd, Nat.le_trans h.sum (Nat.mul_le_mul_right _ (Nat.le_succ i)), by omega, h.br, h.bel.trans h2⟩⟩
  · have hs := h.sum
    rcases put_std name_s h.inv.M h.br (val := val) (by omega) (by omega) with ⟨_, hbad⟩ | hgo
    · have h3 := frame_len2 (s.n + 1) val
      have h4 : i * 60062 ≤ 20 * 60062 := Nat.mul_le_mul_right _ (by omega)
      omega
    · have hok2 := put_okM (nm := nmS) (s := s) h.ok val
      rw [hgo] at hok2
      refine (put_go val wr hgo h.slt (by decide) h.ok (by omega) hlt hv (by omega)).mono ?_
      rintro e w' ⟨rfl, x', h1, h2⟩
      exact .inl ⟨rfl, x', _, _, _, _, ⟨h1, h.inv.put (by omega) (by omega), hok2.mono (by omega), h.bnd.new _ _ (by omega), by rw [Nat.add_mul, Nat.one_mul]; exact Nat.le_trans (h.bnd.sum nmS s (val := val) (by omega)) (by rw [Nat.add_comm]; exact Nat.add_le_add_right h.sum _), by show s.n + 1 ≤ i + 1; omega, rfl, h.bel.trans h2⟩⟩
/-- A crash and Open in the loop. -/
theorem loop_open {w0 : World} {i : Nat} {wr : World} {db : Nat} {x : DX} {s : SL} {L : Files} {H : Nat → Nat × ByteArray} (hD : Dsk wr w0.heap.size db x s.M) (hI : SInv nmS s 67108864 L H) (hok : OkM (2 * i) s.M) (hbd : Bnd L) (hsum : sumL L ≤ i * 60062) (hn : s.n ≤ i) (hb : Below w0.heap.size w0 wr) :
    Calls Try.prog 8 #[.pointer (some ⟨db, 0, none⟩), .string nmS] wr fun e w' => ∃ sb, e = .returned (.tuple #[.pointer (some ⟨sb, 0, none⟩), .int .i64 0]) ∧ SLoop w0 i w' db x sb s L H := by
  have hM : s.M.now = L := by rw [hI.M]; rfl
  refine (sopen_any nmS H wr (by decide) hD hok hb.size (fun _ j hj => by rw [hM]; exact hI.held j hj)).mono ?_
  rintro e w' ⟨h1, _, h3⟩
  obtain ⟨sb, rfl, h4⟩ := h3 name_s
  rw [hI.opn] at h4
  exact ⟨sb, rfl, h4, hI, hok, hbd, hsum, hn, hI.br, hb.trans (h1.mono hb.size)⟩
theorem loop_crash {w0 : World} {i : Nat} {wr : World} {db sb : Nat} {x : DX} {s : SL} {L : Files} {H : Nat → Nat × ByteArray} (h : SLoop w0 i wr db x sb s L H) (hi : i ≤ 20) (picks : List Int) (pa : Option Addr) (pc : Nat) (hpk : SlA wr.heap.size 1 (RI .i64) wr pa pc picks) :
    Calls Try.prog 11 #[.pointer (some ⟨db, 0, none⟩), .slice pa picks.length pc] wr fun e w' => (∃ v, e = .returned v) ∧ ∃ x', Dsk w' w0.heap.size db x' s.M ∧ Below w0.heap.size w0 w' := by
  refine (crash_ok picks pa pc wr h.slt.dsk h.ok (by omega) h.bel.size hpk).mono ?_
  rintro e w' ⟨h1, x', h2, h3⟩
  rw [h.inv.M, crash_std, ← h.inv.M] at h2
  exact ⟨h1, x', h2, h.bel.trans h3⟩
end Go.Proofs.Ytjgiphoolfhlmaa

/- Slot: SlotLast walked. -/
namespace Go.Proofs.Ytjgiphoolfhlmaa
open Go.RowKit
attribute [local go_sem] Oper.semAt_some
set_option linter.unusedVariables false
set_option linter.unusedSimpArgs false

theorem SLoop.below {w0 : World} {i : Nat} {wr w' : World} {db sb : Nat} {x : DX} {s : SL} {L : Files} {H : Nat → Nat × ByteArray} (h : SLoop w0 i wr db x sb s L H) (hb : Below wr.heap.size wr w') : SLoop w0 i w' db x sb s L H :=
  ⟨h.slt.below hb, h.inv, h.ok, h.bnd, h.sum, h.n, h.br, h.bel.trans (hb.mono h.bel.size)⟩

set_option maxRecDepth 100000 in
set_option maxHeartbeats 4000000 in
theorem last_walk (va : Option Addr) (vc : Nat) (vs : List ByteArray) (pa : Option Addr) (pc : Nat) (picks : List Int) (w : World) (hv : SlA w.heap.size 1 Go.RS w va vc vs) (hp : SlA w.heap.size 1 (RI .i64) w pa pc picks) :
    Calls Try.prog 4 #[.slice va vs.length vc, .slice pa picks.length pc] w fun e w' => e = .returned (.bool true) ∧ Below w.heap.size w w' := by
  have hvl := hv.len
  obtain ⟨m, hm⟩ : ∃ m, m = vs.length := ⟨_, rfl⟩
  obtain ⟨pl, hpl⟩ : ∃ pl, pl = picks.length := ⟨_, rfl⟩
  rw [← hm] at hvl ⊢
  rw [← hpl]
  replace hm := Lib.hid hm
  have hcr : Hid (∀ (w0 : World) (i : Nat) (wr : World) (db sb : Nat) (x : DX) (s : SL) (L : Files) (H : Nat → Nat × ByteArray), SLoop w0 i wr db x sb s L H → i ≤ 20 → Below w.heap.size w wr → Calls Try.prog 11 #[.pointer (some ⟨db, 0, none⟩), .slice pa pl pc] wr fun e w' => (∃ v, e = .returned v) ∧ ∃ x', Dsk w' w0.heap.size db x' s.M ∧ Below w0.heap.size w0 w') := Lib.hid (fun w0 i wr db sb x s L H h hi hb => by rw [hpl]; exact loop_crash h hi picks pa pc (hp.imp hb hb.size (fun cs x _ h => h)))
  clear hp hpl
  go_enter Try.func4, Try.ntmps4
  go_wp2_with fail
  refine (kslot_any w).mono ?_
  rintro e w1 ⟨rfl, hb1⟩
  dsimp only
  have hnw := new_any 67108864 w1 (by omega) (by omega)
  go_wp2_with fail
  refine hnw.mono ?_
  rintro e w2 ⟨db, x, rfl, hD, hb2, _, _, _⟩
  have hlo := loop_open (w0 := w1) (i := 0) (s := sl0 67108864) (L := []) (H := H0) hD (sinv0 _ _) (OkM.empty 67108864 (by omega) (by omega)) (fun p hp => by cases hp) (Nat.le_refl _) (Nat.le_refl _) hb2
  change Calls Try.prog 8 #[.pointer (some ⟨db, 0, none⟩), .string ⟨#[115]⟩] w2 _ at hlo
  clear hnw hD
  dsimp only
  go_wp2_with fail
  refine hlo.mono ?_
  rintro e w3 ⟨sb, rfl, hL⟩
  clear hlo
  replace hL := Lib.hid hL
  dsimp only
  go_wp2_with fail
  go_loopw [7, 9, 10, 11] (fun x7 x9 x10 x11 wr => ∃ (i : Nat) (x : DX) (sb : Nat) (s : SL) (L : Files) (H : Nat → Nat × ByteArray), i ≤ m ∧ i ≤ 20 ∧ x7 = .pointer (some ⟨sb, 0, none⟩) ∧ x9 = .string s.v ∧ x10 = .int .i64 s.n ∧ x11 = .int .i64 i ∧ Hid (SLoop w1 i wr db x sb s L H)) (fun _ _ _ x11 _ => m - (intOf x11).toNat)
  case atStart => exact ⟨0, _, sb, sl0 67108864, [], H0, Nat.zero_le _, by omega, rfl, rfl, rfl, rfl, hL⟩
  case round =>
    clear hL hb2
    obtain ⟨i, x, sb, s, L, H, hi, hi20, rfl, rfl, rfl, rfl, hL⟩ := hrel
    by_cases hlt : i < m
    · have d1 : decide ((i : Int) < (m : Int)) = true := by simp; omega
      by_cases h20 : i < 20
      · have d2 : decide ((i : Int) < 20) = true := by simp; omega
        have hil : i < vs.length := by rw [← hm.out]; exact hlt
        obtain ⟨v, hvq⟩ : ∃ v, vs[i] = v := ⟨_, rfl⟩
        obtain ⟨b, o, rfl, hbl, _⟩ := hv.addr (by omega)
        obtain ⟨cs, _, h6, h7⟩ := hv.get i hil
        have h8 := h6 0 (by omega)
        have hvz : v.size ≤ maxLen := by rw [← hvq]; exact h7.2
        have hcs := h7.1
        rw [hvq] at hcs
        subst hcs
        have cv : ∀ wz, Below w1.heap.size w1 wz → wz.cell? ⟨b, o + i, none⟩ = some (.string v) := fun wz hz => by
          have h9 : w.cell? ⟨b, o + i, none⟩ = some (.string v) := by simpa using h8
          exact cell_later (hb1.trans (hz.mono hb1.size)) h9
        clear h8 h6 h7 hvq
        have cw := cv _ hL.out.bel
        replace cv := Lib.hid cv
        have hput := loop_put hL.out h20 v hvz
        have hsn := hL.out.n
        obtain ⟨sM, sv, sn, si, sbr⟩ := s
        dsimp only at hput hsn ⊢
        have hw1 : IntKind.i64.wrap ((sn : Int) + 1) = ((sn + 1 : Nat) : Int) := by rw [IntWalk.i64_in _ (by omega)]; omega
        have hw1c : IntKind.i64.wrap (1 + (sn : Int)) = ((sn + 1 : Nat) : Int) := by rw [IntWalk.i64_in _ (by omega)]; omega
        obtain ⟨n1, hn1⟩ : ∃ n1, n1 = sn + 1 := ⟨_, rfl⟩
        rw [← hn1] at hput hw1 hw1c
        clear hn1
        clear hL
        go_wp2_with (go_at_call 10; refine Shut.out ?kp)
        case kp =>
        unfold Shut
        refine hput.mono ?_
        rintro e w4 (⟨rfl, x4, M4, L4, H4, k4, hL4⟩ | ⟨rfl, x4, hL4⟩)
        · have cw4 := cv.out _ hL4.bel
          have hb4 := hb1.trans (hL4.bel.mono hb1.size)
          clear hput cw
          dsimp only
          have hin : i + 1 ≤ 20 := by omega
          have hic : ((i + 1 : Nat) : Int) = (i : Int) + 1 := by omega
          by_cases h3 : i % 3 = 2
          · have r3 : ((i : Int).tmod 3) = 2 := by rw [Int.tmod_eq_emod_of_nonneg (by omega)]; omega
            have hcc := hcr.out _ _ _ _ _ _ _ _ _ hL4 (by omega) hb4
            replace hL4 := Lib.hid hL4
            go_upto_region 14 with fail
            go_wp2_with fail
            refine hcc.mono ?_
            rintro e w5 ⟨⟨v5, rfl⟩, x5, hD5, hb5⟩
            have hlo := loop_open hD5 hL4.out.inv hL4.out.ok hL4.out.bnd hL4.out.sum hL4.out.n hb5
            change Calls Try.prog 8 #[.pointer (some ⟨db, 0, none⟩), .string ⟨#[115]⟩] w5 _ at hlo
            clear hcc hD5 hb5 hL4
            dsimp only
            go_wp2_with fail
            refine hlo.mono ?_
            rintro e w6 ⟨sb6, rfl, hL6⟩
            have hg := sget_any w6 hL6.slt.blk
            dsimp only at hg
            replace hL6 := Lib.hid hL6
            clear hlo
            dsimp only
            go_wp2_with fail
            refine hg.mono ?_
            rintro e w7 ⟨rfl, hb7⟩
            have hL7 := Lib.hid (hL6.out.below hb7)
            clear hg hL6 hb7
            dsimp only
            go_wp2_with fail
            go_roundw
            case rel => exact ⟨i + 1, x5, sb6, _, _, _, by omega, hin, rfl, rfl, rfl, by rw [hic], hL7⟩
            case measure => simp [intOf]; omega
          · have r3 : ((i : Int).tmod 3 == 2) = false := by rw [Int.tmod_eq_emod_of_nonneg (by omega)]; simp; omega
            have hg := sget_any w4 hL4.slt.blk
            dsimp only at hg
            replace hL4 := Lib.hid hL4
            go_upto_region 18 with fail
            go_wp2_with fail
            refine hg.mono ?_
            rintro e w7 ⟨rfl, hb7⟩
            have hL7 := Lib.hid (hL4.out.below hb7)
            clear hg hL4 hb7
            dsimp only
            go_wp2_with fail
            go_roundw
            case rel => exact ⟨i + 1, x4, sb, _, _, _, by omega, hin, rfl, rfl, rfl, by rw [hic], hL7⟩
            case measure => simp [intOf]; omega
        · have hb4 := hb1.trans (hL4.bel.mono hb1.size)
          clear hput cw
          dsimp only
          have hin : i + 1 ≤ 20 := by omega
          have hic : ((i + 1 : Nat) : Int) = (i : Int) + 1 := by omega
          by_cases h3 : i % 3 = 2
          · have r3 : ((i : Int).tmod 3) = 2 := by rw [Int.tmod_eq_emod_of_nonneg (by omega)]; omega
            have hcc := hcr.out _ _ _ _ _ _ _ _ _ hL4 (by omega) hb4
            replace hL4 := Lib.hid hL4
            go_upto_region 14 with fail
            go_wp2_with fail
            refine hcc.mono ?_
            rintro e w5 ⟨⟨v5, rfl⟩, x5, hD5, hb5⟩
            have hlo := loop_open hD5 hL4.out.inv hL4.out.ok hL4.out.bnd hL4.out.sum hL4.out.n hb5
            change Calls Try.prog 8 #[.pointer (some ⟨db, 0, none⟩), .string ⟨#[115]⟩] w5 _ at hlo
            clear hcc hD5 hb5 hL4
            dsimp only
            go_wp2_with fail
            refine hlo.mono ?_
            rintro e w6 ⟨sb6, rfl, hL6⟩
            have hg := sget_any w6 hL6.slt.blk
            dsimp only at hg
            replace hL6 := Lib.hid hL6
            clear hlo
            dsimp only
            go_wp2_with fail
            refine hg.mono ?_
            rintro e w7 ⟨rfl, hb7⟩
            have hL7 := Lib.hid (hL6.out.below hb7)
            clear hg hL6 hb7
            dsimp only
            go_wp2_with fail
            go_roundw
            case rel => exact ⟨i + 1, x5, sb6, _, _, _, by omega, hin, rfl, rfl, rfl, by rw [hic], hL7⟩
            case measure => simp [intOf]; omega
          · have r3 : ((i : Int).tmod 3 == 2) = false := by rw [Int.tmod_eq_emod_of_nonneg (by omega)]; simp; omega
            have hg := sget_any w4 hL4.slt.blk
            dsimp only at hg
            replace hL4 := Lib.hid hL4
            go_upto_region 18 with fail
            go_wp2_with fail
            refine hg.mono ?_
            rintro e w7 ⟨rfl, hb7⟩
            have hL7 := Lib.hid (hL4.out.below hb7)
            clear hg hL4 hb7
            dsimp only
            go_wp2_with fail
            go_roundw
            case rel => exact ⟨i + 1, x4, sb, _, _, _, by omega, hin, rfl, rfl, rfl, by rw [hic], hL7⟩
            case measure => simp [intOf]; omega
      · have d2 : decide ((i : Int) < 20) = false := by simp; omega
        have hfin := hb1.trans (hL.out.bel.mono hb1.size)
        go_wp2_with fail
        go_ret
        exact ⟨rfl, hfin⟩
    · have d1 : decide ((i : Int) < (m : Int)) = false := by simp; omega
      have hfin := hb1.trans (hL.out.bel.mono hb1.size)
      go_wp2_with fail
      go_ret
      exact ⟨rfl, hfin⟩

theorem last_row {w : World} (a0 : Option Addr) (len0 cap0 : Nat) (x0 : List ByteArray) (h0 : (RSl w.heap.size 1 Go.RS) w (Value.cells (.slice a0 len0 cap0)).toList x0) (a1 : Option Addr) (len1 cap1 : Nat) (x1 : List Int) (h1 : (RSl w.heap.size 1 (RI .i64)) w (Value.cells (.slice a1 len1 cap1)).toList x1) :
    Calls Try.prog 4 #[.slice a0 len0 cap0, .slice a1 len1 cap1] w fun e w' => e = .returned (.bool true) ∧ Below w.heap.size w w' := by
  obtain ⟨ao0, c0, e0, g0⟩ := h0
  obtain ⟨ao1, c1, e1, g1⟩ := h1
  simp only [Value.cells] at e0 e1
  obtain ⟨rfl, rfl, rfl⟩ : a0 = ao0 ∧ len0 = x0.length ∧ cap0 = c0 := by simpa using e0
  obtain ⟨rfl, rfl, rfl⟩ : a1 = ao1 ∧ len1 = x1.length ∧ cap1 = c1 := by simpa using e1
  exact last_walk a0 cap0 x0 a1 cap1 x1 w g0 g1
end Go.Proofs.Ytjgiphoolfhlmaa
