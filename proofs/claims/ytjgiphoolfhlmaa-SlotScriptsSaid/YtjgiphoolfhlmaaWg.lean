/- Wire: the reference's bytes. -/
import Derived.Test.YtjgiphoolfhlmaaWf
import Derived.Test.YtjgiphoolfhlmaaL1
namespace Go.Proofs.Ytjgiphoolfhlmaa
open Go.RowKit
set_option linter.unusedVariables false

theorem encL_append (a b : List Itm) : encL (a ++ b) = encL a ++ encL b := by
  induction a with
  | nil => rw [List.nil_append, encL, List.nil_append]
  | cons x r ih => rw [List.cons_append, encL, encL, ih, List.append_assoc]
theorem encL_snoc {l : List Itm} {k : Nat} {x : Itm} (hk : k < l.length) (hx : l[k] = x) : encL (l.take (k + 1)) = encL (l.take k) ++ encI x := by
  rw [List.take_add_one, encL_append, List.getElem?_eq_getElem hk, hx, Option.toList_some, encL, encL, List.append_nil]
theorem okL_at : ∀ {l : List Itm}, okL l = true → ∀ {k : Nat} (hk : k < l.length), okI l[k] = true
  | [], _, k, hk => absurd hk (by simp)
  | x :: r, h, 0, _ => by rw [okL, Bool.and_eq_true] at h; exact h.1
  | x :: r, h, k + 1, hk => by rw [okL, Bool.and_eq_true] at h; exact okL_at h.2 (by simpa using hk)
theorem cntL_at : ∀ {l : List Itm} {k : Nat} (hk : k < l.length), cntL (l.take k) + cntI l[k] ≤ cntL l
  | [], k, hk => absurd hk (by simp)
  | x :: r, 0, _ => by rw [List.take_zero, cntL, cntL]; simp
  | x :: r, k + 1, hk => by
    have := cntL_at (l := r) (k := k) (by simpa using hk)
    rw [List.take_succ_cons, cntL, cntL, List.getElem_cons_succ]; omega
theorem sizL_at : ∀ {l : List Itm} {k : Nat} (hk : k < l.length), sizL (l.take k) + sizI l[k] ≤ sizL l
  | [], k, hk => absurd hk (by simp)
  | x :: r, 0, _ => by rw [List.take_zero, sizL, sizL]; simp
  | x :: r, k + 1, hk => by
    have := sizL_at (l := r) (k := k) (by simpa using hk)
    rw [List.take_succ_cons, sizL, sizL, List.getElem_cons_succ]; omega

set_option maxRecDepth 100000 in
set_option maxHeartbeats 8000000 in
theorem bytes_any : ∀ (d : Nat) (l : List Itm) (ao : Option Addr) (cap : Nat) (w : World) (B : Nat), RIts d B w ao cap l → B ≤ w.heap.size → okL l = true → cntL l ≤ 4096 → sizL l ≤ 65536 →
    Calls Try.prog 52 #[.slice ao l.length cap] w fun e w' => ∃ v, e = .returned v ∧ OwnB w' w.heap.size v (encL l) ∧ Below w.heap.size w w' := by
  intro d
  induction d using Nat.strongRecOn with
  | _ d ih =>
  intro l ao cap w B hl hBs hok hcn hsi
  obtain ⟨i0, hi, hz0, hz1, hz2⟩ := info_parts infoB
  have hll := hl.len
  obtain ⟨n, hn⟩ : ∃ n, n = l.length := ⟨_, rfl⟩
  rw [← hn] at hll ⊢
  obtain ⟨res, hres⟩ : ∃ res, res = encL l := ⟨_, rfl⟩
  rw [← hres]
  replace hres := Lib.hid hres
  replace hn := Lib.hid hn
  go_enter Try.func52, Try.ntmps52
  go_wp2_with fail
  go_loopw [3, 4] (fun x3 x4 wr => ∃ (k : Nat), k ≤ n ∧ x4 = .int .i64 k ∧ OwnB wr w.heap.size x3 (encL (l.take k)) ∧ Below w.heap.size w wr) (fun _ x4 _ => n - (intOf x4).toNat)
  case atStart => exact ⟨0, Nat.zero_le _, rfl, by rw [List.take_zero, encL]; exact OwnL.nil _ _ _ _ _, Below.refl _ _⟩
  case round =>
    obtain ⟨k, hk, rfl, hown, hbel⟩ := hrel
    have hsz := hbel.size
    by_cases hlt : k < n
    · have hkl : k < l.length := by rw [← hn.out]; exact hlt
      obtain ⟨b1, o1, rfl, hb1, _⟩ := hl.1.addr (by omega)
      obtain ⟨⟨kd, nm, tx, ls⟩, hx⟩ : ∃ x, l[k] = x := ⟨_, rfl⟩
      obtain ⟨la, lc, d', hd', e0, e1, e2, e3, w0, w1, hts, hls⟩ := hl.at hkl hx
      have hb1w : b1 < w.heap.size := by omega
      replace e0 := (hbel.cell (p := ⟨b1, o1 + k * 4, none⟩) hb1w).trans e0
      replace e1 := (hbel.cell (p := ⟨b1, o1 + k * 4 + 1, none⟩) hb1w).trans e1
      replace e2 := (hbel.cell (p := ⟨b1, o1 + k * 4 + 2, none⟩) hb1w).trans e2
      replace e3 := (hbel.cell (p := ⟨b1, o1 + k * 4 + 3, none⟩) hb1w).trans e3
      have hlsl := hls.len
      have h1 := okL_at hok hkl
      have h2 := cntL_at hkl
      have h3 := sizL_at hkl
      rw [hx] at h1 h2 h3
      rw [okI, Bool.and_eq_true] at h1
      rw [cntI] at h2
      rw [sizI] at h3
      have hlen := encL_le (l.take k)
      have hsn := encL_snoc hkl hx
      obtain ⟨L, hL⟩ : ∃ L, L = encL (l.take k) := ⟨_, rfl⟩
      rw [← hL] at hown hlen hsn
      replace hL := Lib.hid hL
      have hlm : L.length + 1 ≤ 200000 := by omega
      have hb1r : b1 < wr.heap.size := by omega
      rcases form_int h1.1 with ⟨rfl, h0, rfl⟩ | ⟨rfl, rfl, rfl⟩ | ⟨rfl, rfl, h0⟩
      · obtain rfl := empty_bytes h0
        go_wp2_with (at_builtin; refine Shut.out ?stop0)
        unfold Shut
        have hbx1 : Blk (wr.alloc (.cells #[.int .i64 0, .int .i64 nm, .string ⟨#[]⟩, .slice la 0 lc] 63)) wr.heap.size #[.int .i64 0, .int .i64 nm, .string ⟨#[]⟩, .slice la 0 lc] 63 := Blk.new _ _ _
        have hsa : (wr.alloc (.cells #[.int .i64 0, .int .i64 nm, .string ⟨#[]⟩, .slice la 0 lc] 63)).heap.size = wr.heap.size + 1 := by simp
        refine wpList_app1g rfl _ _ 44 rfl Try.underlying44 hi hz0 hz1 hz2 rfl (by decide) (enc := encB) 0 rfl (OwnL.alloc hown _) (by rw [hsa]; rfl) (encB_len _) (encB_one _) (by omega) (by unfold maxLen; omega) (by simp; omega) (fun g cap3 w3 hown3 hgr3 => ?_)
        have hbx3 := hgr3.blk hbx1 ((OwnL.alloc hown _).ne_blk hbx1 (by decide))
        have hbel1 : Below w.heap.size w (wr.alloc (.cells #[.int .i64 0, .int .i64 nm, .string ⟨#[]⟩, .slice la 0 lc] 63)) := Below.alloc hbel hsz _
        have hbel3 := hbel1.trans (hgr3.below hbel1.size (fun g hg => (hown.lt g hg).1))
        have hsz3 := hbel3.size
        have hbx3l := hbx3.lt
        have q0 : w3.cell? ⟨wr.heap.size, 0, none⟩ = some (.int .i64 0) := hbx3.cellAt rfl
        have q1 : w3.cell? ⟨wr.heap.size, 1, none⟩ = some (.int .i64 nm) := hbx3.cellAt rfl
        have hwf := wf_i64 w1
        by_cases hpos : 0 ≤ nm
        · have hd : decide (0 ≤ nm) = true := by simpa using hpos
          go_wp2_with (go_at_call 64; refine Shut.out ?stop1)
          unfold Shut
          have hz : (2 * nm : Int) = (zig nm : Nat) := by unfold zig; rw [if_pos hpos]; omega
          rw [hz]
          refine (digits_any (zig nm) w3 (zig_lt hwf.1 hwf.2)).mono ?_
          rintro e w4 ⟨v4, rfl, hown4, hbel4⟩
          have hown3b := hown3.below hbel4 (Nat.le_refl _)
          have hbel4w := hbel3.trans (hbel4.mono hsz3)
          have hsz4 := hbel4w.size
          have hdl := digs_len (zig nm)
          have hbx4 := hbx3.below hbel4 hbx3l
          dsimp only
          go_wp2_with (at_builtin; refine Shut.out ?stop2)
          unfold Shut
          refine wpList_app_rows _ rfl _ _ 44 rfl Try.underlying44 hi hz0 hz1 hz2 rfl (by decide) rfl hown3b rfl hown4 encB_len encB_one (by unfold maxLen; simp; omega) (by simp; omega) hsz4 (fun v5 w5 hown5 hgr5 => ?_)
          have hbel5 := hbel4w.trans ((Below.refl w.heap.size w4).grown hgr5 hsz4 (fun g hg => (hown3b.lt g hg).1))
          have hbx5 := blk_grown hgr5 hbx4 (hown3b.ne_blk hbx4 (by decide))
          go_wp2_with fail
          go_roundw
          case rel =>
            refine ⟨k + 1, by omega, rfl, ?_, hbel5⟩
            rw [hsn, encI, if_pos rfl]
            simpa using hown5
          case measure =>
            simp [intOf]
            omega
        · have hd : decide (0 ≤ nm) = false := by simpa using hpos
          go_wp2_with (go_at_call 64; refine Shut.out ?stop3)
          unfold Shut
          have hz : (2 * -(nm + 1) + 1 : Int) = (zig nm : Nat) := by unfold zig; rw [if_neg (by omega)]; omega
          rw [hz]
          refine (digits_any (zig nm) w3 (zig_lt hwf.1 hwf.2)).mono ?_
          rintro e w4 ⟨v4, rfl, hown4, hbel4⟩
          have hown3b := hown3.below hbel4 (Nat.le_refl _)
          have hbel4w := hbel3.trans (hbel4.mono hsz3)
          have hsz4 := hbel4w.size
          have hdl := digs_len (zig nm)
          have hbx4 := hbx3.below hbel4 hbx3l
          dsimp only
          go_wp2_with (at_builtin; refine Shut.out ?stop4)
          unfold Shut
          refine wpList_app_rows _ rfl _ _ 44 rfl Try.underlying44 hi hz0 hz1 hz2 rfl (by decide) rfl hown3b rfl hown4 encB_len encB_one (by unfold maxLen; simp; omega) (by simp; omega) hsz4 (fun v5 w5 hown5 hgr5 => ?_)
          have hbel5 := hbel4w.trans ((Below.refl w.heap.size w4).grown hgr5 hsz4 (fun g hg => (hown3b.lt g hg).1))
          have hbx5 := blk_grown hgr5 hbx4 (hown3b.ne_blk hbx4 (by decide))
          go_wp2_with fail
          go_roundw
          case rel =>
            refine ⟨k + 1, by omega, rfl, ?_, hbel5⟩
            rw [hsn, encI, if_pos rfl]
            simpa using hown5
          case measure =>
            simp [intOf]
            omega
      · go_wp2_with (at_builtin; refine Shut.out ?stop5)
        unfold Shut
        have hbx1 : Blk (wr.alloc (.cells #[.int .i64 1, .int .i64 0, .string tx, .slice la 0 lc] 63)) wr.heap.size #[.int .i64 1, .int .i64 0, .string tx, .slice la 0 lc] 63 := Blk.new _ _ _
        have hsa : (wr.alloc (.cells #[.int .i64 1, .int .i64 0, .string tx, .slice la 0 lc] 63)).heap.size = wr.heap.size + 1 := by simp
        refine wpList_app1g rfl _ _ 44 rfl Try.underlying44 hi hz0 hz1 hz2 rfl (by decide) (enc := encB) 1 rfl (OwnL.alloc hown _) (by rw [hsa]; rfl) (encB_len _) (encB_one _) (by omega) (by unfold maxLen; omega) (by simp; omega) (fun g cap3 w3 hown3 hgr3 => ?_)
        have hbx3 := hgr3.blk hbx1 ((OwnL.alloc hown _).ne_blk hbx1 (by decide))
        have hbel1 : Below w.heap.size w (wr.alloc (.cells #[.int .i64 1, .int .i64 0, .string tx, .slice la 0 lc] 63)) := Below.alloc hbel hsz _
        have hbel3 := hbel1.trans (hgr3.below hbel1.size (fun g hg => (hown.lt g hg).1))
        have hsz3 := hbel3.size
        have hbx3l := hbx3.lt
        have q0 : w3.cell? ⟨wr.heap.size, 0, none⟩ = some (.int .i64 1) := hbx3.cellAt rfl
        have q2 : w3.cell? ⟨wr.heap.size, 2, none⟩ = some (.string tx) := hbx3.cellAt rfl
        go_wp2_with fail
        have hdl := digs_len tx.size
        go_region_held3 (fun wx => wx.cell? ⟨wr.heap.size, 2, none⟩ = some (.string tx))
          (first | exact q2 | exact hbx4.cellAt rfl | exact hbx5.cellAt rfl | exact hbx6.cellAt rfl)
          (first
            | (go_at_call 64; rw [wrap_size hts]; refine (digits_any tx.size (w3.drewN 1) (by omega)).mono ?_; rintro e w4 ⟨v4, rfl, hown4, hbel4⟩; have hown3b := hown3.below (w := w3.drewN 1) hbel4 (Nat.le_refl _); have hbx4 := Blk.below (w := w3.drewN 1) hbx3 hbel4 hbx3l; have hsz4 : w.heap.size ≤ w4.heap.size := Nat.le_trans hsz3 hbel4.size)
            | (refine step_app_rows _ rfl _ _ 44 rfl Try.underlying44 hi hz0 hz1 hz2 rfl (by decide) rfl hown3b rfl hown4 encB_len encB_one (by unfold maxLen; simp; omega) (by simp; omega) hsz4 (fun v5 w5 hown5 hgr5 => ?_); have hbx5 := blk_grown hgr5 hbx4 (hown3b.ne_blk hbx4 (by decide)); have hsz5 : w.heap.size ≤ w5.heap.size := Nat.le_trans hsz4 hgr5.size)
            | (refine step_app_string _ rfl _ _ 44 9 rfl Try.underlying44 Try.underlying9 hi hz0 hz1 hz2 rfl hown5 rfl (by unfold maxLen; simp; omega) (by simp; omega) hsz5 (fun v6 w6 hown6 hgr6 => ?_); have hbx6 := blk_grown hgr6 hbx5 (OwnL.ne_blk hown5 hbx5 (by decide))))
        replace hown6 := own_string hown6
        have hbel5 : Below w.heap.size w w5 := (hbel3.trans (Below.mono (Below.drew (Below.refl _ w3)) hsz3)).trans ((hbel4.mono hsz3).trans ((Below.refl w.heap.size w4).grown hgr5 hsz4 (fun g hg => (hown3b.lt g hg).1)))
        have hbel6 := hbel5.trans ((Below.refl w.heap.size w5).grown hgr6 hsz5 (fun g hg => (OwnL.lt hown5 g hg).1))
        clear hdl
        go_wp2_with fail
        go_roundw
        case rel =>
          refine ⟨k + 1, by omega, rfl, ?_, hbel6⟩
          rw [hsn, encI, if_neg (by decide), if_pos rfl]
          simpa using hown6
        case measure =>
          simp [intOf]
          omega
      · obtain rfl := empty_bytes h0
        go_wp2_with (at_builtin; refine Shut.out ?stop6)
        unfold Shut
        have hbx1 : Blk (wr.alloc (.cells #[.int .i64 2, .int .i64 0, .string ⟨#[]⟩, .slice la ls.length lc] 63)) wr.heap.size #[.int .i64 2, .int .i64 0, .string ⟨#[]⟩, .slice la ls.length lc] 63 := Blk.new _ _ _
        have hsa : (wr.alloc (.cells #[.int .i64 2, .int .i64 0, .string ⟨#[]⟩, .slice la ls.length lc] 63)).heap.size = wr.heap.size + 1 := by simp
        refine wpList_app1g rfl _ _ 44 rfl Try.underlying44 hi hz0 hz1 hz2 rfl (by decide) (enc := encB) 2 rfl (OwnL.alloc hown _) (by rw [hsa]; rfl) (encB_len _) (encB_one _) (by omega) (by unfold maxLen; omega) (by simp; omega) (fun g cap3 w3 hown3 hgr3 => ?_)
        have hbx3 := hgr3.blk hbx1 ((OwnL.alloc hown _).ne_blk hbx1 (by decide))
        have hbel1 : Below w.heap.size w (wr.alloc (.cells #[.int .i64 2, .int .i64 0, .string ⟨#[]⟩, .slice la ls.length lc] 63)) := Below.alloc hbel hsz _
        have hbel3 := hbel1.trans (hgr3.below hbel1.size (fun g hg => (hown.lt g hg).1))
        have hsz3 := hbel3.size
        have hbx3l := hbx3.lt
        have q0 : w3.cell? ⟨wr.heap.size, 0, none⟩ = some (.int .i64 2) := hbx3.cellAt rfl
        have q3 : w3.cell? ⟨wr.heap.size, 3, none⟩ = some (.slice la ls.length lc) := hbx3.cellAt rfl
        have hdl := digs_len ls.length
        have hle := encL_le ls
        have hls3 := hls.below (hbel3.mono hBs)
        go_wp2_with fail
        go_region_held3 (fun wx => wx.cell? ⟨wr.heap.size, 3, none⟩ = some (.slice la ls.length lc))
          (first | exact q3 | exact hbx4.cellAt rfl | exact hbx5.cellAt rfl | exact hbx6.cellAt rfl | exact hbx7.cellAt rfl)
          (first
            | (go_at_call 64; rw [wrap_size (n := ls.length) (by omega)]; refine (digits_any ls.length (w3.drewN 1) (by omega)).mono ?_; rintro e w4 ⟨v4, rfl, hown4, hbel4⟩; have hown3b := hown3.below (w := w3.drewN 1) hbel4 (Nat.le_refl _); have hbx4 := Blk.below (w := w3.drewN 1) hbx3 hbel4 hbx3l; have hsz4 : w.heap.size ≤ w4.heap.size := Nat.le_trans hsz3 hbel4.size)
            | (refine step_app_rows _ rfl (.tmp 24) _ 44 rfl Try.underlying44 hi hz0 hz1 hz2 rfl (by decide) rfl hown3b rfl hown4 encB_len encB_one (by unfold maxLen; simp; omega) (by simp; omega) hsz4 (fun v5 w5 hown5 hgr5 => ?_); have hbx5 := blk_grown hgr5 hbx4 (hown3b.ne_blk hbx4 (by decide)); have hsz5 : w.heap.size ≤ w5.heap.size := Nat.le_trans hsz4 hgr5.size; have hbel5 : Below w.heap.size w w5 := (hbel3.trans (Below.mono (Below.drew (Below.refl _ w3)) hsz3)).trans ((hbel4.mono hsz3).trans ((Below.refl w.heap.size w4).grown hgr5 hsz4 (fun g hg => (hown3b.lt g hg).1))); have hbx5l := hbx5.lt)
            | (go_at_call 52; refine (ih d' (by omega) ls la lc w5 B (hls.below (hbel5.mono hBs)) (by omega) h1.2 (by omega) (by omega)).mono ?_; rintro e w6 ⟨v6, rfl, hown6, hbel6⟩; have hown5b := OwnL.below hown5 hbel6 (Nat.le_refl _); have hbx6 := hbx5.below hbel6 hbx5l; have hsz6 : w.heap.size ≤ w6.heap.size := Nat.le_trans hsz5 hbel6.size)
            | (refine step_app_rows _ rfl (.tmp 30) _ 44 rfl Try.underlying44 hi hz0 hz1 hz2 rfl (by decide) rfl hown5b rfl hown6 encB_len encB_one (by unfold maxLen; simp; omega) (by simp; omega) hsz6 (fun v7 w7 hown7 hgr7 => ?_); have hbx7 := blk_grown hgr7 hbx6 (hown5b.ne_blk hbx6 (by decide))))
        have hbel7 := (hbel5.trans (hbel6.mono hsz5)).trans ((Below.refl w.heap.size w6).grown hgr7 hsz6 (fun g hg => (hown5b.lt g hg).1))
        clear hdl hle
        go_wp2_with fail
        go_roundw
        case rel =>
          refine ⟨k + 1, by omega, rfl, ?_, hbel7⟩
          rw [hsn, encI, if_neg (by decide), if_neg (by decide)]
          simpa using hown7
        case measure =>
          simp [intOf]
          omega
    · have hkn : k = n := by omega
      have htk : l.take k = l := List.take_of_length_le (by rw [hkn, hn.out]; exact Nat.le_refl _)
      rw [htk, ← hres.out] at hown
      clear ih htk
      go_wp2_with fail
      go_ret
      exact ⟨_, rfl, hown, (by repeat (first | exact Below.refl _ _ | assumption | refine below_drewN ?_ _ | refine Below.drew ?_ | (refine Below.setCell ?_ (by first | omega | (simp; omega) | simp) _) | (refine Below.alloc ?_ (by first | omega | (simp; omega) | simp) _) | (refine Below.trans ?_ (Below.mono (by assumption) (by first | omega | (simp; omega) | simp)))))⟩
end Go.Proofs.Ytjgiphoolfhlmaa
