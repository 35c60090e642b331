/- Wire: writer.put. -/
import Derived.Test.YtjgiphoolfhlmaaWa
import Derived.Test.YtjgiphoolfhlmaaWz
import Derived.Test.YtjgiphoolfhlmaaL1
namespace Go.Proofs.Ytjgiphoolfhlmaa
open Go.RowKit
set_option linter.unusedVariables false

/-- The writer at block wb: its bytes, its count. -/
structure WrS (W : World) (base wb : Nat) (v : Value) (bs : List Nat) (cnt : Nat) : Prop where
  blk : Blk W wb #[v, .int .i64 cnt] 87
  own : OwnB W base v bs
namespace WrS
variable {W W' : World} {base wb cnt : Nat} {v v' : Value} {bs bs' : List Nat}
theorem ne (h : WrS W base wb v bs cnt) : v.ownBlock ≠ some wb := h.own.ne_blk h.blk (by decide)
theorem c0 (h : WrS W base wb v bs cnt) : W.cell? ⟨wb, 0, none⟩ = some v := h.blk.cellAt rfl
theorem c1 (h : WrS W base wb v bs cnt) : W.cell? ⟨wb, 1, none⟩ = some (.int .i64 cnt) := h.blk.cellAt rfl
theorem drewN (h : WrS W base wb v bs cnt) (n : Nat) : WrS (W.drewN n) base wb v bs cnt := ⟨h.blk, h.own⟩
theorem alloc (h : WrS W base wb v bs cnt) (o : Obj) : WrS (W.alloc o) base wb v bs cnt := ⟨h.blk.alloc o, h.own.alloc o⟩
theorem count (h : WrS W base wb v bs cnt) (m : Nat) : WrS (W.setCell ⟨wb, 1, none⟩ (.int .i64 m)) base wb v bs m := by
  refine ⟨h.blk.set 1 _, ?_⟩
  exact h.own.chg (S := fun i => i = wb) ((Chg.refl _ _).setCell ⟨wb, 1, none⟩ _ (fun _ => rfl)) (fun g hg e => h.ne (by rw [hg, e]))
/-- Behind an append and the store of what it gives. -/
theorem put (h : WrS W base wb v bs cnt) (ho : OwnB W' base v' bs') (hg : Grew W v W' v') : WrS (W'.setCell ⟨wb, 0, none⟩ v') base wb v' bs' cnt := by
  have hb := hg.blk h.blk h.ne
  have hne : v'.ownBlock ≠ some wb := ho.ne_blk hb (by decide)
  refine ⟨hb.set 0 _, ?_⟩
  exact OwnL.chg (S := fun i => i = wb) ho ((Chg.refl _ _).setCell ⟨wb, 0, none⟩ _ (fun _ => rfl)) (fun g hg e => hne (by rw [hg, e]))
theorem put' (h : WrS W base wb v bs cnt) (ho : OwnB W' base v' bs') (hg : W.grownBy W' v.ownBlock) : WrS (W'.setCell ⟨wb, 0, none⟩ v') base wb v' bs' cnt := by
  have hb := blk_grown hg h.blk h.ne
  have hne : v'.ownBlock ≠ some wb := ho.ne_blk hb (by decide)
  refine ⟨hb.set 0 _, ?_⟩
  exact OwnL.chg (S := fun i => i = wb) ho ((Chg.refl _ _).setCell ⟨wb, 0, none⟩ _ (fun _ => rfl)) (fun g hg e => hne (by rw [hg, e]))
end WrS

theorem bad_form {kd nm : Int} {tx : ByteArray} {ls : List Itm} (h : formI (.mk kd nm tx ls) = false) : kd < 0 ∨ 2 < kd ∨ (kd = 0 ∧ 0 < tx.size) ∨ (kd = 0 ∧ tx.size = 0 ∧ 0 < ls.length) ∨
    (kd = 1 ∧ nm ≠ 0) ∨ (kd = 1 ∧ nm = 0 ∧ 0 < ls.length) ∨ (kd = 2 ∧ nm ≠ 0) ∨ (kd = 2 ∧ nm = 0 ∧ 0 < tx.size) := by
  rw [formI] at h
  by_cases h0 : kd = 0
  · rw [if_pos h0] at h
    simp only [Bool.and_eq_false_iff, decide_eq_false_iff_not] at h
    omega
  · rw [if_neg h0] at h
    by_cases h1 : kd = 1
    · rw [if_pos h1] at h
      simp only [Bool.and_eq_false_iff, decide_eq_false_iff_not] at h
      omega
    · rw [if_neg h1] at h
      by_cases h2 : kd = 2
      · rw [if_pos h2] at h
        simp only [Bool.and_eq_false_iff, decide_eq_false_iff_not] at h
        omega
      · omega
theorem empty_bytes {s : ByteArray} (h : s.size = 0) : s = ⟨#[]⟩ := by
  obtain ⟨a⟩ := s
  congr 1
  exact Array.eq_empty_of_size_eq_zero h
theorem nonempty_bytes {s : ByteArray} (h : 0 < s.size) : s.toList.isEmpty = false := by
  rw [ByteArray.toList_eq]
  obtain ⟨⟨l⟩⟩ := s
  cases l with
  | nil => simp [ByteArray.size] at h
  | cons a r => rfl
theorem chk_head {x : Itm} {r l : List Itm} {k dep c : Nat} (hk : k < l.length) (hx : l[k] = x) : chkL (l.drop k) dep c = if (chkI x dep c).2 = 0 then chkL (l.drop (k + 1)) dep (chkI x dep c).1 else chkI x dep c := by
  rw [List.drop_eq_getElem_cons hk, hx, chkL]

/-- What put comes to. -/
def PutR (base wb B : Nat) (w : World) (bs2 : List Nat) (res : Nat × Nat) (e : Ending) (w' : World) : Prop :=
  e = .returned (.int .i64 res.2) ∧ Below B w w' ∧ (res.2 = 0 → ∃ v', WrS w' base wb v' bs2 res.1)

set_option maxRecDepth 100000 in
set_option maxHeartbeats 16000000 in
theorem put_any : ∀ (d : Nat) (l : List Itm) (ao : Option Addr) (cap dep cnt : Nat) (bs : List Nat) (v : Value) (w : World) (B base wb : Nat), RIts d B w ao cap l → B ≤ wb → B ≤ base → base ≤ w.heap.size → B ≤ w.heap.size → WrS w base wb v bs cnt →
    dep ≤ 9 → cnt ≤ 4096 → bs.length ≤ 65547 * cnt →
    Calls Try.prog 36 #[.pointer (some ⟨wb, 0, none⟩), .slice ao l.length cap, .int .i64 dep] w (PutR base wb B w (bs ++ cutL l) (chkL l dep cnt)) := by
  intro d
  induction d using Nat.strongRecOn with
  | _ d ih =>
  intro l ao cap dep cnt bs v w B base wb hl hBw hBb hbs hBs hwr hdep hcnt hlen
  obtain ⟨i0, hi, hz0, hz1, hz2⟩ := info_parts infoB
  have hll := hl.len
  obtain ⟨n, hn⟩ : ∃ n, n = l.length := ⟨_, rfl⟩
  rw [← hn] at hll ⊢
  obtain ⟨res, hres⟩ : ∃ res, res = chkL l dep cnt := ⟨_, rfl⟩
  rw [← hres]
  replace hres := Lib.hid hres
  replace hn := Lib.hid hn
  go_enter Try.func36, Try.ntmps36
  go_wp2_with fail
  go_loopw [12] (fun i wr => ∃ (k c : Nat) (vv : Value), k ≤ n ∧ i = .int .i64 k ∧ c ≤ 4096 ∧ (bs ++ cutL (l.take k)).length ≤ 65547 * c ∧ WrS wr base wb vv (bs ++ cutL (l.take k)) c ∧ Below B w wr ∧ Hid (chkL (l.drop k) dep c = res)) (fun i _ => n - (intOf i).toNat)
  case atStart => exact ⟨0, cnt, v, Nat.zero_le _, rfl, hcnt, by rw [List.take_zero, cutL, List.append_nil]; exact hlen, by rw [List.take_zero, cutL, List.append_nil]; exact hwr, Below.refl _ _, Lib.hid (by rw [List.drop_zero]; exact hres.out.symm)⟩
  case round =>
    obtain ⟨k, c, vv, hk, rfl, hc, hbl, hws, hbel, hinv⟩ := hrel
    have hsz := hbel.size
    obtain ⟨L, hL⟩ : ∃ L, L = bs ++ cutL (l.take k) := ⟨_, rfl⟩
    rw [← hL] at hbl hws
    replace hL := Lib.hid hL
    have hwbl := hws.blk.lt
    by_cases hlt : k < n
    · have hkl : k < l.length := by rw [← hn.out]; exact hlt
      obtain ⟨b1, o1, rfl, hb1, _⟩ := hl.1.addr (by omega)
      obtain ⟨⟨kd, nm, tx, ls⟩, hx⟩ : ∃ x, l[k] = x := ⟨_, rfl⟩
      obtain ⟨la, lc, d', hd', e0, e1, e2, e3, w0, w1, hts, hls⟩ := hl.at hkl hx
      replace e0 := (hbel.cell (p := ⟨b1, o1 + k * 4, none⟩) hb1).trans e0
      replace e1 := (hbel.cell (p := ⟨b1, o1 + k * 4 + 1, none⟩) hb1).trans e1
      replace e2 := (hbel.cell (p := ⟨b1, o1 + k * 4 + 2, none⟩) hb1).trans e2
      replace e3 := (hbel.cell (p := ⟨b1, o1 + k * 4 + 3, none⟩) hb1).trans e3
      have hlsl := hls.len
      have hch := chk_head (r := []) (dep := dep) (c := c) hkl hx
      rw [hinv.out] at hch
      have g1 := hws.c1
      have f1 := hws.blk.frozen 1
      have hb1w : b1 < wr.heap.size := by omega
      have hwne : wb ≠ wr.heap.size := by omega
      by_cases hf : formI (.mk kd nm tx ls) = true
      · by_cases hlim : 4096 < c + 1 ∨ 8 < dep
        · have hr : res = (c + 1, 2) := by rw [hch, chkI]; simp [hf, hlim]
          subst hr
          have hfi := form_int hf
          clear hf hch hinv hres hx ih hls
          rcases hlim with hlim | hlim
          · have hlim2 : decide (4096 < (c : Int) + 1) = true := by simp; omega
            rcases hfi with ⟨rfl, h0, rfl⟩ | ⟨rfl, rfl, rfl⟩ | ⟨rfl, rfl, h0⟩
            · obtain rfl := empty_bytes h0
              go_wp2_with fail
              all_goals (go_ret; exact ⟨rfl, (by repeat (first | exact Below.refl _ _ | assumption | refine below_drewN ?_ _ | refine Below.drew ?_ | (refine Below.setCell ?_ (by first | omega | (simp; omega) | simp) _) | (refine Below.alloc ?_ (by first | omega | (simp; omega) | simp) _) | (refine Below.trans ?_ (Below.mono (by assumption) (by first | omega | (simp; omega) | simp))))), fun h => absurd h (by simp)⟩)
            · go_wp2_with fail
              all_goals (go_ret; exact ⟨rfl, (by repeat (first | exact Below.refl _ _ | assumption | refine below_drewN ?_ _ | refine Below.drew ?_ | (refine Below.setCell ?_ (by first | omega | (simp; omega) | simp) _) | (refine Below.alloc ?_ (by first | omega | (simp; omega) | simp) _) | (refine Below.trans ?_ (Below.mono (by assumption) (by first | omega | (simp; omega) | simp))))), fun h => absurd h (by simp)⟩)
            · obtain rfl := empty_bytes h0
              go_wp2_with fail
              all_goals (go_ret; exact ⟨rfl, (by repeat (first | exact Below.refl _ _ | assumption | refine below_drewN ?_ _ | refine Below.drew ?_ | (refine Below.setCell ?_ (by first | omega | (simp; omega) | simp) _) | (refine Below.alloc ?_ (by first | omega | (simp; omega) | simp) _) | (refine Below.trans ?_ (Below.mono (by assumption) (by first | omega | (simp; omega) | simp))))), fun h => absurd h (by simp)⟩)
          · have hlim2 : decide (8 < (dep : Int)) = true := by simp; omega
            by_cases hcl : 4096 < c + 1
            · have hlim2 : decide (4096 < (c : Int) + 1) = true := by simp; omega
              rcases hfi with ⟨rfl, h0, rfl⟩ | ⟨rfl, rfl, rfl⟩ | ⟨rfl, rfl, h0⟩
              · obtain rfl := empty_bytes h0
                go_wp2_with fail
                all_goals (go_ret; exact ⟨rfl, (by repeat (first | exact Below.refl _ _ | assumption | refine below_drewN ?_ _ | refine Below.drew ?_ | (refine Below.setCell ?_ (by first | omega | (simp; omega) | simp) _) | (refine Below.alloc ?_ (by first | omega | (simp; omega) | simp) _) | (refine Below.trans ?_ (Below.mono (by assumption) (by first | omega | (simp; omega) | simp))))), fun h => absurd h (by simp)⟩)
              · go_wp2_with fail
                all_goals (go_ret; exact ⟨rfl, (by repeat (first | exact Below.refl _ _ | assumption | refine below_drewN ?_ _ | refine Below.drew ?_ | (refine Below.setCell ?_ (by first | omega | (simp; omega) | simp) _) | (refine Below.alloc ?_ (by first | omega | (simp; omega) | simp) _) | (refine Below.trans ?_ (Below.mono (by assumption) (by first | omega | (simp; omega) | simp))))), fun h => absurd h (by simp)⟩)
              · obtain rfl := empty_bytes h0
                go_wp2_with fail
                all_goals (go_ret; exact ⟨rfl, (by repeat (first | exact Below.refl _ _ | assumption | refine below_drewN ?_ _ | refine Below.drew ?_ | (refine Below.setCell ?_ (by first | omega | (simp; omega) | simp) _) | (refine Below.alloc ?_ (by first | omega | (simp; omega) | simp) _) | (refine Below.trans ?_ (Below.mono (by assumption) (by first | omega | (simp; omega) | simp))))), fun h => absurd h (by simp)⟩)
            · have hlim3 : decide (4096 < (c : Int) + 1) = false := by simp; omega
              rcases hfi with ⟨rfl, h0, rfl⟩ | ⟨rfl, rfl, rfl⟩ | ⟨rfl, rfl, h0⟩
              · obtain rfl := empty_bytes h0
                go_wp2_with fail
                all_goals (go_ret; exact ⟨rfl, (by repeat (first | exact Below.refl _ _ | assumption | refine below_drewN ?_ _ | refine Below.drew ?_ | (refine Below.setCell ?_ (by first | omega | (simp; omega) | simp) _) | (refine Below.alloc ?_ (by first | omega | (simp; omega) | simp) _) | (refine Below.trans ?_ (Below.mono (by assumption) (by first | omega | (simp; omega) | simp))))), fun h => absurd h (by simp)⟩)
              · go_wp2_with fail
                all_goals (go_ret; exact ⟨rfl, (by repeat (first | exact Below.refl _ _ | assumption | refine below_drewN ?_ _ | refine Below.drew ?_ | (refine Below.setCell ?_ (by first | omega | (simp; omega) | simp) _) | (refine Below.alloc ?_ (by first | omega | (simp; omega) | simp) _) | (refine Below.trans ?_ (Below.mono (by assumption) (by first | omega | (simp; omega) | simp))))), fun h => absurd h (by simp)⟩)
              · obtain rfl := empty_bytes h0
                go_wp2_with fail
                all_goals (go_ret; exact ⟨rfl, (by repeat (first | exact Below.refl _ _ | assumption | refine below_drewN ?_ _ | refine Below.drew ?_ | (refine Below.setCell ?_ (by first | omega | (simp; omega) | simp) _) | (refine Below.alloc ?_ (by first | omega | (simp; omega) | simp) _) | (refine Below.trans ?_ (Below.mono (by assumption) (by first | omega | (simp; omega) | simp))))), fun h => absurd h (by simp)⟩)
        · have hlim3 : decide (4096 < (c : Int) + 1) = false := by simp; omega
          have hlim4 : decide (8 < (dep : Int)) = false := by simp; omega
          rcases form_int hf with ⟨rfl, h0, rfl⟩ | ⟨rfl, rfl, rfl⟩ | ⟨rfl, rfl, h0⟩
          · obtain rfl := empty_bytes h0
            go_wp2_with fail
            refine Code.wp_world ?_
            intro wA hw1
            have hws1 : WrS wA base wb vv L (c + 1) := by rw [hw1]; exact (hws.count (c + 1)).alloc _
            have hbx1 : Blk wA wr.heap.size #[.int .i64 0, .int .i64 nm, .string ⟨#[]⟩, .slice la 0 lc] 63 := by rw [hw1]; exact Blk.new_at _ _ _ (by simp)
            have k0 := hws1.c0
            have k1 : wA.cell? ⟨wr.heap.size, 0, none⟩ = some (.int .i64 0) := hbx1.cellAt rfl
            refine wp_region_calm (fun wx => wx.cell? ⟨wb, 0, none⟩ = some vv ∧ wx.cell? ⟨wr.heap.size, 0, none⟩ = some (.int .i64 0)) 10 [8, 9] (by kernel_rfl) (by kernel_rfl) (fun d _ _ _ _ h => by cases d <;> exact h) ⟨k0, k1⟩ (fun hHeld => ?_)
            simp only [List.take_succ_cons, List.take_zero, List.drop_succ_cons, List.drop_zero]
            have hbs1 : base ≤ wA.heap.size := by rw [hw1]; simp; omega
            have hbel1 : Below B w wA := by rw [hw1]; exact (by repeat (first | exact Below.refl _ _ | assumption | refine below_drewN ?_ _ | refine Below.drew ?_ | (refine Below.setCell ?_ (by first | omega | (simp; omega) | simp) _) | (refine Below.alloc ?_ (by first | omega | (simp; omega) | simp) _) | (refine Below.trans ?_ (Below.mono (by assumption) (by first | omega | (simp; omega) | simp)))))
            have hlm : L.length + 1 ≤ 140737488355328 := by omega
            have hws2 := hws1.drewN 1
            have hbx2 := hbx1.drewN 1
            generalize hw2 : wA.drew = w2
            rw [show wA.drewN 1 = wA.drew from rfl, hw2] at hws2 hbx2
            have hbs2 : base ≤ w2.heap.size := by rw [← hw2]; exact hbs1
            have hlm := Lib.hid hlm
            iterate 8 (refine wpCalm_q0 rfl rfl ⟨?_, ?_, ?_⟩; rotate_left; (focus (intro wx hSx; (try dsimp only at hSx); go_simp; (try with_reducible rfl))); (simp only [Act.put, List.setIfInBounds_toArray, List.set_cons_zero, List.set_cons_succ]))
            refine wpCalm_s rfl rfl (fun K' hK => ?_)
            go_simp
            refine hK.out _ _ ⟨(hws2.alloc _).c0, (hbx2.alloc _).cellAt rfl⟩ ?_
            clear hK K'
            try simp only [Act.put, List.setIfInBounds_toArray, List.set_cons_zero, List.set_cons_succ]
            refine wpCalm_s rfl rfl (fun K' hK => ?_)
            refine step_app1g rfl _ _ 44 rfl Try.underlying44 hi hz0 hz1 hz2 rfl (by decide) (enc := encB) 0 rfl hws2.own rfl (encB_len _) (encB_one _) (by have := hlm.out; omega) (by have := hlm.out; unfold maxLen; omega) hbs2 (fun g cap3 w3 hown3 hgr3 => ?_)
            have hbx3 := hgr3.blk hbx2 (hws2.own.ne_blk hbx2 (by decide))
            have hbk3 := hgr3.blk hws2.blk hws2.ne
            refine hK.out _ _ ⟨hbk3.cellAt rfl, hbx3.cellAt rfl⟩ ?_
            clear hK K'
            try simp only [Act.put, List.setIfInBounds_toArray, List.set_cons_zero, List.set_cons_succ]
            refine wpCalm_nil ?_
            have hfr3 := hbk3.frozen 0
            have p0 : w3.cell? ⟨wb, 0, none⟩ = some vv := hbk3.cellAt rfl
            have q0 : w3.cell? ⟨wr.heap.size, 0, none⟩ = some (.int .i64 0) := hbx3.cellAt rfl
            have hws4 := hws2.put hown3 hgr3
            have hbx4 := hbx3.set_other (p := ⟨wb, 0, none⟩) (Ne.symm hwne) (.slice (some ⟨g, 0, none⟩) (L.length + 1) cap3)
            have hbel2 : Below B w w2 := by rw [← hw2]; exact hbel1.drew
            have hbel3 : Below B w w3 := hbel2.trans (hgr3.below (by omega) (fun g hg => Nat.le_trans hBb (hws2.own.lt g hg).1))
            have hbel4 := hbel3.setCell (p := ⟨wb, 0, none⟩) hBw (.slice (some ⟨g, 0, none⟩) (L.length + 1) cap3)
            go_wp2_with fail
            refine Code.wp_world ?_
            intro w5 hw5
            rw [← hw5] at hws4 hbx4 hbel4
            clear hw5 p0 q0 hfr3 hbk3 hbx3 hown3 hgr3 hbel3 hbel2 hbx2 hws2 hw2 hbs2
            have k0 := hws4.c0
            have k1 : w5.cell? ⟨wr.heap.size, 1, none⟩ = some (.int .i64 nm) := hbx4.cellAt rfl
            refine wp_region_calm (fun wx => wx.cell? ⟨wb, 0, none⟩ = some (.slice (some ⟨g, 0, none⟩) (L.length + 1) cap3) ∧ wx.cell? ⟨wr.heap.size, 1, none⟩ = some (.int .i64 nm)) 15 [14] (by kernel_rfl) (by kernel_rfl) (fun d _ _ _ _ h => by cases d <;> exact h) ⟨k0, k1⟩ (fun hHeld => ?_)
            simp only [List.take_succ_cons, List.take_zero, List.drop_succ_cons, List.drop_zero]
            iterate 14 (refine wpCalm_q0 rfl rfl ⟨?_, ?_, ?_⟩; rotate_left; (focus (intro wx hSx; (try dsimp only at hSx); go_simp; (try with_reducible rfl))); (simp only [Act.put, List.setIfInBounds_toArray, List.set_cons_zero, List.set_cons_succ]))
            refine wpCalm_s rfl rfl (fun K' hK => ?_)
            go_simp
            rw [zig_bits (wf_i64 w1).1 (wf_i64 w1).2]
            have hwsd := hws4.drewN 1
            have hbxd := hbx4.drewN 1
            have hbs5 : base ≤ (w5.drewN 1).heap.size := Nat.le_trans hbs hbel4.size
            refine (number_any _ _ (zig nm) (w5.drewN 1) base hbs5 hwsd.own (zig_lt (wf_i64 w1).1 (wf_i64 w1).2) (by have := hlm.out; simp; omega)).mono ?_
            rintro e w6 ⟨v6, rfl, hown6, hgr6⟩
            obtain ⟨ao6, cap6, rfl, _, _, _⟩ := hown6.slice
            obtain ⟨n6, hn6⟩ : ∃ n6, n6 = (L ++ [0] ++ digs (zig nm)).length := ⟨_, rfl⟩
            rw [← hn6] at hown6 hgr6 ⊢
            replace hn6 := Lib.hid hn6
            have hbx6 := hgr6.blk hbxd (hwsd.own.ne_blk hbxd (by decide))
            have hbk6 := hgr6.blk hwsd.blk hwsd.ne
            have hbel6 : Below B w w6 := Below.trans hbel4.drew (hgr6.below (Nat.le_trans hBs hbel4.size) (fun g hg => Nat.le_trans hBb (hwsd.own.lt g hg).1))
            dsimp only
            refine hK.out _ _ ⟨hbk6.cellAt rfl, hbx6.cellAt rfl⟩ ?_
            clear hK K'
            try simp only [Act.put, List.setIfInBounds_toArray, List.set_cons_zero, List.set_cons_succ]
            refine wpCalm_nil ?_
            have hfr6 := hbk6.frozen 0
            have r0 : w6.cell? ⟨wb, 0, none⟩ = some (.slice (some ⟨g, 0, none⟩) (L.length + 1) cap3) := hbk6.cellAt rfl
            have hws7 := hwsd.put hown6 hgr6
            have hbx7 := hbx6.set_other (p := ⟨wb, 0, none⟩) (Ne.symm hwne) (.slice ao6 n6 cap6)
            have hbel7 := hbel6.setCell (p := ⟨wb, 0, none⟩) hBw (.slice ao6 n6 cap6)
            go_wp2_with fail
            go_roundw
            case rel =>
              have hcut := cutL_snoc hkl hx
              have hci : cutI (.mk 0 nm ⟨#[]⟩ []) = 0 :: digs (zig nm) := by rw [cutI, if_pos rfl]; rfl
              have hby : L ++ [0] ++ digs (zig nm) = bs ++ cutL (l.take (k + 1)) := by rw [hcut, hci, ← List.append_assoc, ← hL.out]; simp
              have hdl := digs_len (zig nm)
              refine ⟨k + 1, c + 1, .slice ao6 n6 cap6, by omega, rfl, by omega, ?_, ?_, hbel7, Lib.hid ?_⟩
              · rw [← hby]; simp; omega
              · rw [← hby]; exact hws7
              · rw [hch, chkI]; simp [hf, hlim, chkL]
            case measure =>
              simp [intOf]
              omega
          · go_wp2_with fail
            refine Code.wp_world ?_
            intro wA hw1
            have hws1 : WrS wA base wb vv L (c + 1) := by rw [hw1]; exact (hws.count (c + 1)).alloc _
            have hbx1 : Blk wA wr.heap.size #[.int .i64 1, .int .i64 0, .string tx, .slice la 0 lc] 63 := by rw [hw1]; exact Blk.new_at _ _ _ (by simp)
            have k0 := hws1.c0
            have k1 : wA.cell? ⟨wr.heap.size, 0, none⟩ = some (.int .i64 1) := hbx1.cellAt rfl
            have hbs1 : base ≤ wA.heap.size := by rw [hw1]; simp; omega
            have hbel1 : Below B w wA := by rw [hw1]; exact (by repeat (first | exact Below.refl _ _ | assumption | refine below_drewN ?_ _ | refine Below.drew ?_ | (refine Below.setCell ?_ (by first | omega | (simp; omega) | simp) _) | (refine Below.alloc ?_ (by first | omega | (simp; omega) | simp) _) | (refine Below.trans ?_ (Below.mono (by assumption) (by first | omega | (simp; omega) | simp)))))
            refine wp_region_calm (fun wx => wx.cell? ⟨wb, 0, none⟩ = some vv ∧ wx.cell? ⟨wr.heap.size, 0, none⟩ = some (.int .i64 1)) 10 [8, 9] (by kernel_rfl) (by kernel_rfl) (fun d _ _ _ _ h => by cases d <;> exact h) ⟨k0, k1⟩ (fun hHeld => ?_)
            simp only [List.take_succ_cons, List.take_zero, List.drop_succ_cons, List.drop_zero]
            have hlm : L.length + 1 ≤ 140737488355328 := by omega
            have hws2 := hws1.drewN 1
            have hbx2 := hbx1.drewN 1
            generalize hw2 : wA.drew = w2
            rw [show wA.drewN 1 = wA.drew from rfl, hw2] at hws2 hbx2
            have hbs2 : base ≤ w2.heap.size := by rw [← hw2]; exact hbs1
            have hlm := Lib.hid hlm
            iterate 8 (refine wpCalm_q0 rfl rfl ⟨?_, ?_, ?_⟩; rotate_left; (focus (intro wx hSx; (try dsimp only at hSx); go_simp; (try with_reducible rfl))); (simp only [Act.put, List.setIfInBounds_toArray, List.set_cons_zero, List.set_cons_succ]))
            refine wpCalm_s rfl rfl (fun K' hK => ?_)
            go_simp
            refine hK.out _ _ ⟨(hws2.alloc _).c0, (hbx2.alloc _).cellAt rfl⟩ ?_
            clear hK K'
            try simp only [Act.put, List.setIfInBounds_toArray, List.set_cons_zero, List.set_cons_succ]
            refine wpCalm_s rfl rfl (fun K' hK => ?_)
            refine step_app1g rfl _ _ 44 rfl Try.underlying44 hi hz0 hz1 hz2 rfl (by decide) (enc := encB) 1 rfl hws2.own rfl (encB_len _) (encB_one _) (by have := hlm.out; omega) (by have := hlm.out; unfold maxLen; omega) hbs2 (fun g cap3 w3 hown3 hgr3 => ?_)
            have hbx3 := hgr3.blk hbx2 (hws2.own.ne_blk hbx2 (by decide))
            have hbk3 := hgr3.blk hws2.blk hws2.ne
            refine hK.out _ _ ⟨hbk3.cellAt rfl, hbx3.cellAt rfl⟩ ?_
            clear hK K'
            try simp only [Act.put, List.setIfInBounds_toArray, List.set_cons_zero, List.set_cons_succ]
            refine wpCalm_nil ?_
            have hfr3 := hbk3.frozen 0
            have p0 : w3.cell? ⟨wb, 0, none⟩ = some vv := hbk3.cellAt rfl
            have q0 : w3.cell? ⟨wr.heap.size, 0, none⟩ = some (.int .i64 1) := hbx3.cellAt rfl
            have hws4 := hws2.put hown3 hgr3
            have hbx4 := hbx3.set_other (p := ⟨wb, 0, none⟩) (Ne.symm hwne) (.slice (some ⟨g, 0, none⟩) (L.length + 1) cap3)
            have hbel2 : Below B w w2 := by rw [← hw2]; exact hbel1.drew
            have hbel3 : Below B w w3 := hbel2.trans (hgr3.below (by omega) (fun g hg => Nat.le_trans hBb (hws2.own.lt g hg).1))
            have hbel4 := hbel3.setCell (p := ⟨wb, 0, none⟩) hBw (.slice (some ⟨g, 0, none⟩) (L.length + 1) cap3)
            go_wp2_with fail
            refine Code.wp_world ?_
            intro w5 hw5
            rw [← hw5] at hws4 hbx4 hbel4
            clear hw5 p0 q0 hfr3 hbk3 hbx3 hown3 hgr3 hbel3 hbel2 hbx2 hws2 hw2 hbs2
            have k0 := hws4.c0
            have k1 : w5.cell? ⟨wr.heap.size, 2, none⟩ = some (.string tx) := hbx4.cellAt rfl
            refine wp_region_calm (fun wx => wx.cell? ⟨wb, 0, none⟩ = some (.slice (some ⟨g, 0, none⟩) (L.length + 1) cap3) ∧ wx.cell? ⟨wr.heap.size, 2, none⟩ = some (.string tx)) 10 [9] (by kernel_rfl) (by kernel_rfl) (fun d _ _ _ _ h => by cases d <;> exact h) ⟨k0, k1⟩ (fun hHeld => ?_)
            simp only [List.take_succ_cons, List.take_zero, List.drop_succ_cons, List.drop_zero]
            iterate 9 (refine wpCalm_q0 rfl rfl ⟨?_, ?_, ?_⟩; rotate_left; (focus (intro wx hSx; (try dsimp only at hSx); go_simp; (try with_reducible rfl))); (simp only [Act.put, List.setIfInBounds_toArray, List.set_cons_zero, List.set_cons_succ]))
            refine wpCalm_s rfl rfl (fun K' hK => ?_)
            go_simp
            rw [wrap_size hts]
            have hwsd := hws4.drewN 1
            have hbxd := hbx4.drewN 1
            have hbs5 : base ≤ (w5.drewN 1).heap.size := Nat.le_trans hbs hbel4.size
            refine (number_any _ _ (tx.size) (w5.drewN 1) base hbs5 hwsd.own (by omega) (by have := hlm.out; simp; omega)).mono ?_
            rintro e w6 ⟨v6, rfl, hown6, hgr6⟩
            obtain ⟨ao6, cap6, rfl, _, _, _⟩ := hown6.slice
            obtain ⟨n6, hn6⟩ : ∃ n6, n6 = (L ++ [1] ++ digs (tx.size)).length := ⟨_, rfl⟩
            rw [← hn6] at hown6 hgr6 ⊢
            replace hn6 := Lib.hid hn6
            have hbx6 := hgr6.blk hbxd (hwsd.own.ne_blk hbxd (by decide))
            have hbk6 := hgr6.blk hwsd.blk hwsd.ne
            have hbel6 : Below B w w6 := Below.trans hbel4.drew (hgr6.below (Nat.le_trans hBs hbel4.size) (fun g hg => Nat.le_trans hBb (hwsd.own.lt g hg).1))
            dsimp only
            refine hK.out _ _ ⟨hbk6.cellAt rfl, hbx6.cellAt rfl⟩ ?_
            clear hK K'
            try simp only [Act.put, List.setIfInBounds_toArray, List.set_cons_zero, List.set_cons_succ]
            refine wpCalm_nil ?_
            have hfr6 := hbk6.frozen 0
            have r0 : w6.cell? ⟨wb, 0, none⟩ = some (.slice (some ⟨g, 0, none⟩) (L.length + 1) cap3) := hbk6.cellAt rfl
            have hws7 := hwsd.put hown6 hgr6
            have hbx7 := hbx6.set_other (p := ⟨wb, 0, none⟩) (Ne.symm hwne) (.slice ao6 n6 cap6)
            have hbel7 := hbel6.setCell (p := ⟨wb, 0, none⟩) hBw (.slice ao6 n6 cap6)
            have s2 : w6.cell? ⟨wr.heap.size, 2, none⟩ = some (.string tx) := hbx6.cellAt rfl
            by_cases hbig : tx.size ≤ 65536
            · have hd : decide ((tx.size : Int) ≤ 65536) = true := by simp; omega
              go_wp2_with fail
              refine Code.wp_world ?_
              intro w8 hw8
              rw [← hw8] at hws7 hbx7 hbel7
              clear hw8 r0 s2 hfr6 hbk6 hbx6 hown6 hgr6 hbel6 hbxd hwsd
              have k0 := hws7.c0
              have k1 : w8.cell? ⟨wr.heap.size, 2, none⟩ = some (.string tx) := hbx7.cellAt rfl
              refine wp_region_calm (fun wx => wx.cell? ⟨wb, 0, none⟩ = some (.slice ao6 n6 cap6) ∧ wx.cell? ⟨wr.heap.size, 2, none⟩ = some (.string tx)) 8 [7] (by kernel_rfl) (by kernel_rfl) (fun d _ _ _ _ h => by cases d <;> exact h) ⟨k0, k1⟩ (fun hHeld => ?_)
              simp only [List.take_succ_cons, List.take_zero, List.drop_succ_cons, List.drop_zero]
              iterate 7 (refine wpCalm_q0 rfl rfl ⟨?_, ?_, ?_⟩; rotate_left; (focus (intro wx hSx; (try dsimp only at hSx); go_simp; (try with_reducible rfl))); (simp only [Act.put, List.setIfInBounds_toArray, List.set_cons_zero, List.set_cons_succ]))
              refine wpCalm_s rfl rfl (fun K' hK => ?_)
              have hws8 := hws7.drewN 1
              have hbx8 := hbx7.drewN 1
              have hbs8 : base ≤ (w8.drewN 1).heap.size := Nat.le_trans hbs hbel7.size
              have hll : L.length + 11 + 65536 ≤ 65547 * 4096 := by omega
              have hdl := digs_len tx.size
              have hll : (L ++ [1] ++ digs tx.size).length + tx.size ≤ 65547 * 4096 := by simp; omega
              refine step_app_string (w8.drewN 1) rfl _ _ 44 9 rfl Try.underlying44 Try.underlying9 hi hz0 hz1 hz2 rfl hws8.own rfl (by unfold maxLen; omega) (by omega) hbs8 (fun v9 w9 hown9 hgr9 => ?_)
              replace hown9 := own_string hown9
              obtain ⟨ao9, cap9, rfl, _, _, _⟩ := hown9.slice
              obtain ⟨n9, hn9⟩ : ∃ n9, n9 = (L ++ [1] ++ digs tx.size ++ txtB tx).length := ⟨_, rfl⟩
              rw [← hn9] at hown9 ⊢
              replace hn9 := Lib.hid hn9
              have hbx9 := blk_grown hgr9 hbx8 (hws8.own.ne_blk hbx8 (by decide))
              have hbk9 := blk_grown hgr9 hws8.blk hws8.ne
              have hbel9 : Below B w w9 := Below.trans hbel7.drew ((Below.refl B (w8.drewN 1)).grown hgr9 (Nat.le_trans hBs hbel7.size) (fun g hg => Nat.le_trans hBb (hws8.own.lt g hg).1))
              refine hK.out _ _ ⟨?_, hbx9.cellAt rfl⟩ ?_
              · exact hbk9.cellAt rfl
              clear hK K'
              try simp only [Act.put, List.setIfInBounds_toArray, List.set_cons_zero, List.set_cons_succ]
              refine wpCalm_nil ?_
              have hfr9 := hbk9.frozen 0
              have t0 : w9.cell? ⟨wb, 0, none⟩ = some (.slice ao6 n6 cap6) := hbk9.cellAt rfl
              have hwsE := hws8.put' hown9 hgr9
              have hbelE := hbel9.setCell (p := ⟨wb, 0, none⟩) hBw (.slice ao9 n9 cap9)
              clear hll hdl
              go_wp2_with fail
              go_roundw
              case rel =>
                have hcut := cutL_snoc hkl hx
                have hci : cutI (.mk 1 0 tx []) = 1 :: (digs tx.size ++ txtB tx) := by rw [cutI, if_neg (by decide), if_pos rfl, cutB, if_pos hbig]; rfl
                have hby : L ++ [1] ++ digs tx.size ++ txtB tx = bs ++ cutL (l.take (k + 1)) := by rw [hcut, hci, ← List.append_assoc, ← hL.out]; simp
                have hdl := digs_len tx.size
                have htl := txtB_len tx
                refine ⟨k + 1, c + 1, .slice ao9 n9 cap9, by omega, rfl, by omega, ?_, ?_, hbelE, Lib.hid ?_⟩
                · rw [← hby]; simp; omega
                · rw [← hby]; exact hwsE
                · rw [hch, chkI]; simp [hf, hlim, chkL]
              case measure =>
                simp [intOf]
                omega
            · have hd : decide ((tx.size : Int) ≤ 65536) = false := by simp; omega
              have hdl := digs_len tx.size
              have hll : (L ++ [1] ++ digs tx.size).length + 65536 ≤ 65547 * 4096 := by simp; omega
              replace hll := Lib.hid hll
              have hbs8 := Nat.le_trans hbs hbel7.size
              go_wp2_with (at_builtin; refine Shut.out ?stopp)
              unfold Shut
              refine wpList_app_zeros _ rfl _ _ 44 3 rfl Try.underlying44 Try.underlying3 hi hz0 hz1 hz2 rfl hws7.own (m := 65536) rfl (by decide) ?zz1 ?zz2 hbs8 ?zznext
              case zz1 => have := hll.out; unfold maxLen; omega
              case zz2 => have := hll.out; omega
              case zznext =>
              intro v9 w9 hown9 hgr9
              replace hown9 := own_zeros hown9
              have hZl : (List.replicate 65536 0 : List Nat).length = 65536 := List.length_replicate
              have hZ : cutB tx = List.replicate 65536 0 := by rw [cutB, if_neg hbig]
              rw [← hZ] at hZl hown9
              replace hZl := Lib.hid hZl
              clear hZ
              obtain ⟨ao9, cap9, rfl, _, _, _⟩ := hown9.slice
              obtain ⟨n9, hn9⟩ : ∃ n9, n9 = (L ++ [1] ++ digs tx.size ++ cutB tx).length := ⟨_, rfl⟩
              rw [← hn9] at hown9 ⊢
              replace hn9 := Lib.hid hn9
              have hbx9 := blk_grown hgr9 hbx7 (hws7.own.ne_blk hbx7 (by decide))
              have hbk9 := blk_grown hgr9 hws7.blk hws7.ne
              have hbel9 : Below B w w9 := Below.trans hbel7 ((Below.refl B _).grown hgr9 (Nat.le_trans hBs hbel7.size) (fun g hg => Nat.le_trans hBb (hws7.own.lt g hg).1))
              have hfr9 := hbk9.frozen 0
              have t0 : w9.cell? ⟨wb, 0, none⟩ = some (.slice ao6 n6 cap6) := hbk9.cellAt rfl
              have hwsE := hws7.put' hown9 hgr9
              have hbelE := hbel9.setCell (p := ⟨wb, 0, none⟩) hBw (.slice ao9 n9 cap9)
              clear hll hdl
              go_wp2_with fail
              go_roundw
              case rel =>
                have hcut := cutL_snoc hkl hx
                have hci : cutI (.mk 1 0 tx []) = 1 :: (digs tx.size ++ cutB tx) := by rw [cutI, if_neg (by decide), if_pos rfl]; rfl
                have hby : L ++ [1] ++ digs tx.size ++ cutB tx = bs ++ cutL (l.take (k + 1)) := by rw [hcut, hci, ← List.append_assoc, ← hL.out]; simp
                have hdl := digs_len tx.size
                have hZl := hZl.out
                refine ⟨k + 1, c + 1, .slice ao9 n9 cap9, by omega, rfl, by omega, ?_, ?_, hbelE, Lib.hid ?_⟩
                · rw [← hby, List.length_append, hZl]; simp; omega
                · rw [← hby]; exact hwsE
                · rw [hch, chkI]; simp [hf, hlim, chkL]
              case measure =>
                simp [intOf]
                omega
          · obtain rfl := empty_bytes h0
            go_wp2_with fail
            refine Code.wp_world ?_
            intro wA hw1
            have hws1 : WrS wA base wb vv L (c + 1) := by rw [hw1]; exact (hws.count (c + 1)).alloc _
            have hbx1 : Blk wA wr.heap.size #[.int .i64 2, .int .i64 0, .string ⟨#[]⟩, .slice la ls.length lc] 63 := by rw [hw1]; exact Blk.new_at _ _ _ (by simp)
            have k0 := hws1.c0
            have k1 : wA.cell? ⟨wr.heap.size, 0, none⟩ = some (.int .i64 2) := hbx1.cellAt rfl
            have hbs1 : base ≤ wA.heap.size := by rw [hw1]; simp; omega
            have hbel1 : Below B w wA := by rw [hw1]; exact (by repeat (first | exact Below.refl _ _ | assumption | refine below_drewN ?_ _ | refine Below.drew ?_ | (refine Below.setCell ?_ (by first | omega | (simp; omega) | simp) _) | (refine Below.alloc ?_ (by first | omega | (simp; omega) | simp) _) | (refine Below.trans ?_ (Below.mono (by assumption) (by first | omega | (simp; omega) | simp)))))
            refine wp_region_calm (fun wx => wx.cell? ⟨wb, 0, none⟩ = some vv ∧ wx.cell? ⟨wr.heap.size, 0, none⟩ = some (.int .i64 2)) 10 [8, 9] (by kernel_rfl) (by kernel_rfl) (fun d _ _ _ _ h => by cases d <;> exact h) ⟨k0, k1⟩ (fun hHeld => ?_)
            simp only [List.take_succ_cons, List.take_zero, List.drop_succ_cons, List.drop_zero]
            have hlm : L.length + 1 ≤ 140737488355328 := by omega
            have hws2 := hws1.drewN 1
            have hbx2 := hbx1.drewN 1
            generalize hw2 : wA.drew = w2
            rw [show wA.drewN 1 = wA.drew from rfl, hw2] at hws2 hbx2
            have hbs2 : base ≤ w2.heap.size := by rw [← hw2]; exact hbs1
            have hlm := Lib.hid hlm
            iterate 8 (refine wpCalm_q0 rfl rfl ⟨?_, ?_, ?_⟩; rotate_left; (focus (intro wx hSx; (try dsimp only at hSx); go_simp; (try with_reducible rfl))); (simp only [Act.put, List.setIfInBounds_toArray, List.set_cons_zero, List.set_cons_succ]))
            refine wpCalm_s rfl rfl (fun K' hK => ?_)
            go_simp
            refine hK.out _ _ ⟨(hws2.alloc _).c0, (hbx2.alloc _).cellAt rfl⟩ ?_
            clear hK K'
            try simp only [Act.put, List.setIfInBounds_toArray, List.set_cons_zero, List.set_cons_succ]
            refine wpCalm_s rfl rfl (fun K' hK => ?_)
            refine step_app1g rfl _ _ 44 rfl Try.underlying44 hi hz0 hz1 hz2 rfl (by decide) (enc := encB) 2 rfl hws2.own rfl (encB_len _) (encB_one _) (by have := hlm.out; omega) (by have := hlm.out; unfold maxLen; omega) hbs2 (fun g cap3 w3 hown3 hgr3 => ?_)
            have hbx3 := hgr3.blk hbx2 (hws2.own.ne_blk hbx2 (by decide))
            have hbk3 := hgr3.blk hws2.blk hws2.ne
            refine hK.out _ _ ⟨hbk3.cellAt rfl, hbx3.cellAt rfl⟩ ?_
            clear hK K'
            try simp only [Act.put, List.setIfInBounds_toArray, List.set_cons_zero, List.set_cons_succ]
            refine wpCalm_nil ?_
            have hfr3 := hbk3.frozen 0
            have p0 : w3.cell? ⟨wb, 0, none⟩ = some vv := hbk3.cellAt rfl
            have q0 : w3.cell? ⟨wr.heap.size, 0, none⟩ = some (.int .i64 2) := hbx3.cellAt rfl
            have hws4 := hws2.put hown3 hgr3
            have hbx4 := hbx3.set_other (p := ⟨wb, 0, none⟩) (Ne.symm hwne) (.slice (some ⟨g, 0, none⟩) (L.length + 1) cap3)
            have hbel2 : Below B w w2 := by rw [← hw2]; exact hbel1.drew
            have hbel3 : Below B w w3 := hbel2.trans (hgr3.below (by omega) (fun g hg => Nat.le_trans hBb (hws2.own.lt g hg).1))
            have hbel4 := hbel3.setCell (p := ⟨wb, 0, none⟩) hBw (.slice (some ⟨g, 0, none⟩) (L.length + 1) cap3)
            go_wp2_with fail
            refine Code.wp_world ?_
            intro w5 hw5
            rw [← hw5] at hws4 hbx4 hbel4
            clear hw5 p0 q0 hfr3 hbk3 hbx3 hown3 hgr3 hbel3 hbel2 hbx2 hws2 hw2 hbs2
            have k0 := hws4.c0
            have k1 : w5.cell? ⟨wr.heap.size, 3, none⟩ = some (.slice la ls.length lc) := hbx4.cellAt rfl
            refine wp_region_calm (fun wx => wx.cell? ⟨wb, 0, none⟩ = some (.slice (some ⟨g, 0, none⟩) (L.length + 1) cap3) ∧ wx.cell? ⟨wr.heap.size, 3, none⟩ = some (.slice la ls.length lc)) 10 [9] (by kernel_rfl) (by kernel_rfl) (fun d _ _ _ _ h => by cases d <;> exact h) ⟨k0, k1⟩ (fun hHeld => ?_)
            simp only [List.take_succ_cons, List.take_zero, List.drop_succ_cons, List.drop_zero]
            iterate 9 (refine wpCalm_q0 rfl rfl ⟨?_, ?_, ?_⟩; rotate_left; (focus (intro wx hSx; (try dsimp only at hSx); go_simp; (try with_reducible rfl))); (simp only [Act.put, List.setIfInBounds_toArray, List.set_cons_zero, List.set_cons_succ]))
            refine wpCalm_s rfl rfl (fun K' hK => ?_)
            go_simp
            rw [wrap_size (n := ls.length) (by omega)]
            have hwsd := hws4.drewN 1
            have hbxd := hbx4.drewN 1
            have hbs5 : base ≤ (w5.drewN 1).heap.size := Nat.le_trans hbs hbel4.size
            refine (number_any _ _ (ls.length) (w5.drewN 1) base hbs5 hwsd.own (by omega) (by have := hlm.out; simp; omega)).mono ?_
            rintro e w6 ⟨v6, rfl, hown6, hgr6⟩
            obtain ⟨ao6, cap6, rfl, _, _, _⟩ := hown6.slice
            obtain ⟨n6, hn6⟩ : ∃ n6, n6 = (L ++ [2] ++ digs (ls.length)).length := ⟨_, rfl⟩
            rw [← hn6] at hown6 hgr6 ⊢
            replace hn6 := Lib.hid hn6
            have hbx6 := hgr6.blk hbxd (hwsd.own.ne_blk hbxd (by decide))
            have hbk6 := hgr6.blk hwsd.blk hwsd.ne
            have hbel6 : Below B w w6 := Below.trans hbel4.drew (hgr6.below (Nat.le_trans hBs hbel4.size) (fun g hg => Nat.le_trans hBb (hwsd.own.lt g hg).1))
            dsimp only
            refine hK.out _ _ ⟨hbk6.cellAt rfl, hbx6.cellAt rfl⟩ ?_
            clear hK K'
            try simp only [Act.put, List.setIfInBounds_toArray, List.set_cons_zero, List.set_cons_succ]
            refine wpCalm_nil ?_
            have hfr6 := hbk6.frozen 0
            have r0 : w6.cell? ⟨wb, 0, none⟩ = some (.slice (some ⟨g, 0, none⟩) (L.length + 1) cap3) := hbk6.cellAt rfl
            have hws7 := hwsd.put hown6 hgr6
            have hbx7 := hbx6.set_other (p := ⟨wb, 0, none⟩) (Ne.symm hwne) (.slice ao6 n6 cap6)
            have hbel7 := hbel6.setCell (p := ⟨wb, 0, none⟩) hBw (.slice ao6 n6 cap6)
            have s3 : w6.cell? ⟨wr.heap.size, 3, none⟩ = some (.slice la ls.length lc) := hbx6.cellAt rfl
            have hdl := digs_len ls.length
            have hlen2 : (L ++ [2] ++ digs ls.length).length ≤ 65547 * (c + 1) := by simp; omega
            replace hlen2 := Lib.hid hlen2
            have hls7 := hls.below hbel7
            go_wp2_with (go_at_call 36; refine Shut.out ?stopp2)
            unfold Shut
            have hrI : chkI (.mk 2 0 ⟨#[]⟩ ls) dep c = chkL ls (dep + 1) (c + 1) := by rw [chkI]; simp [hf, hlim]
            rw [hrI] at hch
            refine (ih d' (by omega) ls la lc (dep + 1) (c + 1) (L ++ [2] ++ digs ls.length) (.slice ao6 n6 cap6) _ B base wb hls7 hBw hBb (Nat.le_trans hbs hbel7.size) (Nat.le_trans hBs hbel7.size) hws7 (by omega) (by omega) hlen2.out).mono ?_
            rintro e w10 ⟨rfl, hb10, hp10⟩
            obtain ⟨⟨c2, e2⟩, hr2⟩ : ∃ r2, r2 = chkL ls (dep + 1) (c + 1) := ⟨_, rfl⟩
            have hok := chkL_ok ls (dep + 1) (c + 1)
            rw [← hr2] at hp10 hch hok ⊢
            have hbelE := hbel7.trans hb10
            have hle := cutL_le ls
            simp only at hp10 hch hok ⊢
            by_cases he2 : e2 = 0
            · subst he2
              obtain ⟨v10, hws10⟩ := hp10 rfl
              rw [if_pos rfl] at hch
              obtain ⟨_, hc2, hc4⟩ := hok rfl
              have hc4 := hc4 (by omega)
              replace hch := Lib.hid hch
              replace hr2 := Lib.hid hr2
              replace hok := Lib.hid hok
              replace hc2 := Lib.hid hc2
              replace hle := Lib.hid hle
              clear hp10 hrI
              go_wp2_with fail
              go_roundw
              case rel =>
                have hcut := cutL_snoc hkl hx
                have hci : cutI (.mk 2 0 ⟨#[]⟩ ls) = 2 :: (digs ls.length ++ cutL ls) := by rw [cutI, if_neg (by decide), if_neg (by decide)]; rfl
                have hby : L ++ [2] ++ digs ls.length ++ cutL ls = bs ++ cutL (l.take (k + 1)) := by rw [hcut, hci, ← List.append_assoc, ← hL.out]; simp
                refine ⟨k + 1, c2, v10, by omega, rfl, hc4, ?_, ?_, hbelE, Lib.hid hch.out.symm⟩
                · have := hlen2.out
                  have := hle.out
                  have := hc2.out
                  rw [← hby, List.length_append]; omega
                · rw [← hby]; exact hws10
              case measure =>
                simp [intOf]
                omega
            · have hne2 : ((e2 : Int) != 0) = true := by simpa using he2
              rw [if_neg he2] at hch
              subst hch
              clear hp10 hok hr2 hrI
              go_wp2_with fail
              all_goals (go_ret; exact ⟨rfl, hbelE, fun h => absurd h he2⟩)
      · have hf2 : formI (.mk kd nm tx ls) = false := by simpa using hf
        have hr : res = (c + 1, 3) := by rw [hch, chkI]; simp [hf2]
        subst hr
        have hbf := bad_form hf2
        clear hf hf2 hch hinv hres hx ih hls
        rcases hbf with h | h | ⟨rfl, h⟩ | ⟨rfl, h0, h⟩ | ⟨rfl, h⟩ | ⟨rfl, rfl, h⟩ | ⟨rfl, h⟩ | ⟨rfl, rfl, h⟩
        · go_wp2_with fail
          all_goals (go_ret; exact ⟨rfl, (by repeat (first | exact Below.refl _ _ | assumption | refine below_drewN ?_ _ | refine Below.drew ?_ | (refine Below.setCell ?_ (by first | omega | (simp; omega) | simp) _) | (refine Below.alloc ?_ (by first | omega | (simp; omega) | simp) _) | (refine Below.trans ?_ (Below.mono (by assumption) (by first | omega | (simp; omega) | simp))))), fun h => absurd h (by simp)⟩)
        · have h0 : decide (kd < 0) = false := by simp; omega
          have h1 : decide (2 < kd) = true := by simp; omega
          go_wp2_with fail
          all_goals (go_ret; exact ⟨rfl, (by repeat (first | exact Below.refl _ _ | assumption | refine below_drewN ?_ _ | refine Below.drew ?_ | (refine Below.setCell ?_ (by first | omega | (simp; omega) | simp) _) | (refine Below.alloc ?_ (by first | omega | (simp; omega) | simp) _) | (refine Below.trans ?_ (Below.mono (by assumption) (by first | omega | (simp; omega) | simp))))), fun h => absurd h (by simp)⟩)
        · have hS := nonempty_bytes h
          go_wp2_with fail
          all_goals (go_ret; exact ⟨rfl, (by repeat (first | exact Below.refl _ _ | assumption | refine below_drewN ?_ _ | refine Below.drew ?_ | (refine Below.setCell ?_ (by first | omega | (simp; omega) | simp) _) | (refine Below.alloc ?_ (by first | omega | (simp; omega) | simp) _) | (refine Below.trans ?_ (Below.mono (by assumption) (by first | omega | (simp; omega) | simp))))), fun h => absurd h (by simp)⟩)
        · obtain rfl := empty_bytes h0
          go_wp2_with fail
          all_goals (go_ret; exact ⟨rfl, (by repeat (first | exact Below.refl _ _ | assumption | refine below_drewN ?_ _ | refine Below.drew ?_ | (refine Below.setCell ?_ (by first | omega | (simp; omega) | simp) _) | (refine Below.alloc ?_ (by first | omega | (simp; omega) | simp) _) | (refine Below.trans ?_ (Below.mono (by assumption) (by first | omega | (simp; omega) | simp))))), fun h => absurd h (by simp)⟩)
        · have hN : (nm != 0) = true := by simpa using h
          go_wp2_with fail
          all_goals (go_ret; exact ⟨rfl, (by repeat (first | exact Below.refl _ _ | assumption | refine below_drewN ?_ _ | refine Below.drew ?_ | (refine Below.setCell ?_ (by first | omega | (simp; omega) | simp) _) | (refine Below.alloc ?_ (by first | omega | (simp; omega) | simp) _) | (refine Below.trans ?_ (Below.mono (by assumption) (by first | omega | (simp; omega) | simp))))), fun h => absurd h (by simp)⟩)
        · go_wp2_with fail
          all_goals (go_ret; exact ⟨rfl, (by repeat (first | exact Below.refl _ _ | assumption | refine below_drewN ?_ _ | refine Below.drew ?_ | (refine Below.setCell ?_ (by first | omega | (simp; omega) | simp) _) | (refine Below.alloc ?_ (by first | omega | (simp; omega) | simp) _) | (refine Below.trans ?_ (Below.mono (by assumption) (by first | omega | (simp; omega) | simp))))), fun h => absurd h (by simp)⟩)
        · have hN : (nm != 0) = true := by simpa using h
          go_wp2_with fail
          all_goals (go_ret; exact ⟨rfl, (by repeat (first | exact Below.refl _ _ | assumption | refine below_drewN ?_ _ | refine Below.drew ?_ | (refine Below.setCell ?_ (by first | omega | (simp; omega) | simp) _) | (refine Below.alloc ?_ (by first | omega | (simp; omega) | simp) _) | (refine Below.trans ?_ (Below.mono (by assumption) (by first | omega | (simp; omega) | simp))))), fun h => absurd h (by simp)⟩)
        · have hS := nonempty_bytes h
          go_wp2_with fail
          all_goals (go_ret; exact ⟨rfl, (by repeat (first | exact Below.refl _ _ | assumption | refine below_drewN ?_ _ | refine Below.drew ?_ | (refine Below.setCell ?_ (by first | omega | (simp; omega) | simp) _) | (refine Below.alloc ?_ (by first | omega | (simp; omega) | simp) _) | (refine Below.trans ?_ (Below.mono (by assumption) (by first | omega | (simp; omega) | simp))))), fun h => absurd h (by simp)⟩)
    · have hkn : k = n := by omega
      have hdr : l.drop k = [] := by rw [List.drop_eq_nil_iff, hkn, hn.out]; exact Nat.le_refl _
      have hr : res = (c, 0) := by rw [← hinv.out, hdr, chkL]
      have htk : l.take k = l := List.take_of_length_le (by rw [hkn, hn.out]; exact Nat.le_refl _)
      have hLe : L = bs ++ cutL l := by rw [hL.out, htk]
      subst hr
      rw [hLe] at hws
      clear hinv hres ih hdr htk hLe hL hbl
      go_wp2_with fail
      go_ret
      exact ⟨rfl, (by repeat (first | exact Below.refl _ _ | assumption | refine below_drewN ?_ _ | refine Below.drew ?_ | (refine Below.setCell ?_ (by first | omega | (simp; omega) | simp) _) | (refine Below.alloc ?_ (by first | omega | (simp; omega) | simp) _) | (refine Below.trans ?_ (Below.mono (by assumption) (by first | omega | (simp; omega) | simp))))), fun _ => ⟨vv, hws⟩⟩
end Go.Proofs.Ytjgiphoolfhlmaa
