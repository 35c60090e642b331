/- Disk: a step that is done to both disks. -/
import Derived.Test.YtjhbeahkojippaaD13
namespace Go.Proofs.Ytjhbeahkojippaa
open Go.RowKit Go.Maps
attribute [local go_sem] Oper.semAt_some
set_option linter.unusedVariables false
set_option linter.unusedSimpArgs false

theorem Dsk.types {w : World} {base b : Nat} {x : DX} {M : DM} (h : Dsk w base b x M) : ∀ k, DS x b k → ∀ cs T, Blk w k cs T → T = 64 ∨ T = 67 := by
  rintro k (rfl | rfl | rfl | hk) cs T hc
  · have h2 := h.blk
    unfold Blk at h2 hc
    rw [h2] at hc
    simp at hc
    exact .inl hc.2.symm
  · exact absurd rfl (h.mapn.ne_blk hc)
  · exact absurd rfl (h.maps.ne_blk hc)
  · rcases h.row.form with ⟨h1, _⟩ | ⟨g', cap, cells, h1, h2, _⟩
    · rw [h1] at hk; cases hk
    · rw [h1] at hk
      obtain rfl : g' = k := by simpa [Value.ownBlock] using hk
      unfold Blk at h2 hc
      rw [h2] at hc
      simp at hc
      exact .inr hc.2.symm
theorem Rf.types {w : World} {base mb : Nat} {r : RX} {M : DM} (h : Rf w base mb r M) : ∀ k, RS r mb k → ∃ cs T, Blk w k cs T ∧ (T = 45 ∨ T = 91) := by
  rintro k (rfl | hk)
  · exact ⟨_, _, h.blk, .inl rfl⟩
  · rcases h.row.form with ⟨h1, _⟩ | ⟨g', cap, cells, h1, h2, _⟩
    · rw [h1] at hk; cases hk
    · rw [h1] at hk
      obtain rfl : g' = k := by simpa [Value.ownBlock] using hk
      exact ⟨_, _, h2, .inr rfl⟩
/-- The two disks lie apart. -/
theorem sides {w : World} {base b mb : Nat} {x : DX} {r : RX} {M M2 : DM} (h : Dsk w base b x M) (h2 : Rf w base mb r M2) : ∀ k, DS x b k → ¬ RS r mb k := fun k h3 h4 => by
  obtain ⟨cs, T, hb, hT⟩ := h2.types k h4
  have := h.types k h3 cs T hb
  rcases hT with rfl | rfl <;> exact absurd this (by decide)
theorem Dsk.keepR {w w' : World} {base b mb : Nat} {x : DX} {r : RX} {M M2 : DM} (h : Dsk w base b x M) (h2 : Rf w base mb r M2) (hc : Chg (RS r mb) w w') : Dsk w' base b x M :=
  h.keep hc (fun k hk hd => sides h h2 k hd hk) (fun k hk cs hb => by
    obtain ⟨cs2, T, hb2, hT⟩ := h2.types k hk
    unfold Blk at hb hb2
    rw [hb] at hb2
    simp at hb2
    rcases hT with rfl | rfl <;> exact absurd hb2.2 (by decide))
theorem Rf.keepD {w w' : World} {base b mb : Nat} {x : DX} {r : RX} {M M2 : DM} (h2 : Rf w base mb r M2) (h : Dsk w base b x M) (hc : Chg (DS x b) w w') : Rf w' base mb r M2 :=
  h2.keep hc (fun k hk => ⟨fun e => sides h h2 k hk (.inl e), fun cs T hb => by
    have := h.types k hk cs T hb
    rcases this with rfl | rfl <;> exact ⟨by decide, by decide, by decide⟩⟩)

theorem Rf.setFails {w : World} {base mb : Nat} {r : RX} {M : DM} (h : Rf w base mb r M) (on : Bool) : Rf (w.setCell ⟨mb, 1, none⟩ (.bool on)) base mb r (failM M on) := by
  have hc : Chg (fun k => k = mb) w (w.setCell ⟨mb, 1, none⟩ (.bool on)) := (Chg.refl _ _).setCell _ _ (fun _ => rfl)
  have hU := h.noU
  exact ⟨by simpa [failM] using h.blk.set 1 (.bool on), h.now.chg hc (fun g e1 e2 => h.now.ne_blk h.blk (by decide) (by rw [e1, e2])), h.safe.chg hc (fun g e1 e2 => h.safe.ne_blk h.blk (by decide) (by rw [e1, e2])), h.row.chg hc (fun g e1 e2 => h.row.ne_blk h.blk (by decide) (by rw [e1, e2])), fun p hp => (h.filn p hp).chg hc hU, fun p hp => (h.fils p hp).chg hc hU, fun c hc3 => (h.filc c hc3).chg hc hU, h.nq, h.sq, h.chq, h.bb⟩
theorem Rf.setRoom {w : World} {base mb : Nat} {r : RX} {M : DM} (h : Rf w base mb r M) (n : Int) : Rf (w.setCell ⟨mb, 0, none⟩ (.int .i64 n)) base mb r { M with room := n } := by
  have hc : Chg (fun k => k = mb) w (w.setCell ⟨mb, 0, none⟩ (.int .i64 n)) := (Chg.refl _ _).setCell _ _ (fun _ => rfl)
  have hU := h.noU
  exact ⟨by simpa using h.blk.set 0 (.int .i64 n), h.now.chg hc (fun g e1 e2 => h.now.ne_blk h.blk (by decide) (by rw [e1, e2])), h.safe.chg hc (fun g e1 e2 => h.safe.ne_blk h.blk (by decide) (by rw [e1, e2])), h.row.chg hc (fun g e1 e2 => h.row.ne_blk h.blk (by decide) (by rw [e1, e2])), fun p hp => (h.filn p hp).chg hc hU, fun p hp => (h.fils p hp).chg hc hU, fun c hc3 => (h.filc c hc3).chg hc hU, h.nq, h.sq, h.chq, h.bb⟩

/-- A call. -/
structure SM where
  kind : Int
  name : ByteArray
  pos : Int
  data : List UInt8
  picks : List Int
/-- What it answers, and what it does. -/
def stepN (s : SM) (M : DM) : Nat × DM :=
  if s.kind = 0 then writeM M s.name s.pos s.data
  else if s.kind = 1 then cutM M s.name s.pos
  else if s.kind = 2 then removeM M s.name
  else if s.kind = 3 then syncM M s.name
  else if s.kind = 4 then (0, crashM M s.picks)
  else if s.kind = 5 then (0, failM M (s.pos != 0))
  else if s.kind = 6 then limitM M s.pos
  else (0, M)
abbrev stepM (s : SM) (M : DM) : DM := (stepN s M).2
theorem OkM.limit {N : Nat} {M : DM} (h : OkM N M) (r : Int) : OkM N (limitM M r).2 := by
  unfold limitM
  split
  · exact h
  · exact ⟨by dsimp only; omega, h.now, h.safe, h.nown, h.safen, h.chn, h.ln, h.lsc⟩
theorem OkM.step {N : Nat} {M : DM} (h : OkM N M) (s : SM) : OkM (N + 1) (stepM s M) := by
  unfold stepM stepN
  split
  · exact h.write _ _ _
  split
  · exact h.cut _ _
  split
  · exact h.remove _
  split
  · exact h.sync _
  split
  · exact (h.crash _).mono (Nat.le_succ N)
  split
  · exact OkM.mono (N := N) ⟨h.room, h.now, h.safe, h.nown, h.safen, h.chn, h.ln, h.lsc⟩ (Nat.le_succ N)
  split
  · exact (h.limit _).mono (Nat.le_succ N)
  · exact h.mono (Nat.le_succ N)
/-- Both disks behind a step. -/
def Both (w : World) (base b mb : Nat) (x : DX) (r : RX) (M' M2' : DM) (w' : World) : Prop :=
  ∃ x' r', Dsk w' base b x' M' ∧ Rf w' base mb r' M2' ∧ Chg (fun k => DS x b k ∨ RS r mb k) w w' ∧ (∀ k, DS x' b k → DS x b k ∨ w.heap.size ≤ k) ∧ ∀ k, RS r' mb k → RS r mb k ∨ w.heap.size ≤ k
section
variable {w w0 w1 w2 : World} {base b mb : Nat} {x x1 : DX} {r r1 : RX} {M M1 M2 M' M2' : DM}
theorem Both.mk2 (hD : Dsk w base b x M) (hR : Rf w base mb r M2) (h0 : Below w.heap.size w w0) (h1 : DStep w0 base b x M' w1) (h2 : RStep w1 base mb r M2' w2) : Both w base b mb x r M' M2' w2 := by
  obtain ⟨x', hD1, hc1, hn1, _⟩ := h1
  obtain ⟨r', hR2, hc2, hn2⟩ := h2
  have hR1 : Rf w1 base mb r M2 := (hR.below h0).keepD (hD.below h0) hc1
  have hs0 := h0.size
  have hs1 := hc1.size
  refine ⟨x', r', hD1.keepR hR1 hc2, hR2, ((Chg.of_below h0).mono (fun k h1 h2 => by omega)).trans ((hc1.mono (fun k _ h => .inl h)).then_new (hc2.mono (fun k _ h => .inr h)) (fun i _ h => h)), fun k hk => ?_, fun k hk => ?_⟩
  · rcases hn1 k hk with h | h
    · exact .inl h
    · exact .inr (by omega)
  · rcases hn2 k hk with h | h
    · exact .inl h
    · exact .inr (by omega)
theorem RStep.now (hR : Rf w base mb r M2) (hb : Below w.heap.size w w1) : RStep w base mb r M2 w1 := RStep.same hR hb
theorem DStep.cell {p : Addr} {v : Value} (hD : Dsk w base b x M) (h : DStep w base b x M' w1) (hp : w.cell? p = some v) (hn : ¬ DS x b p.block) : w1.cell? p = some v := by
  obtain ⟨x', _, hc, _, _⟩ := h
  exact (hc.cell (p := p) (World.lt_of_cell hp) hn).trans hp
end

set_option maxRecDepth 100000 in
set_option maxHeartbeats 4000000 in
theorem step_any {base b mb : Nat} {x : DX} {r : RX} {M M2 : DM} {N : Nat} (s : SM) (da : Option Addr) (dc : Nat) (pa : Option Addr) (pc : Nat) (w : World) (hs : s.name.size ≤ maxLen) (hD : Dsk w base b x M) (hR : Rf w base mb r M2) (hok : OkM N M) (hok2 : OkM N M2) (hN : N ≤ 1000000) (hb : base ≤ w.heap.size)
    (hd : SlA base 1 EU w da dc s.data) (hdz : s.data.length ≤ 140737488355328) (hpk : SlA base 1 (RI .i64) w pa pc s.picks) :
    Calls Try.prog 15 #[.pointer (some ⟨b, 0, none⟩), .pointer (some ⟨mb, 0, none⟩), .agg #[.int .i64 s.kind, .string s.name, .int .i64 s.pos, .slice da s.data.length dc, .slice pa s.picks.length pc]] w fun e w' =>
      (∃ ok, e = .returned (.bool ok) ∧ (M = M2 → ok = true)) ∧ Both w base b mb x r (stepM s M) (stepM s M2) w' := by
  obtain ⟨kd, nm, ps, db, picks⟩ := s
  dsimp only at hs hd hdz hpk ⊢
  have hmid : Hid (∀ wy w1 M', Below w.heap.size w wy → DStep wy base b x M' w1 → Rf w1 base mb r M2 ∧ base ≤ w1.heap.size ∧ SlA base 1 EU w1 da dc db ∧ SlA base 1 (RI .i64) w1 pa pc picks) := Lib.hid (fun wy w1 M' hy h1 => by
    obtain ⟨x', hD1, hc1, hn1, _⟩ := h1
    have hDy := hD.below hy
    have hbel : Below base w w1 := (hy.mono hb).trans (hc1.below (Nat.le_trans hb hy.size) (fun k hk e => by have := hDy.base_le k e; omega))
    exact ⟨(hR.below hy).keepD hDy hc1, Nat.le_trans (Nat.le_trans hb hy.size) hc1.size, hd.imp hbel (Nat.le_refl _) (fun cs x _ h => h), hpk.imp hbel (Nat.le_refl _) (fun cs x _ h => h)⟩)
  have hDb : Hid (∀ wy, Below w.heap.size w wy → Dsk wy base b x M ∧ base ≤ wy.heap.size ∧ SlA wy.heap.size 1 EU wy da dc db ∧ SlA wy.heap.size 1 (RI .i64) wy pa pc picks) := Lib.hid (fun wy hy =>
    ⟨hD.below hy, Nat.le_trans hb hy.size, hd.imp (hy.mono hb) (Nat.le_trans hb hy.size) (fun cs x _ h => h), hpk.imp (hy.mono hb) (Nat.le_trans hb hy.size) (fun cs x _ h => h)⟩)
  have hall : Hid (∀ w0 w1 w2 M' M2', Below w.heap.size w w0 → DStep w0 base b x M' w1 → RStep w1 base mb r M2' w2 → Both w base b mb x r M' M2' w2) := Lib.hid (fun w0 w1 w2 M' M2' h0 h1 h2 => Both.mk2 hD hR h0 h1 h2)
  have hxD : Hid (¬ DS x b w.heap.size) := Lib.hid (fun h => by have := hD.lt _ h; omega)
  have hxR : Hid (¬ RS r mb w.heap.size) := Lib.hid (fun h => by have := hR.lt _ h; omega)
  obtain ⟨dl, hdl⟩ : ∃ dl, dl = db.length := ⟨_, rfl⟩
  obtain ⟨pl, hpl⟩ : ∃ pl, pl = picks.length := ⟨_, rfl⟩
  obtain ⟨w5, hw5⟩ : ∃ w5, w5 = w.alloc (.cells #[.int .i64 kd, .string nm, .int .i64 ps, .slice da db.length dc, .slice pa picks.length pc] 47) := ⟨_, rfl⟩
  have hbox : Below w.heap.size w w5 := by rw [hw5]; exact belowAlloc _ _
  have hbx : Blk w5 w.heap.size #[.int .i64 kd, .string nm, .int .i64 ps, .slice da dl dc, .slice pa pl pc] 47 := by rw [hw5, hdl, hpl]; exact Blk.new _ _ _
  have x0 := hbx.cellAt (i := 0) (v := .int .i64 kd) rfl
  have x1 := hbx.cellAt (i := 1) (v := .string nm) rfl
  have x2 := hbx.cellAt (i := 2) (v := .int .i64 ps) rfl
  have x3 := hbx.cellAt (i := 3) (v := .slice da dl dc) rfl
  have x4 := hbx.cellAt (i := 4) (v := .slice pa pl pc) rfl
  obtain ⟨xb, hxb⟩ : ∃ xb, xb = w.heap.size := ⟨_, rfl⟩
  have hsc : Hid (∀ {w1 w2 : World} {M' : DM}, DStep w1 base b x M' w2 → Below w.heap.size w w1 → ∀ {i v}, w1.cell? ⟨xb, i, none⟩ = some v → w2.cell? ⟨xb, i, none⟩ = some v) := Lib.hid (fun h hy i v hc => DStep.cell (hD.below hy) h hc (by rw [hxb]; exact hxD.out))
  have hsr : Hid (∀ {w1 w2 : World} {M2' : DM}, RStep w1 base mb r M2' w2 → ∀ {i v}, w1.cell? ⟨xb, i, none⟩ = some v → w2.cell? ⟨xb, i, none⟩ = some v) := Lib.hid (by
    intro h i v hc
    obtain ⟨r', _, hc2, _⟩ := h
    exact (hc2.cell (p := ⟨xb, i, none⟩) (World.lt_of_cell hc) (by rw [hxb]; exact hxR.out)).trans hc)
  have hbd : Hid (Below w.heap.size w w5) := Lib.hid hbox
  rw [← hxb] at x0 x1 x2 x3 x4 hbx
  replace hdl := Lib.hid hdl
  replace hpl := Lib.hid hpl
  replace hw5 := Lib.hid hw5
  replace hxb := Lib.hid hxb
  clear hbox hbx hd hpk
  go_enter Try.func15, Try.ntmps15
  go_upto_region 1 with fail
  rw [← hw5.out, ← hxb.out]
  clear hw5
  by_cases z0 : kd = 0
  · subst z0
    have hcW : ∀ wy, Below w.heap.size w wy → Calls Try.prog 10 #[.pointer (some ⟨b, 0, none⟩), .string nm, .int .i64 ps, .slice da dl dc] wy fun e w' => e = .returned (.int .i64 (writeM M nm ps db).1) ∧ DStep wy base b x (writeM M nm ps db).2 w' := fun wy hy => by
      obtain ⟨h1, h2, h3, h4⟩ := hDb.out wy hy
      have := write_any nm ps da dc db wy hs h1 hok hN h2 h3 hdz
      rwa [← hdl.out] at this
    have hcR : ∀ wy w1 M', Below w.heap.size w wy → DStep wy base b x M' w1 → Calls Try.prog 39 #[.pointer (some ⟨mb, 0, none⟩), .string nm, .int .i64 ps, .slice da dl dc] w1 fun e w' => e = .returned (.int .i64 (writeM M2 nm ps db).1) ∧ RStep w1 base mb r (writeM M2 nm ps db).2 w' := fun wy w1 M' hy hst => by
      obtain ⟨h1, h2, h3, h4⟩ := hmid.out wy w1 M' hy hst
      have := rwrite_any nm ps da dc db w1 hs h1 hok2 hN h2 h3 hdz
      rwa [← hdl.out] at this
    replace hcW := Lib.hid hcW
    replace hcR := Lib.hid hcR
    clear hDb hmid
    go_upto_region 3 with fail
    refine wp_region_tree (fun wx => wx.cell? ⟨xb, 1, none⟩ = some (.string nm) ∧ wx.cell? ⟨xb, 2, none⟩ = some (.int .i64 ps) ∧ wx.cell? ⟨xb, 3, none⟩ = some (.slice da dl dc)) 16 18 (by kernel_rfl) rfl (by kernel_rfl) (fun d _ _ _ _ h => by cases d <;> exact h) (⟨x1, x2, x3⟩) (fun opz T hOps hT hTok hHeld => ?_)
    (refine wpTree_q 0 hTok hOps (by kernel_rfl) rfl rfl ⟨?_, ?_, ?_⟩; rotate_left; (focus (intro wx hSx; (try dsimp only at hSx); go_simp; (try with_reducible rfl))); (simp only [Act.put, List.setIfInBounds_toArray, List.set_cons_zero, List.set_cons_succ]))
    (refine wpTree_q 1 hTok hOps (by kernel_rfl) rfl rfl ⟨?_, ?_, ?_⟩; rotate_left; (focus (intro wx hSx; (try dsimp only at hSx); go_simp; (try with_reducible rfl))); (simp only [Act.put, List.setIfInBounds_toArray, List.set_cons_zero, List.set_cons_succ]))
    (refine wpTree_q 2 hTok hOps (by kernel_rfl) rfl rfl ⟨?_, ?_, ?_⟩; rotate_left; (focus (intro wx hSx; (try dsimp only at hSx); go_simp; (try with_reducible rfl))); (simp only [Act.put, List.setIfInBounds_toArray, List.set_cons_zero, List.set_cons_succ]))
    (refine wpTree_q 3 hTok hOps (by kernel_rfl) rfl rfl ⟨?_, ?_, ?_⟩; rotate_left; (focus (intro wx hSx; (try dsimp only at hSx); go_simp; (try with_reducible rfl))); (simp only [Act.put, List.setIfInBounds_toArray, List.set_cons_zero, List.set_cons_succ]))
    (refine wpTree_q 4 hTok hOps (by kernel_rfl) rfl rfl ⟨?_, ?_, ?_⟩; rotate_left; (focus (intro wx hSx; (try dsimp only at hSx); go_simp; (try with_reducible rfl))); (simp only [Act.put, List.setIfInBounds_toArray, List.set_cons_zero, List.set_cons_succ]))
    (refine wpTree_q 5 hTok hOps (by kernel_rfl) rfl rfl ⟨?_, ?_, ?_⟩; rotate_left; (focus (intro wx hSx; (try dsimp only at hSx); go_simp; (try with_reducible rfl))); (simp only [Act.put, List.setIfInBounds_toArray, List.set_cons_zero, List.set_cons_succ]))
    (refine wpTree_q 6 hTok hOps (by kernel_rfl) rfl rfl ⟨?_, ?_, ?_⟩; rotate_left; (focus (intro wx hSx; (try dsimp only at hSx); go_simp; (try with_reducible rfl))); (simp only [Act.put, List.setIfInBounds_toArray, List.set_cons_zero, List.set_cons_succ]))
    (refine wpTree_q 8 hTok hOps (by kernel_rfl) rfl rfl ⟨?_, ?_, ?_⟩; rotate_left; (focus (intro wx hSx; (try dsimp only at hSx); go_simp; (try with_reducible rfl))); (simp only [Act.put, List.setIfInBounds_toArray, List.set_cons_zero, List.set_cons_succ]))
    (refine wpTree_q 9 hTok hOps (by kernel_rfl) rfl rfl ⟨?_, ?_, ?_⟩; rotate_left; (focus (intro wx hSx; (try dsimp only at hSx); go_simp; (try with_reducible rfl))); (simp only [Act.put, List.setIfInBounds_toArray, List.set_cons_zero, List.set_cons_succ]))
    (refine wpTree_q 10 hTok hOps (by kernel_rfl) rfl rfl ⟨?_, ?_, ?_⟩; rotate_left; (focus (intro wx hSx; (try dsimp only at hSx); go_simp; (try with_reducible rfl))); (simp only [Act.put, List.setIfInBounds_toArray, List.set_cons_zero, List.set_cons_succ]))
    (refine wpTree_q 11 hTok hOps (by kernel_rfl) rfl rfl ⟨?_, ?_, ?_⟩; rotate_left; (focus (intro wx hSx; (try dsimp only at hSx); go_simp; (try with_reducible rfl))); (simp only [Act.put, List.setIfInBounds_toArray, List.set_cons_zero, List.set_cons_succ]))
    (refine wpTree_q 12 hTok hOps (by kernel_rfl) rfl rfl ⟨?_, ?_, ?_⟩; rotate_left; (focus (intro wx hSx; (try dsimp only at hSx); go_simp; (try with_reducible rfl))); (simp only [Act.put, List.setIfInBounds_toArray, List.set_cons_zero, List.set_cons_succ]))
    (refine wpTree_q 13 hTok hOps (by kernel_rfl) rfl rfl ⟨?_, ?_, ?_⟩; rotate_left; (focus (intro wx hSx; (try dsimp only at hSx); go_simp; (try with_reducible rfl))); (simp only [Act.put, List.setIfInBounds_toArray, List.set_cons_zero, List.set_cons_succ]))
    (refine wpTree_q 14 hTok hOps (by kernel_rfl) rfl rfl ⟨?_, ?_, ?_⟩; rotate_left; (focus (intro wx hSx; (try dsimp only at hSx); go_simp; (try with_reducible rfl))); (simp only [Act.put, List.setIfInBounds_toArray, List.set_cons_zero, List.set_cons_succ]))
    refine wpTree_1 7 hOps (by kernel_rfl) (by decide) rfl (fun K' hK => ?_)
    go_simp
    refine (hcW.out _ hbd.out.drew).mono ?_
    rintro e w3 ⟨rfl, hst⟩
    dsimp only
    refine hK.out _ _ ⟨hsc.out hst hbd.out.drew x1, hsc.out hst hbd.out.drew x2, hsc.out hst hbd.out.drew x3⟩ ?_
    clear hK K'
    try simp only [Act.put, List.setIfInBounds_toArray, List.set_cons_zero, List.set_cons_succ]
    refine wpTree_1 15 hOps (by kernel_rfl) (by decide) rfl (fun K' hK => ?_)
    go_simp
    refine (hcR.out _ _ _ hbd.out.drew hst).mono ?_
    rintro e w4 ⟨rfl, hst2⟩
    dsimp only
    refine hK.out _ _ ⟨hsr.out hst2 (hsc.out hst hbd.out.drew x1), hsr.out hst2 (hsc.out hst hbd.out.drew x2), hsr.out hst2 (hsc.out hst hbd.out.drew x3)⟩ ?_
    clear hK K'
    try simp only [Act.put, List.setIfInBounds_toArray, List.set_cons_zero, List.set_cons_succ]
    refine wpTree_nil hOps (by kernel_rfl) ?_
    refine hT.out _ _ ?_
    simp only [List.drop_succ_cons, List.drop_zero]
    clear hOps hT hTok hHeld
    have hfin := hall.out _ _ _ _ _ hbd.out.drew hst hst2
    replace hfin := Lib.hid hfin
    clear hst hst2 hcW hcR hsc hsr hall
    go_wp2_with fail
    go_ret
    exact ⟨⟨_, rfl, fun h => by subst h; simp⟩, hfin.out⟩
  have e0 : ((kd : Int) == 0) = false := by simp; omega
  by_cases z1 : kd = 1
  · subst z1
    have hcW : ∀ wy, Below w.heap.size w wy → Calls Try.prog 22 #[.pointer (some ⟨b, 0, none⟩), .string nm, .int .i64 ps] wy fun e w' => e = .returned (.int .i64 (cutM M nm ps).1) ∧ DStep wy base b x (cutM M nm ps).2 w' := fun wy hy => by
      obtain ⟨h1, h2, h3, h4⟩ := hDb.out wy hy
      exact cut_any nm ps wy hs h1 hok hN h2
    have hcR : ∀ wy w1 M', Below w.heap.size w wy → DStep wy base b x M' w1 → Calls Try.prog 40 #[.pointer (some ⟨mb, 0, none⟩), .string nm, .int .i64 ps] w1 fun e w' => e = .returned (.int .i64 (cutM M2 nm ps).1) ∧ RStep w1 base mb r (cutM M2 nm ps).2 w' := fun wy w1 M' hy hst => by
      obtain ⟨h1, h2, h3, h4⟩ := hmid.out wy w1 M' hy hst
      exact rcut_any nm ps w1 hs h1 hok2 hN h2
    replace hcW := Lib.hid hcW
    replace hcR := Lib.hid hcR
    clear hDb hmid
    go_upto_region 5 with fail
    refine wp_region_tree (fun wx => wx.cell? ⟨xb, 1, none⟩ = some (.string nm) ∧ wx.cell? ⟨xb, 2, none⟩ = some (.int .i64 ps)) 12 14 (by kernel_rfl) rfl (by kernel_rfl) (fun d _ _ _ _ h => by cases d <;> exact h) (⟨x1, x2⟩) (fun opz T hOps hT hTok hHeld => ?_)
    (refine wpTree_q 0 hTok hOps (by kernel_rfl) rfl rfl ⟨?_, ?_, ?_⟩; rotate_left; (focus (intro wx hSx; (try dsimp only at hSx); go_simp; (try with_reducible rfl))); (simp only [Act.put, List.setIfInBounds_toArray, List.set_cons_zero, List.set_cons_succ]))
    (refine wpTree_q 1 hTok hOps (by kernel_rfl) rfl rfl ⟨?_, ?_, ?_⟩; rotate_left; (focus (intro wx hSx; (try dsimp only at hSx); go_simp; (try with_reducible rfl))); (simp only [Act.put, List.setIfInBounds_toArray, List.set_cons_zero, List.set_cons_succ]))
    (refine wpTree_q 2 hTok hOps (by kernel_rfl) rfl rfl ⟨?_, ?_, ?_⟩; rotate_left; (focus (intro wx hSx; (try dsimp only at hSx); go_simp; (try with_reducible rfl))); (simp only [Act.put, List.setIfInBounds_toArray, List.set_cons_zero, List.set_cons_succ]))
    (refine wpTree_q 3 hTok hOps (by kernel_rfl) rfl rfl ⟨?_, ?_, ?_⟩; rotate_left; (focus (intro wx hSx; (try dsimp only at hSx); go_simp; (try with_reducible rfl))); (simp only [Act.put, List.setIfInBounds_toArray, List.set_cons_zero, List.set_cons_succ]))
    (refine wpTree_q 4 hTok hOps (by kernel_rfl) rfl rfl ⟨?_, ?_, ?_⟩; rotate_left; (focus (intro wx hSx; (try dsimp only at hSx); go_simp; (try with_reducible rfl))); (simp only [Act.put, List.setIfInBounds_toArray, List.set_cons_zero, List.set_cons_succ]))
    (refine wpTree_q 6 hTok hOps (by kernel_rfl) rfl rfl ⟨?_, ?_, ?_⟩; rotate_left; (focus (intro wx hSx; (try dsimp only at hSx); go_simp; (try with_reducible rfl))); (simp only [Act.put, List.setIfInBounds_toArray, List.set_cons_zero, List.set_cons_succ]))
    (refine wpTree_q 7 hTok hOps (by kernel_rfl) rfl rfl ⟨?_, ?_, ?_⟩; rotate_left; (focus (intro wx hSx; (try dsimp only at hSx); go_simp; (try with_reducible rfl))); (simp only [Act.put, List.setIfInBounds_toArray, List.set_cons_zero, List.set_cons_succ]))
    (refine wpTree_q 8 hTok hOps (by kernel_rfl) rfl rfl ⟨?_, ?_, ?_⟩; rotate_left; (focus (intro wx hSx; (try dsimp only at hSx); go_simp; (try with_reducible rfl))); (simp only [Act.put, List.setIfInBounds_toArray, List.set_cons_zero, List.set_cons_succ]))
    (refine wpTree_q 9 hTok hOps (by kernel_rfl) rfl rfl ⟨?_, ?_, ?_⟩; rotate_left; (focus (intro wx hSx; (try dsimp only at hSx); go_simp; (try with_reducible rfl))); (simp only [Act.put, List.setIfInBounds_toArray, List.set_cons_zero, List.set_cons_succ]))
    (refine wpTree_q 10 hTok hOps (by kernel_rfl) rfl rfl ⟨?_, ?_, ?_⟩; rotate_left; (focus (intro wx hSx; (try dsimp only at hSx); go_simp; (try with_reducible rfl))); (simp only [Act.put, List.setIfInBounds_toArray, List.set_cons_zero, List.set_cons_succ]))
    refine wpTree_1 5 hOps (by kernel_rfl) (by decide) rfl (fun K' hK => ?_)
    go_simp
    refine (hcW.out _ hbd.out.drew).mono ?_
    rintro e w3 ⟨rfl, hst⟩
    dsimp only
    refine hK.out _ _ ⟨hsc.out hst hbd.out.drew x1, hsc.out hst hbd.out.drew x2⟩ ?_
    clear hK K'
    try simp only [Act.put, List.setIfInBounds_toArray, List.set_cons_zero, List.set_cons_succ]
    refine wpTree_1 11 hOps (by kernel_rfl) (by decide) rfl (fun K' hK => ?_)
    go_simp
    refine (hcR.out _ _ _ hbd.out.drew hst).mono ?_
    rintro e w4 ⟨rfl, hst2⟩
    dsimp only
    refine hK.out _ _ ⟨hsr.out hst2 (hsc.out hst hbd.out.drew x1), hsr.out hst2 (hsc.out hst hbd.out.drew x2)⟩ ?_
    clear hK K'
    try simp only [Act.put, List.setIfInBounds_toArray, List.set_cons_zero, List.set_cons_succ]
    refine wpTree_nil hOps (by kernel_rfl) ?_
    refine hT.out _ _ ?_
    simp only [List.drop_succ_cons, List.drop_zero]
    clear hOps hT hTok hHeld
    have hfin := hall.out _ _ _ _ _ hbd.out.drew hst hst2
    replace hfin := Lib.hid hfin
    clear hst hst2 hcW hcR hsc hsr hall
    go_wp2_with fail
    go_ret
    exact ⟨⟨_, rfl, fun h => by subst h; simp⟩, hfin.out⟩
  have e1 : ((kd : Int) == 1) = false := by simp; omega
  by_cases z2 : kd = 2
  · subst z2
    have hcW : ∀ wy, Below w.heap.size w wy → Calls Try.prog 23 #[.pointer (some ⟨b, 0, none⟩), .string nm] wy fun e w' => e = .returned (.int .i64 (removeM M nm).1) ∧ DStep wy base b x (removeM M nm).2 w' := fun wy hy => by
      obtain ⟨h1, h2, h3, h4⟩ := hDb.out wy hy
      exact remove_any nm wy hs h1 hok hN h2
    have hcR : ∀ wy w1 M', Below w.heap.size w wy → DStep wy base b x M' w1 → Calls Try.prog 41 #[.pointer (some ⟨mb, 0, none⟩), .string nm] w1 fun e w' => e = .returned (.int .i64 (removeM M2 nm).1) ∧ RStep w1 base mb r (removeM M2 nm).2 w' := fun wy w1 M' hy hst => by
      obtain ⟨h1, h2, h3, h4⟩ := hmid.out wy w1 M' hy hst
      exact rremove_any nm w1 hs h1 hok2 hN h2
    replace hcW := Lib.hid hcW
    replace hcR := Lib.hid hcR
    clear hDb hmid
    go_upto_region 7 with fail
    refine wp_region_tree (fun wx => wx.cell? ⟨xb, 1, none⟩ = some (.string nm)) 8 10 (by kernel_rfl) rfl (by kernel_rfl) (fun d _ _ _ _ h => by cases d <;> exact h) (x1) (fun opz T hOps hT hTok hHeld => ?_)
    (refine wpTree_q 0 hTok hOps (by kernel_rfl) rfl rfl ⟨?_, ?_, ?_⟩; rotate_left; (focus (intro wx hSx; (try dsimp only at hSx); go_simp; (try with_reducible rfl))); (simp only [Act.put, List.setIfInBounds_toArray, List.set_cons_zero, List.set_cons_succ]))
    (refine wpTree_q 1 hTok hOps (by kernel_rfl) rfl rfl ⟨?_, ?_, ?_⟩; rotate_left; (focus (intro wx hSx; (try dsimp only at hSx); go_simp; (try with_reducible rfl))); (simp only [Act.put, List.setIfInBounds_toArray, List.set_cons_zero, List.set_cons_succ]))
    (refine wpTree_q 2 hTok hOps (by kernel_rfl) rfl rfl ⟨?_, ?_, ?_⟩; rotate_left; (focus (intro wx hSx; (try dsimp only at hSx); go_simp; (try with_reducible rfl))); (simp only [Act.put, List.setIfInBounds_toArray, List.set_cons_zero, List.set_cons_succ]))
    (refine wpTree_q 4 hTok hOps (by kernel_rfl) rfl rfl ⟨?_, ?_, ?_⟩; rotate_left; (focus (intro wx hSx; (try dsimp only at hSx); go_simp; (try with_reducible rfl))); (simp only [Act.put, List.setIfInBounds_toArray, List.set_cons_zero, List.set_cons_succ]))
    (refine wpTree_q 5 hTok hOps (by kernel_rfl) rfl rfl ⟨?_, ?_, ?_⟩; rotate_left; (focus (intro wx hSx; (try dsimp only at hSx); go_simp; (try with_reducible rfl))); (simp only [Act.put, List.setIfInBounds_toArray, List.set_cons_zero, List.set_cons_succ]))
    (refine wpTree_q 6 hTok hOps (by kernel_rfl) rfl rfl ⟨?_, ?_, ?_⟩; rotate_left; (focus (intro wx hSx; (try dsimp only at hSx); go_simp; (try with_reducible rfl))); (simp only [Act.put, List.setIfInBounds_toArray, List.set_cons_zero, List.set_cons_succ]))
    refine wpTree_1 3 hOps (by kernel_rfl) (by decide) rfl (fun K' hK => ?_)
    go_simp
    refine (hcW.out _ hbd.out.drew).mono ?_
    rintro e w3 ⟨rfl, hst⟩
    dsimp only
    refine hK.out _ _ (hsc.out hst hbd.out.drew x1) ?_
    clear hK K'
    try simp only [Act.put, List.setIfInBounds_toArray, List.set_cons_zero, List.set_cons_succ]
    refine wpTree_1 7 hOps (by kernel_rfl) (by decide) rfl (fun K' hK => ?_)
    go_simp
    refine (hcR.out _ _ _ hbd.out.drew hst).mono ?_
    rintro e w4 ⟨rfl, hst2⟩
    dsimp only
    refine hK.out _ _ (hsr.out hst2 (hsc.out hst hbd.out.drew x1)) ?_
    clear hK K'
    try simp only [Act.put, List.setIfInBounds_toArray, List.set_cons_zero, List.set_cons_succ]
    refine wpTree_nil hOps (by kernel_rfl) ?_
    refine hT.out _ _ ?_
    simp only [List.drop_succ_cons, List.drop_zero]
    clear hOps hT hTok hHeld
    have hfin := hall.out _ _ _ _ _ hbd.out.drew hst hst2
    replace hfin := Lib.hid hfin
    clear hst hst2 hcW hcR hsc hsr hall
    go_wp2_with fail
    go_ret
    exact ⟨⟨_, rfl, fun h => by subst h; simp⟩, hfin.out⟩
  have e2 : ((kd : Int) == 2) = false := by simp; omega
  by_cases z3 : kd = 3
  · subst z3
    have hcW : ∀ wy, Below w.heap.size w wy → Calls Try.prog 11 #[.pointer (some ⟨b, 0, none⟩), .string nm] wy fun e w' => e = .returned (.int .i64 (syncM M nm).1) ∧ DStep wy base b x (syncM M nm).2 w' := fun wy hy => by
      obtain ⟨h1, h2, h3, h4⟩ := hDb.out wy hy
      exact sync_any nm wy hs h1 hok hN h2
    have hcR : ∀ wy w1 M', Below w.heap.size w wy → DStep wy base b x M' w1 → Calls Try.prog 42 #[.pointer (some ⟨mb, 0, none⟩), .string nm] w1 fun e w' => e = .returned (.int .i64 (syncM M2 nm).1) ∧ RStep w1 base mb r (syncM M2 nm).2 w' := fun wy w1 M' hy hst => by
      obtain ⟨h1, h2, h3, h4⟩ := hmid.out wy w1 M' hy hst
      exact rsync_any nm w1 hs h1 hok2 hN h2
    replace hcW := Lib.hid hcW
    replace hcR := Lib.hid hcR
    clear hDb hmid
    go_upto_region 9 with fail
    refine wp_region_tree (fun wx => wx.cell? ⟨xb, 1, none⟩ = some (.string nm)) 8 10 (by kernel_rfl) rfl (by kernel_rfl) (fun d _ _ _ _ h => by cases d <;> exact h) (x1) (fun opz T hOps hT hTok hHeld => ?_)
    (refine wpTree_q 0 hTok hOps (by kernel_rfl) rfl rfl ⟨?_, ?_, ?_⟩; rotate_left; (focus (intro wx hSx; (try dsimp only at hSx); go_simp; (try with_reducible rfl))); (simp only [Act.put, List.setIfInBounds_toArray, List.set_cons_zero, List.set_cons_succ]))
    (refine wpTree_q 1 hTok hOps (by kernel_rfl) rfl rfl ⟨?_, ?_, ?_⟩; rotate_left; (focus (intro wx hSx; (try dsimp only at hSx); go_simp; (try with_reducible rfl))); (simp only [Act.put, List.setIfInBounds_toArray, List.set_cons_zero, List.set_cons_succ]))
    (refine wpTree_q 2 hTok hOps (by kernel_rfl) rfl rfl ⟨?_, ?_, ?_⟩; rotate_left; (focus (intro wx hSx; (try dsimp only at hSx); go_simp; (try with_reducible rfl))); (simp only [Act.put, List.setIfInBounds_toArray, List.set_cons_zero, List.set_cons_succ]))
    (refine wpTree_q 4 hTok hOps (by kernel_rfl) rfl rfl ⟨?_, ?_, ?_⟩; rotate_left; (focus (intro wx hSx; (try dsimp only at hSx); go_simp; (try with_reducible rfl))); (simp only [Act.put, List.setIfInBounds_toArray, List.set_cons_zero, List.set_cons_succ]))
    (refine wpTree_q 5 hTok hOps (by kernel_rfl) rfl rfl ⟨?_, ?_, ?_⟩; rotate_left; (focus (intro wx hSx; (try dsimp only at hSx); go_simp; (try with_reducible rfl))); (simp only [Act.put, List.setIfInBounds_toArray, List.set_cons_zero, List.set_cons_succ]))
    (refine wpTree_q 6 hTok hOps (by kernel_rfl) rfl rfl ⟨?_, ?_, ?_⟩; rotate_left; (focus (intro wx hSx; (try dsimp only at hSx); go_simp; (try with_reducible rfl))); (simp only [Act.put, List.setIfInBounds_toArray, List.set_cons_zero, List.set_cons_succ]))
    refine wpTree_1 3 hOps (by kernel_rfl) (by decide) rfl (fun K' hK => ?_)
    go_simp
    refine (hcW.out _ hbd.out.drew).mono ?_
    rintro e w3 ⟨rfl, hst⟩
    dsimp only
    refine hK.out _ _ (hsc.out hst hbd.out.drew x1) ?_
    clear hK K'
    try simp only [Act.put, List.setIfInBounds_toArray, List.set_cons_zero, List.set_cons_succ]
    refine wpTree_1 7 hOps (by kernel_rfl) (by decide) rfl (fun K' hK => ?_)
    go_simp
    refine (hcR.out _ _ _ hbd.out.drew hst).mono ?_
    rintro e w4 ⟨rfl, hst2⟩
    dsimp only
    refine hK.out _ _ (hsr.out hst2 (hsc.out hst hbd.out.drew x1)) ?_
    clear hK K'
    try simp only [Act.put, List.setIfInBounds_toArray, List.set_cons_zero, List.set_cons_succ]
    refine wpTree_nil hOps (by kernel_rfl) ?_
    refine hT.out _ _ ?_
    simp only [List.drop_succ_cons, List.drop_zero]
    clear hOps hT hTok hHeld
    have hfin := hall.out _ _ _ _ _ hbd.out.drew hst hst2
    replace hfin := Lib.hid hfin
    clear hst hst2 hcW hcR hsc hsr hall
    go_wp2_with fail
    go_ret
    exact ⟨⟨_, rfl, fun h => by subst h; simp⟩, hfin.out⟩
  have e3 : ((kd : Int) == 3) = false := by simp; omega
  by_cases z4 : kd = 4
  · subst z4
    obtain ⟨h1, h2, h3, h4⟩ := hDb.out w5 hbd.out
    have hcW := crash_any picks pa pc w5 h1 hok hN h2 h4
    rw [← hpl.out] at hcW
    replace hcW := Lib.hid hcW
    clear h1 h2 h3 h4 hDb
    go_upto_region 11 with fail
    go_wp2_with fail
    refine hcW.out.mono ?_
    rintro e w3 ⟨⟨v, rfl⟩, x', g1, g2, g3, g4, _⟩
    have hst : DStep w5 base b x (crashM M picks) w3 := ⟨x', g1, g2, g3, g4⟩
    obtain ⟨h1, h2, h3, h4⟩ := hmid.out _ _ _ hbd.out hst
    have hcR := rcrash_any picks pa pc w3 h1 hok2 hN h2 h4
    rw [← hpl.out] at hcR
    have x43 := hsc.out hst hbd.out x4
    replace hcR := Lib.hid hcR
    clear h1 h2 h3 h4 hmid g1 g2 g3 g4
    dsimp only
    go_wp2_with fail
    refine hcR.out.mono ?_
    rintro e w4 ⟨⟨v2, rfl⟩, hst2⟩
    have hfin := hall.out _ _ _ _ _ hbd.out hst hst2
    replace hfin := Lib.hid hfin
    clear hst hst2 hcW hcR hsc hsr hall
    dsimp only
    go_wp2_with fail
    go_ret
    exact ⟨⟨_, rfl, fun h => rfl⟩, hfin.out⟩
  have e4 : ((kd : Int) == 4) = false := by simp; omega
  by_cases z5 : kd = 5
  · subst z5
    obtain ⟨h1, h2, h3, h4⟩ := hDb.out w5 hbd.out
    have hcW := fail_any (ps != 0) w5 h1
    replace hcW := Lib.hid hcW
    clear h1 h2 h3 h4 hDb
    go_upto_region 14 with fail
    go_wp2_with fail
    refine hcW.out.mono ?_
    rintro e w3 ⟨⟨v, rfl⟩, g1, g2⟩
    have hst : DStep w5 base b x (failM M (ps != 0)) w3 := ⟨x, g1, g2, fun k hk => .inl hk, NewF.refl _ _⟩
    obtain ⟨h1, h2, h3, h4⟩ := hmid.out _ _ _ hbd.out hst
    have x23 := hsc.out hst hbd.out x2
    have hm1 : w3.cell? ⟨mb, 1, none⟩ = some (.bool M2.fails) := h1.blk.cellAt rfl
    have hf1 := h1.blk.frozen 1
    have hml := h1.blk.lt
    have hst2 : RStep w3 base mb r (failM M2 (ps != 0)) (w3.setCell ⟨mb, 1, none⟩ (.bool (ps != 0))) := ⟨r, h1.setFails _, (Chg.refl _ _).setCell _ _ (fun _ => .inl rfl), fun k hk => .inl hk⟩
    have hfin := hall.out _ _ _ _ _ hbd.out hst hst2
    replace hfin := Lib.hid hfin
    clear h1 h2 h3 h4 hmid g1 g2 hst hst2 hsc hsr hall
    dsimp only
    go_wp2_with fail
    go_ret
    exact ⟨⟨_, rfl, fun h => rfl⟩, hfin.out⟩
  have e5 : ((kd : Int) == 5) = false := by simp; omega
  by_cases z6 : kd = 6
  · subst z6
    obtain ⟨h1, h2, h3, h4⟩ := hDb.out w5 hbd.out
    have hcW := limit_any ps w5 h1
    replace hcW := Lib.hid hcW
    clear h1 h2 h3 h4 hDb
    go_upto_region 17 with fail
    go_wp2_with fail
    refine hcW.out.mono ?_
    rintro e w3 ⟨rfl, g1, g2⟩
    have hst : DStep w5 base b x (limitM M ps).2 w3 := ⟨x, g1, g2, fun k hk => .inl hk, NewF.refl _ _⟩
    obtain ⟨h1, h2, h3, h4⟩ := hmid.out _ _ _ hbd.out hst
    have x23 := hsc.out hst hbd.out x2
    by_cases hr : ps < 0 ∨ 1073741824 < ps
    · have hl1 : limitM M ps = (1, M) := by unfold limitM; rw [if_pos hr]
      have hl2 : limitM M2 ps = (1, M2) := by unfold limitM; rw [if_pos hr]
      have hst2 : RStep w3 base mb r (limitM M2 ps).2 w3 := by rw [hl2]; exact RStep.same h1 (Below.refl _ _)
      have hfin := hall.out _ _ _ _ _ hbd.out hst hst2
      rw [hl1]
      replace hfin := Lib.hid hfin
      clear h1 h2 h3 h4 hmid g1 g2 hst hst2 hsc hsr hall hl1 hl2 hcW
      rcases hr with hr | hr
      · have d1 : decide (ps < 0) = true := by simp; omega
        dsimp only
        go_wp2_with fail
        go_ret
        exact ⟨⟨_, rfl, fun h => rfl⟩, hfin.out⟩
      · have d1 : decide (ps < 0) = false := by simp; omega
        have d2 : decide (1073741824 < ps) = true := by simp; omega
        dsimp only
        go_wp2_with fail
        go_ret
        exact ⟨⟨_, rfl, fun h => rfl⟩, hfin.out⟩
    · have hl1 : limitM M ps = (0, { M with room := ps }) := by unfold limitM; rw [if_neg hr]
      have hl2 : limitM M2 ps = (0, { M2 with room := ps }) := by unfold limitM; rw [if_neg hr]
      have hm0 : w3.cell? ⟨mb, 0, none⟩ = some (.int .i64 M2.room) := h1.blk.cellAt rfl
      have hf0 := h1.blk.frozen 0
      have hml := h1.blk.lt
      have hst2 : RStep w3 base mb r (limitM M2 ps).2 (w3.setCell ⟨mb, 0, none⟩ (.int .i64 ps)) := by rw [hl2]; exact ⟨r, h1.setRoom _, (Chg.refl _ _).setCell _ _ (fun _ => .inl rfl), fun k hk => .inl hk⟩
      have hfin := hall.out _ _ _ _ _ hbd.out hst hst2
      rw [hl1]
      replace hfin := Lib.hid hfin
      clear h1 h2 h3 h4 hmid g1 g2 hst hst2 hsc hsr hall hl1 hl2 hcW
      have d1 : decide (ps < 0) = false := by simp; omega
      have d2 : decide (1073741824 < ps) = false := by simp; omega
      clear hr
      dsimp only
      go_wp2_with fail
      go_ret
      exact ⟨⟨_, rfl, fun h => rfl⟩, hfin.out⟩
  have e6 : ((kd : Int) == 6) = false := by simp; omega
  have hst : DStep w5 base b x M w5 := DStep.same (hDb.out w5 hbd.out).1 (Below.refl _ _)
  have hst2 : RStep w5 base mb r M2 w5 := RStep.same (hmid.out _ _ _ hbd.out hst).1 (Below.refl _ _)
  have hfin : Both w base b mb x r (stepM ⟨kd, nm, ps, db, picks⟩ M) (stepM ⟨kd, nm, ps, db, picks⟩ M2) w5 := by
    unfold stepM stepN
    dsimp only
    simp only [if_neg z0, if_neg z1, if_neg z2, if_neg z3, if_neg z4, if_neg z5, if_neg z6]
    exact hall.out _ _ _ _ _ hbd.out hst hst2
  replace hfin := Lib.hid hfin
  clear hst hst2 hmid hDb hsc hsr hall
  go_wp2_with fail
  go_ret
  exact ⟨⟨_, rfl, fun h => rfl⟩, hfin.out⟩
end Go.Proofs.Ytjhbeahkojippaa
