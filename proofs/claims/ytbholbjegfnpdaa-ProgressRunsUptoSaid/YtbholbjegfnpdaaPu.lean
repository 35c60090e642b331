/- Progress: a tracker held against its model (alike). -/
import Derived.Test.YtbholbjegfnpdaaPt
namespace Go.Proofs.Ytbholbjegfnpdaa
open Go.RowKit Go.Shelf Go.Maps
attribute [local go_sem] Oper.semAt_some
set_option linter.unusedVariables false
set_option linter.unusedSimpArgs false

/-- The boxes of alike: the tracker's, the model's, most, the result, n. -/
def alBox (B tb mk : Nat) (most : Int) (k : Nat) : List (Nat × Value × TypeId) :=
  [(B, .pointer (some ⟨tb, 0, none⟩), 28), (B + 1, .pointer (some ⟨mk, 0, none⟩), 57), (B + 2, .int .i64 most, 3), (B + 3, .bool false, 4), (B + 4, .int .i64 k, 3)]
theorem alBox_set {B tb mk k : Nat} {most : Int} {W : World} (h : Hd (alBox B tb mk most k) W) : Hd (alBox B tb mk most (k + 1)) (W.setCell ⟨B + 4, 0, none⟩ (.int .i64 ((k + 1 : Nat) : Int))) := by
  refine h.set (v := .int .i64 k) (T := 3) (by simp [alBox]) _ (fun p hp => ?_)
  simp only [alBox, List.mem_cons, List.not_mem_nil, or_false] at hp ⊢
  rcases hp with rfl | rfl | rfl | rfl | rfl
  · exact .inr ⟨.inl rfl, by simp⟩
  · exact .inr ⟨.inr (.inl rfl), by simp⟩
  · exact .inr ⟨.inr (.inr (.inl rfl)), by simp⟩
  · exact .inr ⟨.inr (.inr (.inr (.inl rfl))), by simp⟩
  · exact .inl rfl
theorem prefix_snoc {α : Type} {a L : List α} {x : α} (h : a <+: L) (hk : a.length < L.length) (hx : L[a.length] = x) : a ++ [x] <+: L := by
  obtain ⟨t, rfl⟩ := h
  cases t with
  | nil => simp at hk
  | cons y t =>
    simp at hx
    subst hx
    exact ⟨t, by simp⟩
/-- Between two rounds. -/
def AlI (w w1 : World) (tb mk : Nat) (most : Int) {cs : List (TStamp × Int)} (L : List TCount) (pre : List (CountOf cs)) (W : World) : Prop :=
  Hd (alBox w.heap.size tb mk most pre.length) W ∧ pre.map (·.1) <+: L ∧ Below w.heap.size w W ∧ w1.heap.size ≤ W.heap.size
theorem AlI.own {w w1 : World} {tb mk : Nat} {most : Int} {cs : List (TStamp × Int)} {L : List TCount} (hw : w.heap.size ≤ w1.heap.size) : OwnFrom w1.heap.size (AlI (cs := cs) w w1 tb mk most L) := by
  rintro s X Y row ⟨h1, h2, h3, h4⟩ hg hr
  exact ⟨h1.grown hg (fun r e => (hr r e).2), h2, h3.grown hg h3.size (fun g e => by have := (hr g e).1; omega), Nat.le_trans h4 hg.size⟩

set_option maxRecDepth 100000 in
set_option maxHeartbeats 4000000 in
theorem alike_any (tb mk : Nat) (most : Int) {base : Nat} {x : TrX} {ops : List TOp} {cs : List (TStamp × Int)} (ao : Option Addr) (cap : Nat) (L : List TCount) (aL : Option Addr) (cL : Nat) (w : World) (hT : Tr w base tb x ops cs) (hz : (cs.length + 1) * 24 ≤ 140737488355328)
    (hmB : Blk w mk #[.slice ao ops.length cap, .slice aL L.length cL] 59) (hg : SlA w.heap.size 7 (ROp w.heap.size) w ao cap ops) (hs : SlA w.heap.size 4 (RCount w.heap.size) w aL cL L) (hA : IsAll cs L) :
    Calls Try.prog 18 #[.pointer (some ⟨tb, 0, none⟩), .pointer (some ⟨mk, 0, none⟩), .int .i64 most] w fun e w' => e = .returned (.bool true) ∧ Below w.heap.size w w' := by
  obtain ⟨nL, hnL⟩ : ∃ nL, nL = L.length := ⟨_, rfl⟩
  have hLc := hA.len
  have hkl := hmB.lt
  have htl := hT.blk.lt
  have hlen := hg.len
  obtain ⟨n, hn⟩ : ∃ n, n = ops.length := ⟨_, rfl⟩
  rw [← hnL, ← hn] at hmB
  rw [← hn] at hlen
  have hnd := hT.nodup
  have hmost := (okG_of_check hT.ok).most
  rw [← hn] at hmost
  replace hn := Lib.hid hn
  replace hnL := Lib.hid hnL
  replace hA := Lib.hid hA
  replace hLc := Lib.hid hLc
  refine calls_of_marks Try.func18 rfl ?_
  simp only [Try.ntmps18, List.size_toArray, List.length_cons, List.length_nil, Nat.reduceAdd, Nat.reduceSub, Array.replicate_succ, Array.replicate_zero, List.push_toArray, List.append_toArray, List.nil_append, List.cons_append]
  go_upto_region 2 with fail
  refine Code.wp_world ?_
  intro w0 hw0
  have hb0 : Below w.heap.size w w0 := by rw [hw0]; exact ((((((Below.refl w.heap.size w).alloc (Nat.le_refl _) _).alloc (by simp) _).alloc (by simp; omega) _).alloc (by simp; omega) _).alloc (by simp; omega) _)
  have hd0 : Hd (alBox w.heap.size tb mk most 0) w0 := by
    have := (((((Hd.nil w).alloc (.pointer (some ⟨tb, 0, none⟩)) 28).alloc (.pointer (some ⟨mk, 0, none⟩)) 57).alloc (.int .i64 most) 3).alloc (.bool false) 4).alloc (.int .i64 0) 3
    rw [← hw0] at this
    simp only [World.size_alloc] at this
    exact this.sub (fun p hp => by simp only [alBox, List.mem_cons, List.not_mem_nil, or_false] at hp ⊢; rcases hp with rfl | rfl | rfl | rfl | rfl <;> simp)
  have hz0 : w0.heap.size = w.heap.size + 5 := by rw [hw0]; simp
  clear hw0
  have ct := hd0.cell (b := w.heap.size) (v := .pointer (some ⟨tb, 0, none⟩)) (T := 28) (by simp [alBox])
  go_wp2_with fail
  refine (tall_any tb w0).mono ?_
  rintro e w1 ⟨rfl, hw1⟩
  have hb1 : Below w0.heap.size w0 w1 := by rw [hw1]; exact (Below.refl _ _).alloc (Nat.le_refl _) _
  have hB1 : Blk w1 (w.heap.size + 5) #[.pointer (some ⟨tb, 0, none⟩)] 28 := by rw [hw1, ← hz0]; exact Blk.new _ _ _
  have hz1 : w1.heap.size = w.heap.size + 6 := by rw [hw1]; simp [hz0]
  have hd1 := hd0.below hb1 (Nat.le_refl _)
  have hbw := hb0.trans (hb1.mono hb0.size)
  replace hz0 := Lib.hid hz0
  clear hw1 hb0 hd0 ct hb1
  dsimp only
  go_wp2_with fail
  rw [hz0.out, show w.heap.size + 1 + 1 + 1 + 1 = w.heap.size + 4 from rfl, show w.heap.size + 1 + 1 + 1 = w.heap.size + 3 from rfl, show w.heap.size + 1 + 1 = w.heap.size + 2 from rfl]
  clear hz0
  have hTw := hT.below hbw
  have hst := tall_stops (8 - 1) (by omega) (w.heap.size + 5) tb w1 (hB1.cellAt rfl) hTw hz
  refine (wpIn_wide (n := 8)).1 ?_
  refine wpIn_rangeFunc_ownH (α := CountOf cs) rfl (by omega) (gf := 40) (lb := #[.pointer (some ⟨w.heap.size + 5, 0, none⟩)]) rfl trivial (enters_of Try.func40 (by kernel_rfl) rfl)
    hst KeepIt.trans (fun W l o o' h1 h2 h3 h4 => KeepIt.put o' (by omega) h2 h3 h4) (Below.refl _ _) (fun _ => rfl)
    (AlI w w1 tb mk most L)
    (fun c pre W => (c = .exit 0 ∧ AlI w w1 tb mk most L pre W ∧ (pre.length : Int) = most) ∨ (c = .ret ∧ ¬ pre.map (·.1) <+: L))
    (AlI.own (by omega)) ?hIx ⟨hd1, List.nil_prefix, hbw, Nat.le_refl _⟩
    (fun x a' W => ∃ Bx, w1.heap.size ≤ Bx ∧ Blk W Bx (encK x.1).toArray 40 ∧ a' = { tmps := #[.pointer (some ⟨tb, 0, none⟩), .pointer (some ⟨mk, 0, none⟩), .int .i64 most, .pointer (some ⟨w.heap.size, 0, none⟩), .pointer (some ⟨w.heap.size + 1, 0, none⟩), .pointer (some ⟨w.heap.size + 2, 0, none⟩), .pointer (some ⟨w.heap.size + 3, 0, none⟩), .pointer (some ⟨w.heap.size + 4, 0, none⟩), .pointer (some ⟨Bx, 0, none⟩), undef, .pointer (some ⟨tb, 0, none⟩), .func (.func 40) #[] #[.pointer (some ⟨w.heap.size + 5, 0, none⟩)], mkK x.1, undef, undef, undef, undef, undef, undef, undef, undef, undef, undef, undef, undef, undef, undef, undef, undef, undef, undef, undef, undef, undef, undef, undef, undef, undef, undef, undef, undef, undef, undef, undef, undef, undef, undef, undef, undef, undef, undef, undef, undef, undef, undef, undef, undef, undef, undef, undef, undef, undef, undef, undef, undef, undef, undef, undef, undef, undef, undef, undef, undef, undef, undef, undef, undef, undef, undef, undef, undef, undef, undef, undef, undef, undef, undef, undef, undef, undef, undef, undef, undef, undef, undef, undef], defers := [] })
    ?hAx ?assign ?body ?done ?stop
  case hIx =>
    rintro c s X Y row (⟨rfl, h, hk⟩ | ⟨rfl, h⟩) hg hr
    · exact .inl ⟨rfl, AlI.own (by omega) s X Y row h hg hr, hk⟩
    · exact .inr ⟨rfl, h⟩
  case hAx =>
    rintro x a' s X Y row ⟨Bx, h1, h2, h3⟩ hg hr
    exact ⟨Bx, h1, h2.grownN hg (fun r e => (hr r e).2), h3⟩
  case assign =>
    rintro l pre x W K ⟨h1, h2, h3, h4⟩ hK
    obtain ⟨c, hc⟩ : ∃ c, c = x.1 := ⟨_, rfl⟩
    rw [← hc] at hK ⊢
    obtain ⟨⟨cl, ⟨ce, cr⟩⟩, cn⟩ := c
    dsimp only [mkK] at hK ⊢
    gi_wp2
    have hch : Chg (fun _ => False) W (W.alloc (.cells #[.int .i64 cl, .int .i64 ce, .int .i64 cr, .int .i64 cn] 40)) := (Chg.refl _ _).alloc _
    exact hK _ _ (keepsFrom_of_chg hch (fun _ h _ => h.elim)) (KeepIt.of_chg hch (fun _ h _ => h.elim)) ⟨h1.keep hch (fun _ _ h => h), h2, h3.alloc h3.size _, Nat.le_trans h4 hch.size⟩ ⟨W.heap.size, h4, Blk.new _ _ _, rfl⟩
  case body =>
    rintro l pre x a' W hl ⟨r, hr⟩ ⟨hH, hpx, hbW, hzW⟩ ⟨Bx, hBx, hX, rfl⟩ hlt
    obtain ⟨k, hk⟩ : ∃ k, k = pre.length := ⟨_, rfl⟩
    rw [← hk] at hH hlt
    have hkL : k < L.length := by rw [hLc.out]; exact hlt
    have hkn : k < nL := by rw [hnL.out]; exact hkL
    obtain ⟨c, hc⟩ : ∃ c, c = x.1 := ⟨_, rfl⟩
    have hxc : c.fS ∈ cs.map Prod.fst ∧ c.fN = cntC cs c.fS := by rw [hc]; exact x.2
    rw [← hc] at hX ⊢
    have hTW := hT.below hbW
    have hmW := hmB.below hbW hkl
    have hsW := hs.imp hbW (Nat.le_refl _) (fun _ _ _ h => RCount.imp h hbW (Nat.le_refl _))
    obtain ⟨b2, off2, rfl, hb2l, _⟩ := hsW.addr (by omega)
    obtain ⟨y, hy⟩ : ∃ y, L[k] = y := ⟨_, rfl⟩
    obtain ⟨e0, e1, e2, e3, _⟩ := RCount.at hsW hkL hy
    have hwc : wfS c.fS := by
      obtain ⟨p, hp, he⟩ := List.mem_map.1 hxc.1
      rw [← he]
      exact hTW.map.wf (encC p) (List.mem_map.2 ⟨p, hp, rfl⟩)
    have hyv : y.fN = cntC cs y.fS := hA.out.val y (by rw [← hy]; exact List.getElem_mem hkL)
    have ct := hH.cell (b := w.heap.size) (v := .pointer (some ⟨tb, 0, none⟩)) (T := 28) (by simp [alBox])
    have cm := hH.cell (b := w.heap.size + 1) (v := .pointer (some ⟨mk, 0, none⟩)) (T := 57) (by simp [alBox])
    have cn := hH.cell (b := w.heap.size + 4) (v := .int .i64 k) (T := 3) (by simp [alBox])
    have c1 := hmW.cellAt (i := 1) (v := .slice (some ⟨b2, off2, none⟩) nL cL) rfl
    have x0 := hX.cellAt (i := 0) (v := .int .i64 c.fS.fLoc) rfl
    have x1 := hX.cellAt (i := 1) (v := .int .i64 c.fS.fT.fEpoch) rfl
    have x2 := hX.cellAt (i := 2) (v := .int .i64 c.fS.fT.fRound) rfl
    have x3 := hX.cellAt (i := 3) (v := .int .i64 c.fN) rfl
    have d1 : decide (nL ≤ k) = false := by simp; omega
    have d2 : decide ((nL : Int) ≤ (k : Int)) = false := by simp; omega
    have w_ct := Wd.cell ct (World.lt_of_cell ct)
    have w_cm := Wd.cell cm (World.lt_of_cell cm)
    have w_cn := Wd.cell cn (World.lt_of_cell cn)
    have w_c1 := Wd.cell c1 (World.lt_of_cell c1)
    have w_x0 := Wd.cell x0 (World.lt_of_cell x0)
    have w_x1 := Wd.cell x1 (World.lt_of_cell x1)
    have w_x2 := Wd.cell x2 (World.lt_of_cell x2)
    have w_x3 := Wd.cell x3 (World.lt_of_cell x3)
    have w_e0 := Wd.cell e0 (World.lt_of_cell e0)
    have w_e1 := Wd.cell e1 (World.lt_of_cell e1)
    have w_e2 := Wd.cell e2 (World.lt_of_cell e2)
    have w_e3 := Wd.cell e3 (World.lt_of_cell e3)
    have hsw := hbW.size
    have hnz := hH.blk (b := w.heap.size + 4) (v := .int .i64 k) (T := 3) (by simp [alBox])
    have hrz := hH.blk (b := w.heap.size + 3) (v := .bool false) (T := 4) (by simp [alBox])
    by_cases hcy : c = y
    · obtain rfl := hcy
      have hpn : (pre ++ [x]).map (·.1) <+: L := by
        rw [List.map_append, List.map_singleton, ← hc]
        exact prefix_snoc hpx (by rw [List.length_map, ← hk]; exact hkL) (by simp only [List.length_map, ← hk]; exact hy)
      have hsame : ∀ W', _ := fun W' => rsame_tt c.fS.fLoc c.fS.fT.fEpoch c.fS.fT.fRound W'
      have hcnt : ∀ W', Below w.heap.size w W' → Calls Try.prog 20 #[.pointer (some ⟨tb, 0, none⟩), .agg #[.int .i64 c.fS.fLoc, .int .i64 c.fS.fT.fEpoch, .int .i64 c.fS.fT.fRound]] W' fun e w'' => e = .returned (.int .i64 c.fN) ∧ Below W'.heap.size W' w'' := fun W' hb => by
        have := count_any c.fS hwc W' (hT.below hb)
        rw [← hxc.2] at this
        exact this
      have d3 : (c.fN != c.fN) = false := by simp
      replace hsame := Lib.hid hsame
      replace hcnt := Lib.hid hcnt
      replace hpn := Lib.hid hpn
      replace hk := Lib.hid hk
      clear hy hyv hwc hxc hTW hmW hsW hX hpx hc hr
      gi_wp2
      refine round_region_below_tail _ 42 (by kernel_rfl) (fun h => by obtain ⟨a, w, h⟩ := h; exact h) (by kernel_rfl) (by kernel_rfl) ?_
      simp only [List.take_succ_cons, List.take_zero, List.drop_succ_cons, List.drop_zero]
      repeat (go_big_quiet_step (first | (go_at_call 23; exact Calls.quiet_below (hsame.out _)) | (go_at_call 20; exact Calls.quiet_below (hcnt.out _ (hbW.trans (Below.mono (Wd.h _) hsw))))))
      refine wpQuiet_nil ?_
      rintro _ ⟨u, rfl⟩
      obtain ⟨w8, hw8⟩ : ∃ w8, w8 = u.v := ⟨_, rfl⟩
      have hb8 : Below W.heap.size W w8 := by rw [hw8]; exact u.h
      rw [← hw8]
      clear hw8 w_ct w_cm w_cn w_c1 w_x0 w_x1 w_x2 w_x3 w_e0 w_e1 w_e2 w_e3
      clear u ct cm cn c1 x0 x1 x2 x3 e0 e1 e2 e3
      have hH8 := hH.below hb8 (Nat.le_refl _)
      have hbW8 := hbW.trans (hb8.mono hsw)
      have cn := hH8.cell (b := w.heap.size + 4) (v := .int .i64 k) (T := 3) (by simp [alBox])
      have cnf := hH8.frozen (b := w.heap.size + 4) (v := .int .i64 k) (T := 3) (by simp [alBox])
      have co := hH8.cell (b := w.heap.size + 2) (v := .int .i64 most) (T := 3) (by simp [alBox])
      have hset := alBox_set hH8
      rw [show ((k + 1 : Nat) : Int) = (k : Int) + 1 by omega] at hset
      have hch : Chg (fun j => W.heap.size ≤ j ∨ j = w.heap.size + 4) W (w8.setCell ⟨w.heap.size + 4, 0, none⟩ (.int .i64 ((k : Int) + 1))) := ((Chg.of_below hb8).mono (fun j _ h => .inl h)).setCell _ _ (fun _ => .inr rfl)
      have hkf : KeepsFrom w1.heap.size W (w8.setCell ⟨w.heap.size + 4, 0, none⟩ (.int .i64 ((k : Int) + 1))) := keepsFrom_of_chg hch (fun j hj hjl => by
        rcases hj with h | rfl
        · omega
        · exact ⟨_, _, _, hnz⟩)
      have hki : KeepIt (w.heap.size + 5) w1.heap.size W (w8.setCell ⟨w.heap.size + 4, 0, none⟩ (.int .i64 ((k : Int) + 1))) := KeepIt.of_chg hch (fun j hj hjl => by
        rcases hj with h | rfl
        · omega
        · exact ⟨by omega, .inl (by omega)⟩)
      have hbs : Below w.heap.size w (w8.setCell ⟨w.heap.size + 4, 0, none⟩ (.int .i64 ((k : Int) + 1))) := hbW8.setCell (p := ⟨w.heap.size + 4, 0, none⟩) (by simp) _
      have hI8 : AlI w w1 tb mk most L (pre ++ [x]) (w8.setCell ⟨w.heap.size + 4, 0, none⟩ (.int .i64 ((k : Int) + 1))) := ⟨by rw [List.length_append, List.length_singleton, ← hk.out]; exact hset, hpn.out, hbs, Nat.le_trans hzW hch.size⟩
      replace hI8 := Lib.hid hI8
      replace hkf := Lib.hid hkf
      replace hki := Lib.hid hki
      clear hset hch hbs hH hH8 hnz hrz hb8 hbW8 hbW hsame hcnt hpn
      by_cases hmk : (k : Int) + 1 = most
      · have d4 : ((k : Int) + 1 == most) = true := by simpa using hmk
        have hmk2 : (((pre ++ [x]).length : Nat) : Int) = most := by rw [List.length_append, List.length_singleton, ← hk.out]; omega
        replace hmk2 := Lib.hid hmk2
        clear hmk
        go_wp2_with fail
        gi_wp2
        exact ⟨hkf.out, .inl ⟨rfl, hI8.out, hmk2.out⟩⟩
      · have d4 : ((k : Int) + 1 == most) = false := by simpa using hmk
        clear hmk
        go_wp2_with fail
        gi_wp2
        exact ⟨hkf.out, hki.out, hI8.out⟩
    · have hfs : c.fS ≠ y.fS := fun e => hcy (by
        have h1 := hxc.2
        rw [e, ← hyv] at h1
        cases c; cases y; simp_all)
      have hnp : ¬ (pre ++ [x]).map (·.1) <+: L := fun h => hcy (by
        have := h.getElem (i := k) (by simp [hk])
        simp [hk] at this
        rw [← hy, hc, this]
        congr 1
        exact hk.symm)
      have hsame : ∀ W', _ := fun W' => rsame_any c.fS y.fS W'
      rw [show decide (c.fS = y.fS) = false by simpa using hfs] at hsame
      replace hsame := Lib.hid hsame
      replace hnp := Lib.hid hnp
      replace hk := Lib.hid hk
      clear hy hyv hwc hxc hTW hmW hsW hX hpx hc hr hcy hfs
      gi_wp2
      refine round_region_below_tail _ 42 (by kernel_rfl) (fun h => by obtain ⟨a, w, h⟩ := h; exact h) (by kernel_rfl) (by kernel_rfl) ?_
      simp only [List.take_succ_cons, List.take_zero, List.drop_succ_cons, List.drop_zero]
      repeat (go_big_quiet_step (first | (go_at_call 23; exact Calls.quiet_below (hsame.out _))))
      refine wpQuiet_nil ?_
      rintro _ ⟨u, rfl⟩
      obtain ⟨w8, hw8⟩ : ∃ w8, w8 = u.v := ⟨_, rfl⟩
      have hb8 : Below W.heap.size W w8 := by rw [hw8]; exact u.h
      rw [← hw8]
      clear hw8 w_ct w_cm w_cn w_c1 w_x0 w_x1 w_x2 w_x3 w_e0 w_e1 w_e2 w_e3
      clear u ct cm cn c1 x0 x1 x2 x3 e0 e1 e2 e3
      have hH8 := hH.below hb8 (Nat.le_refl _)
      have cr := hH8.cell (b := w.heap.size + 3) (v := .bool false) (T := 4) (by simp [alBox])
      have crf := hH8.frozen (b := w.heap.size + 3) (v := .bool false) (T := 4) (by simp [alBox])
      have hch : Chg (fun j => W.heap.size ≤ j ∨ j = w.heap.size + 3) W (w8.setCell ⟨w.heap.size + 3, 0, none⟩ (.bool false)) := ((Chg.of_below hb8).mono (fun j _ h => .inl h)).setCell _ _ (fun _ => .inr rfl)
      have hkf : KeepsFrom w1.heap.size W (w8.setCell ⟨w.heap.size + 3, 0, none⟩ (.bool false)) := keepsFrom_of_chg hch (fun j hj hjl => by
        rcases hj with h | rfl
        · omega
        · exact ⟨_, _, _, hrz⟩)
      replace hkf := Lib.hid hkf
      clear hch hH hH8 hnz hrz hb8 hbW hsame
      go_wp2_with fail
      gi_wp2
      exact ⟨hkf.out, .inr ⟨rfl, hnp.out⟩⟩
  case' done =>
    rintro D ys W hD hys ⟨hH, hpx, hbW, hzW⟩ hK
    have hyl : ys.length = nL := by
      have := hys.unique hA.out
      rw [hnL.out, ← this, List.length_map]
    rw [hyl] at hH
    obtain ⟨k, hk⟩ : ∃ k, k = nL := ⟨_, rfl⟩
    rw [← hk] at hH
    have hq : ((k : Int) != (nL : Int)) = false := by simp [hk]
    clear hys hyl hpx hk
    dsimp only
  case' stop =>
    rintro D c pre W hD ⟨L', hL', hp⟩ (⟨rfl, ⟨hH, hpx, hbW, hzW⟩, hm⟩ | ⟨_, hnp⟩) hK
    rotate_left
    · exact absurd (by rw [← hL'.unique hA.out]; exact hp) hnp
    obtain ⟨k, hk⟩ : ∃ k, k = pre.length := ⟨_, rfl⟩
    rw [← hk] at hH hm
    have hq2 : ((k : Int) != most) = false := by simp [hm]
    clear hL' hp hpx hk hm
    refine (wpIn_wide (n := 8)).2 ?_
    dsimp only
    have hqq : ((k : Int) != (nL : Int)) = false ∨ ((k : Int) != (nL : Int)) = true := by
      cases ((k : Int) != (nL : Int)) <;> simp
    rcases hqq with hq | hq
  all_goals
    have hMk := marks_one (B := w.heap.size) (w := W) (D := D) (by omega) hK
    have cm := hH.cell (b := w.heap.size + 1) (v := .pointer (some ⟨mk, 0, none⟩)) (T := 57) (by simp [alBox])
    have cn := hH.cell (b := w.heap.size + 4) (v := .int .i64 k) (T := 3) (by simp [alBox])
    have co := hH.cell (b := w.heap.size + 2) (v := .int .i64 most) (T := 3) (by simp [alBox])
    have c1 := (hmB.below hbW hkl).cellAt (i := 1) (v := .slice aL nL cL) rfl
    clear hst hK
    go_upto_region 8 with fail
    go_quiet (fail)
    go_wp2_with fail
    refine Code.wp_world ?_
    intro w6 hw6
    have hb6 : Below W.heap.size W w6 := by rw [hw6]; exact below_drewN (Below.refl _ _) _
    have hM6 : Marks w.heap.size [{ target := .collected D, args := #[] }] w6 := by rw [hw6]; exact hMk
    have hH6 := hH.below hb6 (Nat.le_refl _)
    have hbw6 := hbW.trans (hb6.mono hbW.size)
    clear hw6 hb6 hH hMk cm cn co c1 hbW hzW hq
    try clear hq2
    have hwf : ∀ s ∈ aliveL L, wfS s := fun s hs => by
      have h1 := (hA.out.alive hnd s).1 hs
      exact hT.wfk s h1
    have hal : (aliveL L).length ≤ nL := by rw [hnL.out]; exact aliveL_len L
    have hnLc : nL ≤ cs.length := by rw [hnL.out]; exact Nat.le_of_eq hLc.out
    obtain ⟨nA, hnA⟩ : ∃ nA, nA = (aliveL L).length := ⟨_, rfl⟩
    rw [← hnA] at hal
    have hAw := Lib.hid hwf
    replace hnA := Lib.hid hnA
    clear hwf
    go_loopw [9] (fun x9 wr => ∃ loc : Int, -1 ≤ loc ∧ loc ≤ n + 1 ∧ x9 = .int .i64 loc ∧ Below w6.heap.size w6 wr) (fun x9 _ => (n + 1 - intOf x9).toNat)
    case atStart => exact ⟨-1, by omega, by omega, rfl, Below.refl _ _⟩
    case round =>
      obtain ⟨loc, hl1, hl2, rfl, hbr⟩ := hrel
      have hbr0 := hbw6.trans (hbr.mono hbw6.size)
      have hszr0 := hbr0.size
      have hHr := hH6.below hbr (Nat.le_refl _)
      have ct := hHr.cell (b := w.heap.size) (v := .pointer (some ⟨tb, 0, none⟩)) (T := 28) (by simp [alBox])
      have cm := hHr.cell (b := w.heap.size + 1) (v := .pointer (some ⟨mk, 0, none⟩)) (T := 57) (by simp [alBox])
      have c0 := (hmB.below hbr0 hkl).cellAt (i := 0) (v := .slice ao n cap) rfl
      by_cases hln : loc ≤ n
      · have d1 : decide (loc ≤ (n : Int)) = true := by simpa using hln
        have hwl : wrap64 (loc + 1) = loc + 1 := IntWalk.wrap64_in _ (by omega)
        have hlnH := Lib.hid hln
        replace hwl := Lib.hid hwl
        have hFr : ∀ W', Below w.heap.size w W' → _ := fun W' hb => tfront_any loc W' (hT.below hb) hz
        have hAl : ∀ W', Below w.heap.size w W' → _ := fun W' hb => ralive_any mk (.slice ao n cap) L aL cL W' (by rw [← hnL.out]; exact hmB.below hb hkl) (hs.imp hb (Below.size hb) (fun _ _ _ h => RCount.imp h hb (Below.size hb))) (by rw [← hnL.out]; omega)
        have hRf : ∀ W' (aa : Option Addr) (ca : Nat), Below w.heap.size w W' → SlA W'.heap.size 3 (RStamp W'.heap.size) W' aa ca (aliveL L) → _ := fun W' aa ca hb hsl => rpfront_any ops cap ao (aliveL L) ca aa loc W'.heap.size W' (Nat.le_refl _) (imp_ops2 hg hb) hsl (by rw [← hnA.out]; omega)
        rw [← hn.out, ← hnA.out] at hRf
        obtain ⟨fr, hfr⟩ : ∃ fr, fr = frontT (timesS ops loc (aliveL L)) := ⟨_, rfl⟩
        rw [← hfr] at hRf
        have hfeq : ∀ f, IsFront (timesS ops loc (aliveC cs)) f → fr = f := fun f hf => by
          rw [hfr]
          exact IsFront.unique (frontT_front _) (IsFront.congr (times_mem (fun s => (hA.out.alive hnd s).symm)) hf)
        have hcells : ∀ wx, Below wr.heap.size wr wx → wx.cell? ⟨w.heap.size, 0, none⟩ = some (.pointer (some ⟨tb, 0, none⟩)) ∧ wx.cell? ⟨w.heap.size + 1, 0, none⟩ = some (.pointer (some ⟨mk, 0, none⟩)) ∧ wx.cell? ⟨mk, 0, none⟩ = some (.slice ao n cap) := fun wx hb =>
          ⟨(hb.cell (World.lt_of_cell ct)).trans ct, (hb.cell (World.lt_of_cell cm)).trans cm, (hb.cell (World.lt_of_cell c0)).trans c0⟩
        replace hFr := Lib.hid hFr
        replace hAl := Lib.hid hAl
        replace hRf := Lib.hid hRf
        replace hfeq := Lib.hid hfeq
        clear hfr hln hHr ct cm c0
        have hcl := hcells wr (Below.refl _ _)
        obtain ⟨ct, cm, c0⟩ := hcl
        replace hcells := Lib.hid hcells
        go_upto_region 13 with fail
        refine wp_region_tree (fun wx => wx.cell? ⟨w.heap.size, 0, none⟩ = some (.pointer (some ⟨tb, 0, none⟩)) ∧ wx.cell? ⟨w.heap.size + 1, 0, none⟩ = some (.pointer (some ⟨mk, 0, none⟩)) ∧ wx.cell? ⟨mk, 0, none⟩ = some (.slice ao n cap)) 12 13 (by kernel_rfl) rfl (by kernel_rfl) (fun d _ _ _ _ h => by cases d <;> exact h) (⟨ct, cm, c0⟩) (fun opz T hOps hT hTok hHeld => ?_)
        refine wpTree_world ?_
        intro wz hwz
        have b4 : Below wr.heap.size wr wz := by rw [hwz]; exact (Below.refl _ _).drew
        clear hwz ct cm c0 hHeld
        (refine wpTree_q 0 hTok hOps (by kernel_rfl) rfl rfl ⟨?_, ?_, ?_⟩; rotate_left; (focus (intro wx hSx; (try dsimp only at hSx); go_simp; (try with_reducible rfl))); (simp only [Act.put, List.setIfInBounds_toArray, List.set_cons_zero, List.set_cons_succ]))
        (refine wpTree_q 1 hTok hOps (by kernel_rfl) rfl rfl ⟨?_, ?_, ?_⟩; rotate_left; (focus (intro wx hSx; (try dsimp only at hSx); go_simp; (try with_reducible rfl))); (simp only [Act.put, List.setIfInBounds_toArray, List.set_cons_zero, List.set_cons_succ]))
        (refine wpTree_q 3 hTok hOps (by kernel_rfl) rfl rfl ⟨?_, ?_, ?_⟩; rotate_left; (focus (intro wx hSx; (try dsimp only at hSx); go_simp; (try with_reducible rfl))); (simp only [Act.put, List.setIfInBounds_toArray, List.set_cons_zero, List.set_cons_succ]))
        (refine wpTree_q 4 hTok hOps (by kernel_rfl) rfl rfl ⟨?_, ?_, ?_⟩; rotate_left; (focus (intro wx hSx; (try dsimp only at hSx); go_simp; (try with_reducible rfl))); (simp only [Act.put, List.setIfInBounds_toArray, List.set_cons_zero, List.set_cons_succ]))
        (refine wpTree_q 5 hTok hOps (by kernel_rfl) rfl rfl ⟨?_, ?_, ?_⟩; rotate_left; (focus (intro wx hSx; (try dsimp only at hSx); go_simp; (try with_reducible rfl))); (simp only [Act.put, List.setIfInBounds_toArray, List.set_cons_zero, List.set_cons_succ]))
        (refine wpTree_q 6 hTok hOps (by kernel_rfl) rfl rfl ⟨?_, ?_, ?_⟩; rotate_left; (focus (intro wx hSx; (try dsimp only at hSx); go_simp; (try with_reducible rfl))); (simp only [Act.put, List.setIfInBounds_toArray, List.set_cons_zero, List.set_cons_succ]))
        (refine wpTree_q 7 hTok hOps (by kernel_rfl) rfl rfl ⟨?_, ?_, ?_⟩; rotate_left; (focus (intro wx hSx; (try dsimp only at hSx); go_simp; (try with_reducible rfl))); (simp only [Act.put, List.setIfInBounds_toArray, List.set_cons_zero, List.set_cons_succ]))
        (refine wpTree_q 9 hTok hOps (by kernel_rfl) rfl rfl ⟨?_, ?_, ?_⟩; rotate_left; (focus (intro wx hSx; (try dsimp only at hSx); go_simp; (try with_reducible rfl))); (simp only [Act.put, List.setIfInBounds_toArray, List.set_cons_zero, List.set_cons_succ]))
        refine wpTree_1 2 hOps (by kernel_rfl) (by decide) rfl (fun K' hK => ?_)
        go_simp
        refine (hFr.out _ (hbr0.trans (b4.mono hszr0))).mono ?_
        rintro e wy ⟨vf, f, rfl, hvf, hff, bn⟩
        dsimp only
        obtain ⟨af, cf, rfl, hsf⟩ := hvf.sla
        obtain rfl := hfeq.out f hff
        replace b4 := b4.trans (bn.mono b4.size)
        have bf : Below (wy).heap.size wy wy := Below.refl _ _
        refine hK.out _ _ (hcells.out _ b4) ?_
        clear hK K' hvf hff
        try simp only [Act.put, List.setIfInBounds_toArray, List.set_cons_zero, List.set_cons_succ]
        refine wpTree_1 8 hOps (by kernel_rfl) (by decide) rfl (fun K' hK => ?_)
        go_simp
        refine (hAl.out _ (hbr0.trans (b4.mono hszr0))).mono ?_
        rintro e wx ⟨va, rfl, hva, bn⟩
        dsimp only
        obtain ⟨aa, ca, rfl, hsa⟩ := hva.sla (E := RStamp (wx).heap.size) encS_len (fun x hx => ⟨rfl, hAw.out x hx⟩)
        rw [← hnA.out]
        replace hsf := imp_times' (imp_times hsf bn) bn.size
        replace b4 := b4.trans (bn.mono b4.size)
        refine hK.out _ _ (hcells.out _ b4) ?_
        clear hK K' hva
        try simp only [Act.put, List.setIfInBounds_toArray, List.set_cons_zero, List.set_cons_succ]
        refine wpTree_1 10 hOps (by kernel_rfl) (by decide) rfl (fun K' hK => ?_)
        go_simp
        have hrf := hRf.out wx aa ca (hbr0.trans (b4.mono hszr0)) hsa
        refine hrf.mono ?_
        clear hrf
        rintro e wv ⟨vr, rfl, hvr, bn⟩
        dsimp only
        obtain ⟨ar, cr9, rfl, hsr⟩ := hvr.sla
        replace hsf := imp_times' (imp_times hsf bn) bn.size
        replace b4 := b4.trans (bn.mono b4.size)
        refine hK.out _ _ (hcells.out _ b4) ?_
        clear hK K' hvr
        try simp only [Act.put, List.setIfInBounds_toArray, List.set_cons_zero, List.set_cons_succ]
        refine wpTree_1 11 hOps (by kernel_rfl) (by decide) rfl (fun K' hK => ?_)
        go_simp
        have hss := sameTimes_any fr fr af ar cf cr9 wv (wv).heap.size (Nat.le_refl _) hsf hsr
        rw [sameTs_self] at hss
        refine hss.mono ?_
        clear hss
        rintro e wu ⟨rfl, bn⟩
        dsimp only
        replace b4 := b4.trans (bn.mono b4.size)
        refine hK.out _ _ (hcells.out _ b4) ?_
        clear hK K'
        try simp only [Act.put, List.setIfInBounds_toArray, List.set_cons_zero, List.set_cons_succ]
        refine wpTree_nil hOps (by kernel_rfl) ?_
        refine hT.out _ _ ?_
        simp only [List.drop_succ_cons, List.drop_zero]
        have hbe := hbr.trans (b4.mono hbr.size)
        clear hFr hAl hRf hcells hfeq hAw
        go_wp2_with fail
        go_roundw
        case rel => exact ⟨loc + 1, by omega, by have := hlnH.out; omega, by first | rfl | rw [hwl.out], hbe⟩
        case measure => (simp only [intOf]; try rw [hwl.out]); have := hlnH.out; omega
      · have hcr := hHr.cell (b := w.heap.size + 3) (v := .bool false) (T := 4) (by simp [alBox])
        have hrb := hHr.blk (b := w.heap.size + 3) (v := .bool false) (T := 4) (by simp [alBox])
        have hrf := hrb.frozen 0
        have d1 : decide (loc ≤ (n : Int)) = false := by simpa using hln
        have hM7 := hM6.chg (Chg.of_below hbr) (fun j hj x h => by have := (Array.getElem?_eq_some_iff.1 h).1; omega)
        clear hln
        go_wp2_with fail
        have hb5 : Below w.heap.size w (wr.setCell ⟨w.heap.size + 3, 0, none⟩ (.bool true)) := hbr0.setCell (by simp) _
        have hM8 := hM7.chg ((Chg.refl (fun j => j = w.heap.size + 3) wr).setCell ⟨w.heap.size + 3, 0, none⟩ (.bool true) (fun _ => rfl)) (fun j e x => by rw [e]; exact hrb.noDef x)
        have hr5 := (hrb.set 0 (.bool true)).cellAt (i := 0) (v := .bool true) rfl
        refine leavesM_marks _ _ hM8 hb5.size (fun w' hs => ?_)
        have hr6 := hs.cell hr5
        exact ⟨.bool true, by simp [results, Try.results18, go_sem, hr6], rfl, hb5.trans hs.below⟩
end Go.Proofs.Ytbholbjegfnpdaa
