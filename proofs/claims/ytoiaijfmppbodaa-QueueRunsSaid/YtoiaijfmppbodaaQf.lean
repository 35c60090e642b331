/- QueueRuns: the walk. -/
import Derived.Test.YtoiaijfmppbodaaQe
import Derived.IntWalk
namespace Go.Proofs.Ytoiaijfmppbodaa
open Go.RowKit Go.Shelf
attribute [local go_sem] Oper.semAt_some
set_option linter.unusedVariables false

theorem blkT {w : World} {b : Nat} {c1 c2 : Array Value} {T1 T2 : TypeId} (h : Blk w b c1 T1) (k : Blk w b c2 T2) : c1 = c2 ∧ T1 = T2 := by
  unfold Blk at h k
  rw [h] at k
  simpa using k

theorem _root_.Go.Marks.below {B : Nat} {ds : List Deferred} {w w' : World} (h : Marks B ds w) (k : Below w.heap.size w w') : Marks B ds w' :=
  h.chg (Chg.of_below k) (fun j hj x e => by have := (Array.getElem?_eq_some_iff.1 e).1; omega)
/-- What begins with 'pre ++ [x]' has x there. -/
theorem pairs_pre {zs : List Int} {pre : List (Nat × Int)} {x : Nat × Int} (h : (pre ++ [x]) <+: pairs zs) (hl : pre.length < zs.length) : x = (pre.length, zs[pre.length]) := by
  obtain ⟨r, hr⟩ := h
  have h1 : (pairs zs)[pre.length]? = some x := by rw [← hr]; simp
  rw [List.getElem?_eq_getElem (by rw [pairs_len]; exact hl), pairs_get _ _ _ hl] at h1
  exact (Option.some.inj h1).symm

theorem KpR.of_chg {n0 : Nat} {S : Nat → Prop} {W W' : World} (h : Chg S W W') (hS : ∀ j, S j → j < n0) : KpR n0 W W' :=
  ⟨h.size, fun k o h1 _ h3 => by
    rw [h.block k (Array.getElem?_eq_some_iff.1 h3).1 (fun s => by have := hS k s; omega)]
    exact h3⟩

/-- The state of QueueRuns: what lies in the program's queue and in the document's. -/
structure RS2 (w : World) (b rb mb mx ib cr i : Nat) (zq zm : List Int) (wr : World) : Prop where
  hd : Hd [(w.heap.size, .bool false, 4), (mx, .pointer (some ⟨mb, 0, none⟩), 38), (ib, .int .i64 i, 3)] wr
  q : QL wr 61 3 b rb cr (zq.map (Value.int .i64 ·))
  m : ∃ v, MQ wr mb (rb + 1) cr v zm
  bel : Below w.heap.size w wr
  hb : w.heap.size < b
  hr : w.heap.size < rb
  hm : w.heap.size < mb
  hx : w.heap.size < mx
  hib : rb < ib
abbrev RSt (w : World) (b rb mb mx ib cr i : Nat) (zs : List Int) (wr : World) : Prop := RS2 w b rb mb mx ib cr i zs zs wr
namespace RS2
variable {w : World} {b rb mb mx ib cr i : Nat} {zs zq zm zq' zm' : List Int} {wr wr' : World}
theorem below (h : RS2 w b rb mb mx ib cr i zq zm wr) (k : Below wr.heap.size wr wr') : RS2 w b rb mb mx ib cr i zq zm wr' := by
  obtain ⟨f, ring, hs, hx⟩ := h.q
  obtain ⟨v, hm⟩ := h.m
  exact ⟨h.hd.below k (Nat.le_refl _), ⟨f, ring, hs.below k hs.hb.lt hs.hr.lt, hx⟩, ⟨v, hm.blk.below k hm.blk.lt, hm.row.below k (Nat.le_refl _)⟩, h.bel.trans (k.mono h.bel.size), h.hb, h.hr, h.hm, h.hx, h.hib⟩
theorem lts (h : RS2 w b rb mb mx ib cr i zq zm wr) : b < wr.heap.size ∧ rb < wr.heap.size ∧ mb < wr.heap.size ∧ mx < wr.heap.size ∧ ib < wr.heap.size ∧ w.heap.size < wr.heap.size := by
  obtain ⟨f, ring, hs, hx⟩ := h.q
  obtain ⟨v, hm⟩ := h.m
  exact ⟨hs.hb.lt, hs.hr.lt, hm.blk.lt, h.hd.lt (b := mx) (v := .pointer (some ⟨mb, 0, none⟩)) (T := 38) (by simp), h.hd.lt (b := ib) (v := .int .i64 i) (T := 3) (by simp), h.hd.lt (b := w.heap.size) (v := .bool false) (T := 4) (by simp)⟩
/-- The program's queue turns. -/
theorem putq (h : RS2 w b rb mb mx ib cr i zq zm wr) (hq : QL wr' 61 3 b rb cr (zq'.map (Value.int .i64 ·))) (k : Chg (BothQ b rb) wr wr') : RS2 w b rb mb mx ib cr i zq' zm wr' := by
  obtain ⟨f, ring, hs, hx⟩ := h.q
  obtain ⟨v, hm⟩ := h.m
  have hnb : ∀ (c : Nat) (cs : Array Value) (T : TypeId), Blk wr c cs T → T ≠ 61 → c ≠ b := fun c cs T hc hT e => by subst e; exact hT (blkT hc hs.hb).2
  have hnr : ∀ (c : Nat) (cs : Array Value) (T : TypeId), Blk wr c cs T → T ≠ 3 → c ≠ rb := fun c cs T hc hT e => by subst e; exact hT (blkT hc hs.hr).2
  have h3 := h.hib
  refine ⟨h.hd.keep k (fun p hp => ?_), hq, ⟨v, hm.blk.chg k ?_, hm.row.chg k (fun g e => ?_)⟩, h.bel.trans (q_below k h.bel.size (Nat.le_of_lt h.hb) (Nat.le_of_lt h.hr)), h.hb, h.hr, h.hm, h.hx, h.hib⟩
  · have hp0 := hp
    simp only [List.mem_cons, List.not_mem_nil, or_false] at hp
    rcases hp with rfl | rfl | rfl
    · exact fun e => by rcases e with e | e <;> simp only at e <;> (have := h.hb; have := h.hr; omega)
    · have hb2 := h.hd _ hp0
      exact fun e => e.elim (hnb _ _ _ hb2 (by simp)) (hnr _ _ _ hb2 (by simp))
    · have hb2 := h.hd _ hp0
      exact fun e => e.elim (hnb _ _ _ hb2 (by simp)) (fun e => by simp only at e; omega)
  · exact fun e => e.elim (hnb _ _ _ hm.blk (by decide)) (hnr _ _ _ hm.blk (by decide))
  · have hg := hm.row.lt g e
    exact fun e2 => by
      rcases e2 with e2 | e2
      · exact hm.row.ne_blk hs.hb (by decide) (by rw [e, e2])
      · omega
theorem noDef (h : RS2 w b rb mb mx ib cr i zq zm wr) {j : Nat} (hj : BothQ b rb j) (x : Option (List Deferred)) : wr.heap[j]? ≠ some (.deferred x) := by
  obtain ⟨f, ring, hs, hx⟩ := h.q
  rcases hj with rfl | rfl
  · exact hs.hb.noDef x
  · exact hs.hr.noDef x
/-- The next i, in a box of its own. -/
theorem nextI (h : RS2 w b rb mb mx ib cr i zq zm wr) : RS2 w b rb mb mx wr.heap.size cr (i + 1) zq zm (wr.alloc (.cells #[.int .i64 ((i : Int) + 1)] 3)) := by
  have h2 := h.below (belowAlloc wr (.cells #[.int .i64 ((i : Int) + 1)] 3))
  have h3 := h.lts
  refine ⟨?_, h2.q, h2.m, h2.bel, h.hb, h.hr, h.hm, h.hx, h3.2.1⟩
  intro p hp
  simp only [List.mem_cons, List.not_mem_nil, or_false] at hp
  rcases hp with rfl | rfl | rfl
  · exact h2.hd _ (by simp)
  · exact h2.hd _ (by simp)
  · exact Blk.new wr #[.int .i64 ((i : Int) + 1)] 3
/-- The document's queue turns. -/
theorem putm {v' : Value} (h : RS2 w b rb mb mx ib cr i zq zm wr) (hm' : MQ wr' mb (rb + 1) cr v' zm') (k : Chg (fun j => j = mb) wr wr') : RS2 w b rb mb mx ib cr i zq zm' wr' := by
  obtain ⟨f, ring, hs, hx⟩ := h.q
  obtain ⟨v, hm⟩ := h.m
  have hnm : ∀ (c : Nat) (cs : Array Value) (T : TypeId), Blk wr c cs T → T ≠ 40 → c ≠ mb := fun c cs T hc hT e => by subst e; exact hT (blkT hc hm.blk).2
  refine ⟨h.hd.keep k (fun p hp => ?_), ⟨f, ring, hs.chg k (hnm _ _ _ hs.hb (by decide)) (hnm _ _ _ hs.hr (by decide)), hx⟩, ⟨v', hm'⟩, h.bel.trans (k.below h.bel.size (fun j hj e => by have := h.hm; omega)), h.hb, h.hr, h.hm, h.hx, h.hib⟩
  have hp0 := hp
  simp only [List.mem_cons, List.not_mem_nil, or_false] at hp
  have hb2 := h.hd _ hp0
  rcases hp with rfl | rfl | rfl <;> exact hnm _ _ _ hb2 (by simp)
end RS2

set_option maxRecDepth 100000 in
set_option maxHeartbeats 4000000 in
theorem runs_bad (a0 : Int) (hc : a0 < 1 ∨ 64 < a0) (sv : Value) (w : World) :
    Calls Try.prog 4 #[.int .i64 a0, sv] w fun e w' => e = .returned (.bool true) ∧ Below w.heap.size w w' := by
  have hn := fun w => Qint.new_bad a0 w hc
  refine calls_of_marks Try.func4 rfl ?_
  simp only [Try.ntmps4, List.size_toArray, List.length_cons, List.length_nil, Nat.reduceAdd, Nat.reduceSub, Array.replicate_succ, Array.replicate_zero, List.push_toArray, List.append_toArray, List.nil_append, List.cons_append]
  go_wp2_with fail
  refine (known_any _).mono ?_
  rintro e w1 ⟨rfl, hb1⟩
  have hr1 : Blk w1 w.heap.size #[.bool false] 4 := (Blk.new w _ _).below hb1 (by simp)
  have hbel : Below w.heap.size w w1 := (belowAlloc w _).trans (hb1.mono (by simp))
  clear hb1
  go_wp2_with fail
  refine (hn _).mono ?_
  rintro e w2 ⟨rfl, rfl⟩
  have cr := hr1.cellAt (i := 0) (v := .bool false) rfl
  have cf := hr1.frozen 0
  dsimp only
  by_cases h1 : a0 < 1
  · go_wp2_with fail
    have hb5 : Below w.heap.size w (w1.setCell ⟨w.heap.size, 0, none⟩ (.bool true)) := hbel.setCell (by simp) _
    have hr5 := (hr1.set 0 (.bool true)).cellAt (i := 0) (v := .bool true) rfl
    refine leavesM_marks [] _ trivial hb5.size (fun w' hs => ?_)
    have hr6 := hs.cell hr5
    exact ⟨.bool true, by simp [results, Try.results4, go_sem, hr6], rfl, hb5.trans hs.below⟩
  · have h2 : 64 < a0 := by omega
    have h3 : 1 ≤ a0 := by omega
    go_wp2_with fail
    have hb5 : Below w.heap.size w (w1.setCell ⟨w.heap.size, 0, none⟩ (.bool true)) := hbel.setCell (by simp) _
    have hr5 := (hr1.set 0 (.bool true)).cellAt (i := 0) (v := .bool true) rfl
    refine leavesM_marks [] _ trivial hb5.size (fun w' hs => ?_)
    have hr6 := hs.cell hr5
    exact ⟨.bool true, by simp [results, Try.results4, go_sem, hr6], rfl, hb5.trans hs.below⟩

set_option maxRecDepth 100000 in
set_option maxHeartbeats 4000000 in
theorem runs_ok (cr : Nat) (h1 : 1 ≤ cr) (h64 : cr ≤ 64) (ao : Option Addr) (cap : Nat) (xs : List Int) (w : World) (hx : SlA w.heap.size 1 (RI .i64) w ao cap xs) :
    Calls Try.prog 4 #[.int .i64 cr, .slice ao xs.length cap] w fun e w' => e = .returned (.bool true) ∧ Below w.heap.size w w' := by
  have hlen := hx.len
  obtain ⟨n, hn⟩ : ∃ n, n = xs.length := ⟨_, rfl⟩
  rw [← hn] at hlen ⊢
  replace hn := Lib.hid hn
  have hnw := fun w => Qint.new_ok cr w h1 h64
  replace hnw := Lib.hid hnw
  refine calls_of_marks Try.func4 rfl ?_
  simp only [Try.ntmps4, List.size_toArray, List.length_cons, List.length_nil, Nat.reduceAdd, Nat.reduceSub, Array.replicate_succ, Array.replicate_zero, List.push_toArray, List.append_toArray, List.nil_append, List.cons_append]
  go_wp2_with fail
  refine (known_any _).mono ?_
  rintro e w1 ⟨rfl, hb1⟩
  have hr1 : Blk w1 w.heap.size #[.bool false] 4 := (Blk.new w _ _).below hb1 (by simp)
  have hbel : Below w.heap.size w w1 := (belowAlloc w _).trans (hb1.mono (by simp))
  clear hb1
  go_wp2_with fail
  refine (hnw.out _).mono ?_
  rintro e w2 ⟨b, rb, rfl, hq2, hb, hrb, g2⟩
  have hr2 := hr1.chg g2 (fun h => h)
  have hbel2 := hbel.trans (g2.below (B := w.heap.size) hbel.size (by simp))
  have hw1 : w.heap.size < w1.heap.size := hr1.lt
  have d1 : decide ((cr : Int) < 1) = false := by simp; omega
  have d2 : decide ((64 : Int) < (cr : Int)) = false := by simp; omega
  have d3 : decide ((cr : Int) > 64) = false := by simp; omega
  dsimp only
  clear hnw hr1 hbel
  go_wp2_with fail
  have hL : RSt w b rb w2.heap.size (w2.heap.size + 1) (w2.heap.size + 1 + 1) cr 0 [] (((w2.alloc (.cells #[.int .i64 cr, .slice none 0 0] 40)).alloc (.cells #[.pointer (some ⟨w2.heap.size, 0, none⟩)] 38)).alloc (.cells #[.int .i64 0] 3)) := by
    obtain ⟨f, ring, hs, hx⟩ := hq2
    have hl1 := hs.hb.lt
    have hl2 := hs.hr.lt
    have hbX : Below w2.heap.size w2 (((w2.alloc (.cells #[.int .i64 cr, .slice none 0 0] 40)).alloc (.cells #[.pointer (some ⟨w2.heap.size, 0, none⟩)] 38)).alloc (.cells #[.int .i64 0] 3)) := (((Below.refl _ _).alloc (Nat.le_refl _) _).alloc (by simp) _).alloc (by simp; omega) _
    have hA := (((Hd.nil w2).cons hr2).drewN 0)
    have hm0 : Blk (((w2.alloc (.cells #[.int .i64 cr, .slice none 0 0] 40)).alloc (.cells #[.pointer (some ⟨w2.heap.size, 0, none⟩)] 38)).alloc (.cells #[.int .i64 0] 3)) w2.heap.size #[.int .i64 cr, .slice none 0 0] 40 := ((Blk.new w2 _ _).alloc _).alloc _
    refine ⟨?_, ⟨f, ring, hs.below hbX hl1 hl2, hx⟩, ⟨_, hm0, OwnL.nil _ _ (rb + 1) _ _⟩, hbel2.trans (hbX.mono hbel2.size), by omega, by omega, by have := hr2.lt; omega, by have := hr2.lt; omega, by omega⟩
    intro p hp
    simp only [List.mem_cons, List.not_mem_nil, or_false] at hp
    rcases hp with rfl | rfl | rfl
    · exact hr2.below hbX hr2.lt
    · have := (Blk.new (w2.alloc (.cells #[.int .i64 cr, .slice none 0 0] 40)) #[.pointer (some ⟨w2.heap.size, 0, none⟩)] 38).alloc (.cells #[.int .i64 0] 3)
      simpa using this
    · have := Blk.new ((w2.alloc (.cells #[.int .i64 cr, .slice none 0 0] 40)).alloc (.cells #[.pointer (some ⟨w2.heap.size, 0, none⟩)] 38)) #[.int .i64 0] 3
      simpa using this
  generalize (((w2.alloc (.cells #[.int .i64 cr, .slice none 0 0] 40)).alloc (.cells #[.pointer (some ⟨w2.heap.size, 0, none⟩)] 38)).alloc (.cells #[.int .i64 0] 3)) = w3 at hL ⊢
  generalize w2.heap.size + 1 + 1 = ib0 at hL ⊢
  generalize w2.heap.size + 1 = mx at hL ⊢
  generalize w2.heap.size = mb at hL ⊢
  clear hq2 hb hrb g2 hr2 hbel2 hw1 w2 w1
  refine wp_loopN [8] 9 144 n (fun k us ds wr => ∃ (ib i : Nat) (zs : List Int), us = [.pointer (some ⟨ib, 0, none⟩)] ∧ k = n - i ∧ i ≤ n ∧ i ≤ 300 ∧ zs.length ≤ cr ∧ RSt w b rb mb mx ib cr i zs wr ∧ Marks w.heap.size ds wr) ⟨_, 0, [], rfl, by omega, Nat.zero_le _, by omega, by simp, hL, trivial⟩ ?round
  case round =>
    clear hL
    rintro f k us ds wr ⟨ib, i, zs, rfl, rfl, hin, hi3, hzl, hL, hM⟩
    simp only [setAll, fillL, List.set_cons_succ, List.set_cons_zero, Nat.reduceAdd, Nat.zero_add]
    have ci := hL.hd.cell (b := ib) (v := .int .i64 i) (T := 3) (by simp)
    by_cases hlt : i < n ∧ i < 300
    · have d4 : decide ((i : Int) < (n : Int)) = true := by simp; omega
      have d5 : decide ((i : Int) < 300) = true := by simp; omega
      have hiN : i < xs.length := by rw [← hn.out]; exact hlt.1
      obtain ⟨b1, o1, rfl, hb1, _⟩ := hx.addr (by omega)
      obtain ⟨x, hxi⟩ : ∃ x, xs[i] = x := ⟨_, rfl⟩
      have cx : wr.cell? ⟨b1, o1 + i, none⟩ = some (.int .i64 x) := by
        obtain ⟨cs, _, h6, h7⟩ := hx.get i hiN
        rw [hL.bel.cell (p := ⟨b1, o1 + i, none⟩) hb1]
        have h8 := h6 0 (by omega)
        rw [h7.1, hxi] at h8
        simpa using h8
      clear hxi
      have hin2 := hlt.1
      have hi32 := hlt.2
      go_upto_if 53 with fail
      go_cut [] from 48 (fun wx => ∃ zs', zs'.length ≤ cr ∧ RSt w b rb mb mx ib cr i zs' wx ∧ Marks w.heap.size ds wx)
      case first =>
        cases hd : (x.tmod 3 == 0) with
        | true =>
          cases zs with
          | nil =>
            have hq := hL.q
            obtain ⟨v, hm⟩ := hL.m
            go_wp2_with fail
            refine (Qint.take_none _ _ _ b rb cr hq).mono ?_
            rintro e w4 ⟨rfl, rfl⟩
            dsimp only
            have cm := hL.hd.cell (b := mx) (v := .pointer (some ⟨mb, 0, none⟩)) (T := 38) (by simp)
            go_wp2_with fail
            refine (rtake_none mb (rb + 1) cr v wr hm).mono ?_
            rintro e w5 ⟨rfl, rfl⟩
            dsimp only
            go_wp2_with fail
            go_meet
            case rel => exact ⟨[], by simp, hL, hM⟩
          | cons z zs =>
            have hq := hL.q
            go_wp2_with fail
            refine (Qint.take_some _ _ _ b rb cr z _ hq).mono ?_
            rintro e w4 ⟨rfl, hq4, g4⟩
            have hL4 := hL.putq hq4 g4
            have hM4 := hM.chg g4 (fun j hj x => hL.noDef hj x)
            obtain ⟨v, hm⟩ := hL4.m
            have cm := hL4.hd.cell (b := mx) (v := .pointer (some ⟨mb, 0, none⟩)) (T := 38) (by simp)
            simp only [List.length_cons] at hzl
            clear hq
            dsimp only
            go_wp2_with fail
            refine (rtake_some mb (rb + 1) cr v z zs w4 (by have := hL4.lts; omega) hm (by omega)).mono ?_
            rintro e w5 ⟨rfl, v5, hm5, g5⟩
            have hL5 := hL4.putm hm5 g5
            have hM5 := hM4.chg g5 (fun j hj x => by rw [hj]; exact hm.blk.noDef x)
            have dz : ((z : Int) != z) = false := by simp
            dsimp only
            go_wp2_with fail
            go_meet
            case rel => exact ⟨zs, by omega, hL5, hM5⟩
        | false =>
          go_upto_region 15 with fail
          have hq := hL.q
          have hbx : ∀ wy : World, Below w.heap.size w wy → wy.cell? ⟨b1, o1 + i, none⟩ = some (.int .i64 x) := fun wy hy => (hy.cell (p := ⟨b1, o1 + i, none⟩) hb1).trans ((hL.bel.cell (p := ⟨b1, o1 + i, none⟩) hb1).symm.trans cx)
          have cm := hL.hd.cell (b := mx) (v := .pointer (some ⟨mb, 0, none⟩)) (T := 38) (by simp)
          by_cases hfull : zs.length = cr
          · obtain ⟨v, hm⟩ := hL.m
            refine wp_region_tree (fun wx => wx.cell? ⟨ib, 0, none⟩ = some (.int .i64 i) ∧ wx.cell? ⟨b1, o1 + i, none⟩ = some (.int .i64 x) ∧ wx.cell? ⟨mx, 0, none⟩ = some (.pointer (some ⟨mb, 0, none⟩))) 12 13 (by kernel_rfl) rfl (by kernel_rfl) (fun d _ _ _ _ h => by cases d <;> exact h) (⟨ci, cx, cm⟩) (fun opz T hOps hT hTok hHeld => ?_)
            (refine wpTree_q 0 hTok hOps (by kernel_rfl) rfl rfl ⟨?_, ?_, ?_⟩; rotate_left; (focus (intro wx hSx; (try dsimp only at hSx); go_simp; (try with_reducible rfl))); (simp only [Act.put, List.setIfInBounds_toArray, List.set_cons_zero, List.set_cons_succ]))
            (refine wpTree_q 1 hTok hOps (by kernel_rfl) rfl rfl ⟨?_, ?_, ?_⟩; rotate_left; (focus (intro wx hSx; (try dsimp only at hSx); go_simp; (try with_reducible rfl))); (simp only [Act.put, List.setIfInBounds_toArray, List.set_cons_zero, List.set_cons_succ]))
            (refine wpTree_q 2 hTok hOps (by kernel_rfl) rfl rfl ⟨?_, ?_, ?_⟩; rotate_left; (focus (intro wx hSx; (try dsimp only at hSx); go_simp; (try with_reducible rfl))); (simp only [Act.put, List.setIfInBounds_toArray, List.set_cons_zero, List.set_cons_succ]))
            (refine wpTree_q 3 hTok hOps (by kernel_rfl) rfl rfl ⟨?_, ?_, ?_⟩; rotate_left; (focus (intro wx hSx; (try dsimp only at hSx); go_simp; (try with_reducible rfl))); (simp only [Act.put, List.setIfInBounds_toArray, List.set_cons_zero, List.set_cons_succ]))
            (refine wpTree_q 4 hTok hOps (by kernel_rfl) rfl rfl ⟨?_, ?_, ?_⟩; rotate_left; (focus (intro wx hSx; (try dsimp only at hSx); go_simp; (try with_reducible rfl))); (simp only [Act.put, List.setIfInBounds_toArray, List.set_cons_zero, List.set_cons_succ]))
            (refine wpTree_q 6 hTok hOps (by kernel_rfl) rfl rfl ⟨?_, ?_, ?_⟩; rotate_left; (focus (intro wx hSx; (try dsimp only at hSx); go_simp; (try with_reducible rfl))); (simp only [Act.put, List.setIfInBounds_toArray, List.set_cons_zero, List.set_cons_succ]))
            (refine wpTree_q 7 hTok hOps (by kernel_rfl) rfl rfl ⟨?_, ?_, ?_⟩; rotate_left; (focus (intro wx hSx; (try dsimp only at hSx); go_simp; (try with_reducible rfl))); (simp only [Act.put, List.setIfInBounds_toArray, List.set_cons_zero, List.set_cons_succ]))
            (refine wpTree_q 8 hTok hOps (by kernel_rfl) rfl rfl ⟨?_, ?_, ?_⟩; rotate_left; (focus (intro wx hSx; (try dsimp only at hSx); go_simp; (try with_reducible rfl))); (simp only [Act.put, List.setIfInBounds_toArray, List.set_cons_zero, List.set_cons_succ]))
            (refine wpTree_q 9 hTok hOps (by kernel_rfl) rfl rfl ⟨?_, ?_, ?_⟩; rotate_left; (focus (intro wx hSx; (try dsimp only at hSx); go_simp; (try with_reducible rfl))); (simp only [Act.put, List.setIfInBounds_toArray, List.set_cons_zero, List.set_cons_succ]))
            (refine wpTree_q 10 hTok hOps (by kernel_rfl) rfl rfl ⟨?_, ?_, ?_⟩; rotate_left; (focus (intro wx hSx; (try dsimp only at hSx); go_simp; (try with_reducible rfl))); (simp only [Act.put, List.setIfInBounds_toArray, List.set_cons_zero, List.set_cons_succ]))
            refine wpTree_1 5 hOps (by kernel_rfl) (by decide) rfl (fun K' hK => ?_)
            go_simp
            have hLd := RS2.below hL ((Below.refl wr.heap.size wr).drew)
            refine (Qint.put_full _ _ _ b rb cr _ x (hLd.q) (by simpa using hfull)).mono ?_
            rintro e w4 ⟨rfl, hq4, g4⟩
            have hL4 := hLd.putq hq4 g4
            have hM4 : Marks w.heap.size ds w4 := (hM.chg ((Chg.refl (fun _ => False) wr).drew) (fun _ h => h.elim)).chg g4 (fun j hj x => hLd.noDef hj x)
            have ci4 := hL4.hd.cell (b := ib) (v := .int .i64 i) (T := 3) (by simp)
            have cm4 := hL4.hd.cell (b := mx) (v := .pointer (some ⟨mb, 0, none⟩)) (T := 38) (by simp)
            dsimp only
            refine hK.out _ _ ⟨ci4, hbx w4 hL4.bel, cm4⟩ ?_
            clear hK K' hm hLd
            try simp only [Act.put, List.setIfInBounds_toArray, List.set_cons_zero, List.set_cons_succ]
            obtain ⟨v, hm⟩ := hL4.m
            refine wpTree_1 11 hOps (by kernel_rfl) (by decide) rfl (fun K' hK => ?_)
            go_simp
            refine (rput_full x mb (rb + 1) cr v zs _ hm hfull).mono ?_
            rintro e w5 ⟨rfl, nq5, rfl⟩
            have hL5 := RS2.below hL4 (below_drewN (Below.refl _ w4) nq5)
            have hM5 := hM4.chg ((Chg.refl (fun _ => False) w4).drewN nq5) (fun _ h => h.elim)
            dsimp only
            refine hK.out _ _ ⟨ci4, hbx w4 hL4.bel, cm4⟩ ?_
            clear hK K'
            try simp only [Act.put, List.setIfInBounds_toArray, List.set_cons_zero, List.set_cons_succ]
            refine wpTree_nil hOps (by kernel_rfl) ?_
            refine hT.out _ _ ?_
            simp only [List.drop_succ_cons, List.drop_zero]
            clear hOps hT hTok hHeld
            go_wp2_with fail
            go_meet
            case rel => exact ⟨zs, hzl, hL5, hM5⟩
          · have hroom : zs.length < cr := by omega
            obtain ⟨v, hm⟩ := hL.m
            refine wp_region_tree (fun wx => wx.cell? ⟨ib, 0, none⟩ = some (.int .i64 i) ∧ wx.cell? ⟨b1, o1 + i, none⟩ = some (.int .i64 x) ∧ wx.cell? ⟨mx, 0, none⟩ = some (.pointer (some ⟨mb, 0, none⟩))) 12 13 (by kernel_rfl) rfl (by kernel_rfl) (fun d _ _ _ _ h => by cases d <;> exact h) (⟨ci, cx, cm⟩) (fun opz T hOps hT hTok hHeld => ?_)
            (refine wpTree_q 0 hTok hOps (by kernel_rfl) rfl rfl ⟨?_, ?_, ?_⟩; rotate_left; (focus (intro wx hSx; (try dsimp only at hSx); go_simp; (try with_reducible rfl))); (simp only [Act.put, List.setIfInBounds_toArray, List.set_cons_zero, List.set_cons_succ]))
            (refine wpTree_q 1 hTok hOps (by kernel_rfl) rfl rfl ⟨?_, ?_, ?_⟩; rotate_left; (focus (intro wx hSx; (try dsimp only at hSx); go_simp; (try with_reducible rfl))); (simp only [Act.put, List.setIfInBounds_toArray, List.set_cons_zero, List.set_cons_succ]))
            (refine wpTree_q 2 hTok hOps (by kernel_rfl) rfl rfl ⟨?_, ?_, ?_⟩; rotate_left; (focus (intro wx hSx; (try dsimp only at hSx); go_simp; (try with_reducible rfl))); (simp only [Act.put, List.setIfInBounds_toArray, List.set_cons_zero, List.set_cons_succ]))
            (refine wpTree_q 3 hTok hOps (by kernel_rfl) rfl rfl ⟨?_, ?_, ?_⟩; rotate_left; (focus (intro wx hSx; (try dsimp only at hSx); go_simp; (try with_reducible rfl))); (simp only [Act.put, List.setIfInBounds_toArray, List.set_cons_zero, List.set_cons_succ]))
            (refine wpTree_q 4 hTok hOps (by kernel_rfl) rfl rfl ⟨?_, ?_, ?_⟩; rotate_left; (focus (intro wx hSx; (try dsimp only at hSx); go_simp; (try with_reducible rfl))); (simp only [Act.put, List.setIfInBounds_toArray, List.set_cons_zero, List.set_cons_succ]))
            (refine wpTree_q 6 hTok hOps (by kernel_rfl) rfl rfl ⟨?_, ?_, ?_⟩; rotate_left; (focus (intro wx hSx; (try dsimp only at hSx); go_simp; (try with_reducible rfl))); (simp only [Act.put, List.setIfInBounds_toArray, List.set_cons_zero, List.set_cons_succ]))
            (refine wpTree_q 7 hTok hOps (by kernel_rfl) rfl rfl ⟨?_, ?_, ?_⟩; rotate_left; (focus (intro wx hSx; (try dsimp only at hSx); go_simp; (try with_reducible rfl))); (simp only [Act.put, List.setIfInBounds_toArray, List.set_cons_zero, List.set_cons_succ]))
            (refine wpTree_q 8 hTok hOps (by kernel_rfl) rfl rfl ⟨?_, ?_, ?_⟩; rotate_left; (focus (intro wx hSx; (try dsimp only at hSx); go_simp; (try with_reducible rfl))); (simp only [Act.put, List.setIfInBounds_toArray, List.set_cons_zero, List.set_cons_succ]))
            (refine wpTree_q 9 hTok hOps (by kernel_rfl) rfl rfl ⟨?_, ?_, ?_⟩; rotate_left; (focus (intro wx hSx; (try dsimp only at hSx); go_simp; (try with_reducible rfl))); (simp only [Act.put, List.setIfInBounds_toArray, List.set_cons_zero, List.set_cons_succ]))
            (refine wpTree_q 10 hTok hOps (by kernel_rfl) rfl rfl ⟨?_, ?_, ?_⟩; rotate_left; (focus (intro wx hSx; (try dsimp only at hSx); go_simp; (try with_reducible rfl))); (simp only [Act.put, List.setIfInBounds_toArray, List.set_cons_zero, List.set_cons_succ]))
            refine wpTree_1 5 hOps (by kernel_rfl) (by decide) rfl (fun K' hK => ?_)
            go_simp
            have hLd := RS2.below hL ((Below.refl wr.heap.size wr).drew)
            refine (Qint.put_room _ _ _ b rb cr _ x (hLd.q) (by simpa using hroom)).mono ?_
            rintro e w4 ⟨rfl, hq4, g4⟩
            rw [show zs.map (Value.int .i64 ·) ++ [.int .i64 x] = (zs ++ [x]).map (Value.int .i64 ·) by simp] at hq4
            have hL4 := hLd.putq hq4 g4
            have hM4 : Marks w.heap.size ds w4 := (hM.chg ((Chg.refl (fun _ => False) wr).drew) (fun _ h => h.elim)).chg g4 (fun j hj x => hLd.noDef hj x)
            have ci4 := hL4.hd.cell (b := ib) (v := .int .i64 i) (T := 3) (by simp)
            have cm4 := hL4.hd.cell (b := mx) (v := .pointer (some ⟨mb, 0, none⟩)) (T := 38) (by simp)
            dsimp only
            refine hK.out _ _ ⟨ci4, hbx w4 hL4.bel, cm4⟩ ?_
            clear hK K' hm hLd
            try simp only [Act.put, List.setIfInBounds_toArray, List.set_cons_zero, List.set_cons_succ]
            obtain ⟨v, hm⟩ := hL4.m
            refine wpTree_1 11 hOps (by kernel_rfl) (by decide) rfl (fun K' hK => ?_)
            go_simp
            refine (rput_room x mb (rb + 1) cr v zs _ (by have := hL4.lts; omega) hm (by omega) (by omega)).mono ?_
            rintro e w5 ⟨rfl, v5, hm5, g5⟩
            have hL5 := hL4.putm hm5 g5
            have hM5 := hM4.chg g5 (fun j hj x => by rw [hj]; exact hm.blk.noDef x)
            have ci5 := hL5.hd.cell (b := ib) (v := .int .i64 i) (T := 3) (by simp)
            have cm5 := hL5.hd.cell (b := mx) (v := .pointer (some ⟨mb, 0, none⟩)) (T := 38) (by simp)
            dsimp only
            refine hK.out _ _ ⟨ci5, hbx w5 hL5.bel, cm5⟩ ?_
            clear hK K'
            try simp only [Act.put, List.setIfInBounds_toArray, List.set_cons_zero, List.set_cons_succ]
            refine wpTree_nil hOps (by kernel_rfl) ?_
            refine hT.out _ _ ?_
            simp only [List.drop_succ_cons, List.drop_zero]
            clear hOps hT hTok hHeld
            go_wp2_with fail
            go_meet
            case rel => exact ⟨zs ++ [x], by simp; omega, hL5, hM5⟩
      case rest =>
        obtain ⟨zs', hzl', hLc, hMc⟩ := hcut
        clear hL hM hzl cx ci zs
        obtain ⟨w4, hw4⟩ : ∃ w4, w4 = wc := ⟨_, rfl⟩
        rw [← hw4] at hLc hMc ⊢
        clear hw4
        have hq := hLc.q
        obtain ⟨v, hm⟩ := hLc.m
        obtain ⟨a2, c2, rfl, _, _, _⟩ := hm.row.slice
        obtain ⟨m, hml⟩ : ∃ m, m = zs'.length := ⟨_, rfl⟩
        have hlq := Qint.len_ql w4.drew _ _ b rb cr _ (hq.drewN 1)
        have hcq := Qint.credit_ql w4.drew _ _ b rb cr _ (hq.drewN 1)
        rw [List.length_map, ← hml] at hlq hcq
        have hmb := hm.blk
        rw [← hml] at hmb hzl'
        have cv := hmb.cellAt (i := 1) (v := .slice a2 m c2) rfl
        have cm := hLc.hd.cell (b := mx) (v := .pointer (some ⟨mb, 0, none⟩)) (T := 38) (by simp)
        have d6 : ((m : Int) != (m : Int)) = false := by simp
        have d7 : ((cr : Int) - (m : Int) != (cr : Int) - (m : Int)) = false := by simp
        replace hml := Lib.hid hml
        clear hq hm
        go_upto_region 17 with fail
        refine wp_region_tree (fun wx => wx.cell? ⟨mx, 0, none⟩ = some (.pointer (some ⟨mb, 0, none⟩)) ∧ wx.cell? ⟨mb, 1, none⟩ = some (.slice a2 m c2)) 18 20 (by kernel_rfl) rfl (by kernel_rfl) (fun d _ _ _ _ h => by cases d <;> exact h) (⟨cm, cv⟩) (fun opz T hOps hT hTok hHeld => ?_)
        (refine wpTree_q 0 hTok hOps (by kernel_rfl) rfl rfl ⟨?_, ?_, ?_⟩; rotate_left; (focus (intro wx hSx; (try dsimp only at hSx); go_simp; (try with_reducible rfl))); (simp only [Act.put, List.setIfInBounds_toArray, List.set_cons_zero, List.set_cons_succ]))
        (refine wpTree_q 2 hTok hOps (by kernel_rfl) rfl rfl ⟨?_, ?_, ?_⟩; rotate_left; (focus (intro wx hSx; (try dsimp only at hSx); go_simp; (try with_reducible rfl))); (simp only [Act.put, List.setIfInBounds_toArray, List.set_cons_zero, List.set_cons_succ]))
        (refine wpTree_q 3 hTok hOps (by kernel_rfl) rfl rfl ⟨?_, ?_, ?_⟩; rotate_left; (focus (intro wx hSx; (try dsimp only at hSx); go_simp; (try with_reducible rfl))); (simp only [Act.put, List.setIfInBounds_toArray, List.set_cons_zero, List.set_cons_succ]))
        (refine wpTree_q 4 hTok hOps (by kernel_rfl) rfl rfl ⟨?_, ?_, ?_⟩; rotate_left; (focus (intro wx hSx; (try dsimp only at hSx); go_simp; (try with_reducible rfl))); (simp only [Act.put, List.setIfInBounds_toArray, List.set_cons_zero, List.set_cons_succ]))
        (refine wpTree_q 5 hTok hOps (by kernel_rfl) rfl rfl ⟨?_, ?_, ?_⟩; rotate_left; (focus (intro wx hSx; (try dsimp only at hSx); go_simp; (try with_reducible rfl))); (simp only [Act.put, List.setIfInBounds_toArray, List.set_cons_zero, List.set_cons_succ]))
        (refine wpTree_q 6 hTok hOps (by kernel_rfl) rfl rfl ⟨?_, ?_, ?_⟩; rotate_left; (focus (intro wx hSx; (try dsimp only at hSx); go_simp; (try with_reducible rfl))); (simp only [Act.put, List.setIfInBounds_toArray, List.set_cons_zero, List.set_cons_succ]))
        refine wpTree_1 1 hOps (by kernel_rfl) (by decide) rfl (fun K' hK => ?_)
        go_simp
        refine hlq.mono ?_
        rintro e w5 ⟨rfl, rfl⟩
        dsimp only
        refine hK.out _ _ ⟨cm, cv⟩ ?_
        clear hK K'
        try simp only [Act.put, List.setIfInBounds_toArray, List.set_cons_zero, List.set_cons_succ]
        (refine wpTree_q 7 hTok hOps (by kernel_rfl) rfl rfl ⟨?_, ?_, ?_⟩; rotate_left; (focus (intro wx hSx; (try dsimp only at hSx); go_simp; (try with_reducible rfl))); (simp only [Act.put, List.setIfInBounds_toArray, List.set_cons_zero, List.set_cons_succ]))
        (refine wpTree_q 8 hTok hOps (by kernel_rfl) rfl rfl ⟨?_, ?_, ?_⟩; rotate_left; (focus (intro wx hSx; (try dsimp only at hSx); go_simp; (try with_reducible rfl))); (simp only [Act.put, List.setIfInBounds_toArray, List.set_cons_zero, List.set_cons_succ]))
        (refine wpTree_qg 9 hTok hOps (by kernel_rfl) rfl rfl ⟨?_, ?_, ?_⟩; rotate_left; (focus (intro wx hSx; (try dsimp only at hSx); go_simp; (try with_reducible rfl))); (simp only [Act.put, List.setIfInBounds_toArray, List.set_cons_zero, List.set_cons_succ]))
        (refine wpTree_qg 11 hTok hOps (by kernel_rfl) rfl rfl ⟨?_, ?_, ?_⟩; rotate_left; (focus (intro wx hSx; (try dsimp only at hSx); go_simp; (try with_reducible rfl))); (simp only [Act.put, List.setIfInBounds_toArray, List.set_cons_zero, List.set_cons_succ]))
        (refine wpTree_qg 12 hTok hOps (by kernel_rfl) rfl rfl ⟨?_, ?_, ?_⟩; rotate_left; (focus (intro wx hSx; (try dsimp only at hSx); go_simp; (try with_reducible rfl))); (simp only [Act.put, List.setIfInBounds_toArray, List.set_cons_zero, List.set_cons_succ]))
        (refine wpTree_qg 13 hTok hOps (by kernel_rfl) rfl rfl ⟨?_, ?_, ?_⟩; rotate_left; (focus (intro wx hSx; (try dsimp only at hSx); go_simp; (try with_reducible rfl))); (simp only [Act.put, List.setIfInBounds_toArray, List.set_cons_zero, List.set_cons_succ]))
        (refine wpTree_qg 14 hTok hOps (by kernel_rfl) rfl rfl ⟨?_, ?_, ?_⟩; rotate_left; (focus (intro wx hSx; (try dsimp only at hSx); go_simp; (try with_reducible rfl))); (simp only [Act.put, List.setIfInBounds_toArray, List.set_cons_zero, List.set_cons_succ]))
        (refine wpTree_qg 15 hTok hOps (by kernel_rfl) rfl rfl ⟨?_, ?_, ?_⟩; rotate_left; (focus (intro wx hSx; (try dsimp only at hSx); go_simp; (try with_reducible rfl))); (simp only [Act.put, List.setIfInBounds_toArray, List.set_cons_zero, List.set_cons_succ]))
        (refine wpTree_qg 16 hTok hOps (by kernel_rfl) rfl rfl ⟨?_, ?_, ?_⟩; rotate_left; (focus (intro wx hSx; (try dsimp only at hSx); go_simp; (try with_reducible rfl))); (simp only [Act.put, List.setIfInBounds_toArray, List.set_cons_zero, List.set_cons_succ]))
        (refine wpTree_qg 17 hTok hOps (by kernel_rfl) rfl rfl ⟨?_, ?_, ?_⟩; rotate_left; (focus (intro wx hSx; (try dsimp only at hSx); go_simp; (try with_reducible rfl))); (simp only [Act.put, List.setIfInBounds_toArray, List.set_cons_zero, List.set_cons_succ]))
        refine wpTree_1g 10 hOps (by kernel_rfl) (by decide) rfl rfl (fun K' hK => ?_)
        go_simp
        refine hcq.mono ?_
        rintro e w5 ⟨rfl, nq5, rfl⟩
        dsimp only
        refine hK.out _ _ ⟨cm, cv⟩ ?_
        clear hK K'
        try simp only [Act.put, List.setIfInBounds_toArray, List.set_cons_zero, List.set_cons_succ]
        refine wpTree_nil hOps (by kernel_rfl) ?_
        refine hT.out _ _ ?_
        simp only [List.drop_succ_cons, List.drop_zero]
        clear hOps hT hTok hHeld hlq hcq cm cv
        go_upto_region 19 with fail
        refine Code.wp_world ?_
        intro w5 hw5
        have hL5 : RSt w b rb mb mx ib cr i zs' w5 := by rw [hw5]; exact RS2.below hLc (by repeat (first | exact Below.refl _ _ | refine below_drewN ?_ _ | refine Below.drew ?_ | (refine Below.alloc ?_ (by simp; try omega) _)))
        have hM5 : Marks w.heap.size ds w5 := by rw [hw5]; exact hMc.below (by repeat (first | exact Below.refl _ _ | refine below_drewN ?_ _ | refine Below.drew ?_ | (refine Below.alloc ?_ (by simp; try omega) _)))
        clear hw5 hLc hMc hmb
        have hlts := hL5.lts
        go_wp2_with fail
        refine (qall_any b _).mono ?_
        rintro e w7 ⟨rfl, hw7⟩
        have hb7 : Below w5.heap.size w5 w7 := by rw [hw7]; exact (by repeat (first | exact Below.refl _ _ | refine below_drewN ?_ _ | refine Below.drew ?_ | (refine Below.alloc ?_ (by simp; try omega) _)))
        have hB7 : Blk w7 w5.heap.size #[.int .i64 0] 3 := by rw [hw7]; exact (Blk.new w5 _ _).alloc _
        have hq7 : w7.cell? ⟨w5.heap.size + 1, 0, none⟩ = some (.pointer (some ⟨b, 0, none⟩)) := by
          rw [hw7]
          have := (Blk.new (w5.alloc (.cells #[.int .i64 0] 3)) #[.pointer (some ⟨b, 0, none⟩)] 35).cellAt (i := 0) (v := .pointer (some ⟨b, 0, none⟩)) rfl
          rw [World.size_alloc] at this
          exact this
        have hz7 : w7.heap.size = w5.heap.size + 2 := by rw [hw7]; simp
        have hL7 := RS2.below hL5 hb7
        have hB70 : Blk w7 w5.heap.size #[.int .i64 (([] : List (Nat × Int)).length : Nat)] 3 := hB7
        simp only [World.size_alloc]
        clear hw7 hB7
        go_upto_region 100 with fail
        refine (wpIn_wide (n := 8)).1 ?_
        refine wpIn_range_recR (α := Nat × Int) rfl (by omega) (gf := 24) (lb := #[.pointer (some ⟨w5.heap.size + 1, 0, none⟩)]) rfl trivial (enters_of Try.func24 (by kernel_rfl) rfl)
          (qall_stops (8 - 1) (by omega) (w5.heap.size + 1) b rb cr zs' w7 hq7 hL7.q) KpR.trans (fun X o h => KpR.put _ X o) (fun _ => rfl)
          (fun pre X => Below w5.heap.size w5 X ∧ Blk X w5.heap.size #[.int .i64 (pre.length : Nat)] 3)
          (fun c pre X => (c = .ret ∧ ¬ (pre <+: pairs zs')) ∨ (c = .exit 2 ∧ Below w5.heap.size w5 X ∧ Blk X w5.heap.size #[.int .i64 5] 3))
          (OwnFrom.and (ownFrom_below (Nat.le_refl _) (by omega)) (ownFrom_blk _ _ _ (fun pre : List (Nat × Int) => #[.int .i64 (pre.length : Nat)])))
          ?hIx ⟨hb7, hB70⟩ ?a1 ?assign ?body ?done ?stop
        case hIx =>
          rintro c s X Y row (⟨h1, h2⟩ | ⟨h1, h2, h3⟩) hg hr
          · exact .inl ⟨h1, h2⟩
          · exact .inr ⟨h1, ownFrom_below (β := Unit) (Nat.le_refl _) (by omega) () X Y row h2 hg hr, ownFrom_blk (β := Unit) _ _ _ (fun _ => #[.int .i64 5]) () X Y row h3 hg hr⟩
        case assign =>
          intro l x W K hK
          gi_wp2
          exact hK
        case body =>
          rintro l pre ⟨xk, xv⟩ W hl8 _ ⟨hb8, hB8⟩ hpl
          have hL8 := RS2.below hL5 hb8
          have hpp := pairs_pre (zs := zs') (pre := pre) (x := (xk, xv))
          obtain ⟨pl, hpl2⟩ : ∃ pl, pl = pre.length := ⟨_, rfl⟩
          have hpm : pl < m := by rw [hpl2, hml.out]; exact hpl
          have hB8' : Blk W w5.heap.size #[.int .i64 (pl : Nat)] 3 := by rw [hpl2]; exact hB8
          have cn := hB8'.cellAt (i := 0) (v := .int .i64 (pl : Nat)) rfl
          have cnf := hB8'.frozen 0
          have ci := hL8.hd.cell (b := ib) (v := .int .i64 i) (T := 3) (by simp)
          have cm := hL8.hd.cell (b := mx) (v := .pointer (some ⟨mb, 0, none⟩)) (T := 38) (by simp)
          have cR := hL8.hd.blk (b := w.heap.size) (v := .bool false) (T := 4) (by simp)
          have crf := cR.frozen 0
          have crv := cR.cellAt (i := 0) (v := .bool false) rfl
          obtain ⟨v8, hm8⟩ := hL8.m
          obtain ⟨a8, c8, hv8, hS8⟩ := hm8.row.sla (E := fun _ cs x => cs = encN x) encN_len (fun _ _ => rfl)
          subst hv8
          have cv := hm8.blk.cellAt (i := 1) (v := .slice a8 zs'.length c8) rfl
          rw [← hml.out] at cv
          obtain ⟨b8, o8, rfl, hb8l, _⟩ := hS8.addr (by omega)
          obtain ⟨z, hzp⟩ : ∃ z, zs'[pre.length]'hpl = z := ⟨_, rfl⟩
          have cz : W.cell? ⟨b8, o8 + pl, none⟩ = some (.int .i64 z) := by
            obtain ⟨cs, _, h6, h7⟩ := hS8.get pre.length hpl
            have h8 := h6 0 (by omega)
            rw [Nat.mul_one, Nat.add_zero, h7, hzp] at h8
            rw [hpl2]
            exact h8
          have e1 : decide ((m : Int) ≤ (pl : Int)) = false := by simp; omega
          have e2 : decide (m ≤ pl) = false := by simp; omega
          have e3 : decide ((pl : Int) < 0) = false := by simp
          have e4 : decide ((m : Int) > (pl : Int)) = true := by simp; omega
          have hpl3 : pre.length = pl := hpl2.symm
          replace hpl2 := Lib.hid hpl2
          replace hpl3 := Lib.hid hpl3
          replace hzp := Lib.hid hzp
          replace hpp := Lib.hid hpp
          clear hB8 hm8 hS8
          dsimp only
          by_cases hk : xk = pl
          · subst hk
            have e5 : ((xk : Int) != (xk : Int)) = false := by simp
            by_cases hv : xv = z
            · subst hv
              have e6 : ((xv : Int) != (xv : Int)) = false := by simp
              have hplw : IntKind.i64.wrap ((xk : Int) + 1) = (xk : Int) + 1 := IntWalk.i64_in _ (by omega)
              cases q5 : ((xk : Int) + 1 == 5) with
              | false =>
                gi_wp2
                refine round_region_quiet_tail _ 22 (by kernel_rfl) (fun h => by obtain ⟨a, w, h⟩ := h; exact h) (by kernel_rfl) (by kernel_rfl) ?_
                simp only [List.take_succ_cons, List.take_zero, List.drop_succ_cons, List.drop_zero]
                repeat (go_big_quiet_step (fail))
                refine wpQuiet_nil ?_
                intro _ hw'
                obtain ⟨nq8, hw''⟩ := hw'
                subst hw''
                go_wp2_with fail
                gi_wp2
                have hcx : Chg (fun k => k = w5.heap.size) W ((W.drewN nq8).setCell ⟨w5.heap.size, 0, none⟩ (.int .i64 ((xk : Int) + 1))) := ((Chg.refl _ _).drewN nq8).setCell _ _ (fun _ => rfl)
                have hbn := hb8.trans (hcx.below (B := w5.heap.size) hb8.size (fun j hj e => by omega))
                have hbk : Blk ((W.drewN nq8).setCell ⟨w5.heap.size, 0, none⟩ (.int .i64 ((xk : Int) + 1))) w5.heap.size #[.int .i64 ((xk : Int) + 1)] 3 := by simpa using (hB8'.drewN nq8).set 0 (.int .i64 ((xk : Int) + 1))
                have hkf := keepsFrom_of_chg (B := w7.heap.size) hcx (fun j hj _ => by rw [hj]; exact ⟨_, _, _, hB8'⟩)
                have hkr := KpR.of_chg (n0 := w7.heap.size) hcx (fun j hj => by rw [hj]; omega)
                exact ⟨hkf, hkr, hbn, by rw [List.length_append, List.length_singleton, hpl3.out]; exact hbk⟩
              | true =>
                cases qp : ((i : Int) % 2 == 0) with
                | false =>
                  gi_wp2
                  refine round_region_quiet_tail _ 22 (by kernel_rfl) (fun h => by obtain ⟨a, w, h⟩ := h; exact h) (by kernel_rfl) (by kernel_rfl) ?_
                  simp only [List.take_succ_cons, List.take_zero, List.drop_succ_cons, List.drop_zero]
                  repeat (go_big_quiet_step (fail))
                  refine wpQuiet_nil ?_
                  intro _ hw'
                  obtain ⟨nq8, hw''⟩ := hw'
                  subst hw''
                  go_wp2_with fail
                  gi_wp2
                  have hcx : Chg (fun k => k = w5.heap.size) W ((W.drewN nq8).setCell ⟨w5.heap.size, 0, none⟩ (.int .i64 ((xk : Int) + 1))) := ((Chg.refl _ _).drewN nq8).setCell _ _ (fun _ => rfl)
                  have hbn := hb8.trans (hcx.below (B := w5.heap.size) hb8.size (fun j hj e => by omega))
                  have hbk : Blk ((W.drewN nq8).setCell ⟨w5.heap.size, 0, none⟩ (.int .i64 ((xk : Int) + 1))) w5.heap.size #[.int .i64 ((xk : Int) + 1)] 3 := by simpa using (hB8'.drewN nq8).set 0 (.int .i64 ((xk : Int) + 1))
                  have hkf := keepsFrom_of_chg (B := w7.heap.size) hcx (fun j hj _ => by rw [hj]; exact ⟨_, _, _, hB8'⟩)
                  have hkr := KpR.of_chg (n0 := w7.heap.size) hcx (fun j hj => by rw [hj]; omega)
                  exact ⟨hkf, hkr, hbn, by rw [List.length_append, List.length_singleton, hpl3.out]; exact hbk⟩
                | true =>
                  gi_wp2
                  refine round_region_quiet_tail _ 22 (by kernel_rfl) (fun h => by obtain ⟨a, w, h⟩ := h; exact h) (by kernel_rfl) (by kernel_rfl) ?_
                  simp only [List.take_succ_cons, List.take_zero, List.drop_succ_cons, List.drop_zero]
                  repeat (go_big_quiet_step (fail))
                  refine wpQuiet_nil ?_
                  intro _ hw'
                  obtain ⟨nq8, hw''⟩ := hw'
                  subst hw''
                  go_wp2_with fail
                  gi_wp2
                  have hcx : Chg (fun k => k = w5.heap.size) W ((W.drewN nq8).setCell ⟨w5.heap.size, 0, none⟩ (.int .i64 ((xk : Int) + 1))) := ((Chg.refl _ _).drewN nq8).setCell _ _ (fun _ => rfl)
                  have hbn := hb8.trans (hcx.below (B := w5.heap.size) hb8.size (fun j hj e => by omega))
                  have hbk : Blk ((W.drewN nq8).setCell ⟨w5.heap.size, 0, none⟩ (.int .i64 ((xk : Int) + 1))) w5.heap.size #[.int .i64 ((xk : Int) + 1)] 3 := by simpa using (hB8'.drewN nq8).set 0 (.int .i64 ((xk : Int) + 1))
                  have hkf := keepsFrom_of_chg (B := w7.heap.size) hcx (fun j hj _ => by rw [hj]; exact ⟨_, _, _, hB8'⟩)
                  have hkr := KpR.of_chg (n0 := w7.heap.size) hcx (fun j hj => by rw [hj]; omega)
                  have q6 : (xk : Int) + 1 = 5 := by simpa using q5
                  rw [q6] at hbk hbn hkf hkr ⊢
                  exact ⟨hkf, hkr, .inr ⟨rfl, hbn, hbk⟩⟩
            · have e6 : ((xv : Int) != (z : Int)) = true := by simpa using hv
              gi_wp2
              refine round_region_quiet_tail _ 22 (by kernel_rfl) (fun h => by obtain ⟨a, w, h⟩ := h; exact h) (by kernel_rfl) (by kernel_rfl) ?_
              simp only [List.take_succ_cons, List.take_zero, List.drop_succ_cons, List.drop_zero]
              repeat (go_big_quiet_step (fail))
              refine wpQuiet_nil ?_
              intro _ hw'
              obtain ⟨nq8, hw''⟩ := hw'
              subst hw''
              go_wp2_with fail
              gi_wp2
              have hcx : Chg (fun k => k = w.heap.size) W ((W.drewN nq8).setCell ⟨w.heap.size, 0, none⟩ (.bool false)) := ((Chg.refl _ _).drewN nq8).setCell _ _ (fun _ => rfl)
              refine ⟨keepsFrom_of_chg hcx (fun j hj _ => by rw [hj]; exact ⟨_, _, _, cR⟩), KpR.of_chg hcx (fun j hj => by rw [hj]; have := hL5.bel.size; omega), .inl ⟨rfl, fun hp => ?_⟩⟩
              have := hpp.out hp hpl
              simp only [Prod.mk.injEq] at this
              rw [hzp.out] at this
              exact hv this.2
          · have e5 : ((xk : Int) != (pl : Int)) = true := by simp; omega
            gi_wp2
            refine round_region_quiet_tail _ 22 (by kernel_rfl) (fun h => by obtain ⟨a, w, h⟩ := h; exact h) (by kernel_rfl) (by kernel_rfl) ?_
            simp only [List.take_succ_cons, List.take_zero, List.drop_succ_cons, List.drop_zero]
            repeat (go_big_quiet_step (fail))
            refine wpQuiet_nil ?_
            intro _ hw'
            obtain ⟨nq8, hw''⟩ := hw'
            subst hw''
            go_wp2_with fail
            gi_wp2
            have hcx : Chg (fun k => k = w.heap.size) W ((W.drewN nq8).setCell ⟨w.heap.size, 0, none⟩ (.bool false)) := ((Chg.refl _ _).drewN nq8).setCell _ _ (fun _ => rfl)
            refine ⟨keepsFrom_of_chg hcx (fun j hj _ => by rw [hj]; exact ⟨_, _, _, cR⟩), KpR.of_chg hcx (fun j hj => by rw [hj]; have := hL5.bel.size; omega), .inl ⟨rfl, fun hp => ?_⟩⟩
            have := hpp.out hp hpl
            simp only [Prod.mk.injEq] at this
            exact hk (this.1.trans hpl3.out)
        case done =>
          rintro D ys W9 hD rfl ⟨hb9, hB9⟩ hK
          rw [pairs_len, ← hml.out] at hB9
          have d8 : ((m : Int) != (m : Int)) = false := by simp
          have hL9 := RS2.below hL5 hb9
          have hM9 : Marks w.heap.size ({ target := .collected D, args := #[] } :: ds) W9 := ⟨D, rfl, by have := hL5.bel.size; omega, hK, fun e he => by
            obtain ⟨D', rfl, h1⟩ := hM5.lt e he
            intro e
            injection e with e1 e2
            injection e1 with e1
            omega, hM5.below hb9⟩
          have cn := hB9.cellAt (i := 0) (v := .int .i64 m) rfl
          have cm := hL9.hd.cell (b := mx) (v := .pointer (some ⟨mb, 0, none⟩)) (T := 38) (by simp)
          have ci := hL9.hd.cell (b := ib) (v := .int .i64 i) (T := 3) (by simp)
          obtain ⟨v9, hm9⟩ := hL9.m
          obtain ⟨a9, c9, rfl, _, _, _⟩ := hm9.row.slice
          have cv := hm9.blk.cellAt (i := 1) (v := .slice a9 zs'.length c9) rfl
          rw [← hml.out] at cv
          have hiW : ib < W9.heap.size := hL9.lts.2.2.2.2.1
          have hib64 : IntKind.i64.wrap ((i : Int) + 1) = (i : Int) + 1 := IntWalk.i64_in _ (by omega)
          clear hm9 hK hM5 hB9
          try dsimp only
          try refine wpIn_wide.2 ?_
          go_upto_region 27 with fail
          refine wp_region_quiet_tail 10 (by kernel_rfl) (by kernel_rfl) ?_
          simp only [List.take_succ_cons, List.take_zero, List.drop_succ_cons, List.drop_zero]
          repeat (go_big_quiet_step (fail))
          refine wpQuiet_nil ?_
          intro _ hw'
          obtain ⟨nq9, hw''⟩ := hw'
          subst hw''
          go_upto_region 29 with fail
          refine Code.wp_world ?_
          intro wT hwT
          have hbT : Below W9.heap.size W9 wT := by rw [hwT]; exact below_drewN (Below.refl _ _) _
          have hLT := RS2.below hL9 hbT
          have hMT := hM9.below hbT
          have ci := hLT.hd.cell (b := ib) (v := .int .i64 i) (T := 3) (by simp)
          have hiW := hLT.lts
          clear hwT hbT hL9 hM9 cn cm cv
          go_wp2_with fail
          refine RoundEnd.intro [.pointer (some ⟨wT.heap.size, 0, none⟩)] (n - (i + 1)) (by kernel_rfl) (by omega) ⟨wT.heap.size, i + 1, zs', rfl, rfl, by omega, by omega, by rw [← hml.out]; exact hzl', RS2.nextI hLT, hMT.below (belowAlloc wT _)⟩
        case stop =>
          rintro D c pre W9 hD hpre (⟨rfl, hno⟩ | ⟨rfl, hb9, hB9⟩) hK
          · exact absurd hpre hno
          · have d8 : ((5 : Int) != (5 : Int)) = false := by simp
            cases d9 : ((5 : Int) != (m : Int)) with
            | true =>
              have hL9 := RS2.below hL5 hb9
              have hM9 : Marks w.heap.size ({ target := .collected D, args := #[] } :: ds) W9 := ⟨D, rfl, by have := hL5.bel.size; omega, hK, fun e he => by
                obtain ⟨D', rfl, h1⟩ := hM5.lt e he
                intro e
                injection e with e1 e2
                injection e1 with e1
                omega, hM5.below hb9⟩
              have cn := hB9.cellAt (i := 0) (v := .int .i64 5) rfl
              have cm := hL9.hd.cell (b := mx) (v := .pointer (some ⟨mb, 0, none⟩)) (T := 38) (by simp)
              have ci := hL9.hd.cell (b := ib) (v := .int .i64 i) (T := 3) (by simp)
              obtain ⟨v9, hm9⟩ := hL9.m
              obtain ⟨a9, c9, rfl, _, _, _⟩ := hm9.row.slice
              have cv := hm9.blk.cellAt (i := 1) (v := .slice a9 zs'.length c9) rfl
              rw [← hml.out] at cv
              have hiW : ib < W9.heap.size := hL9.lts.2.2.2.2.1
              have hib64 : IntKind.i64.wrap ((i : Int) + 1) = (i : Int) + 1 := IntWalk.i64_in _ (by omega)
              clear hm9 hK hM5 hB9
              try dsimp only
              try refine wpIn_wide.2 ?_
              go_upto_region 27 with fail
              refine wp_region_quiet_tail 10 (by kernel_rfl) (by kernel_rfl) ?_
              simp only [List.take_succ_cons, List.take_zero, List.drop_succ_cons, List.drop_zero]
              repeat (go_big_quiet_step (fail))
              refine wpQuiet_nil ?_
              intro _ hw'
              obtain ⟨nq9, hw''⟩ := hw'
              subst hw''
              go_upto_region 29 with fail
              refine Code.wp_world ?_
              intro wT hwT
              have hbT : Below W9.heap.size W9 wT := by rw [hwT]; exact below_drewN (Below.refl _ _) _
              have hLT := RS2.below hL9 hbT
              have hMT := hM9.below hbT
              have ci := hLT.hd.cell (b := ib) (v := .int .i64 i) (T := 3) (by simp)
              have hiW := hLT.lts
              clear hwT hbT hL9 hM9 cn cm cv
              go_wp2_with fail
              refine RoundEnd.intro [.pointer (some ⟨wT.heap.size, 0, none⟩)] (n - (i + 1)) (by kernel_rfl) (by omega) ⟨wT.heap.size, i + 1, zs', rfl, rfl, by omega, by omega, by rw [← hml.out]; exact hzl', RS2.nextI hLT, hMT.below (belowAlloc wT _)⟩
            | false =>
              have hL9 := RS2.below hL5 hb9
              have hM9 : Marks w.heap.size ({ target := .collected D, args := #[] } :: ds) W9 := ⟨D, rfl, by have := hL5.bel.size; omega, hK, fun e he => by
                obtain ⟨D', rfl, h1⟩ := hM5.lt e he
                intro e
                injection e with e1 e2
                injection e1 with e1
                omega, hM5.below hb9⟩
              have cn := hB9.cellAt (i := 0) (v := .int .i64 5) rfl
              have cm := hL9.hd.cell (b := mx) (v := .pointer (some ⟨mb, 0, none⟩)) (T := 38) (by simp)
              have ci := hL9.hd.cell (b := ib) (v := .int .i64 i) (T := 3) (by simp)
              obtain ⟨v9, hm9⟩ := hL9.m
              obtain ⟨a9, c9, rfl, _, _, _⟩ := hm9.row.slice
              have cv := hm9.blk.cellAt (i := 1) (v := .slice a9 zs'.length c9) rfl
              rw [← hml.out] at cv
              have hiW : ib < W9.heap.size := hL9.lts.2.2.2.2.1
              have hib64 : IntKind.i64.wrap ((i : Int) + 1) = (i : Int) + 1 := IntWalk.i64_in _ (by omega)
              clear hm9 hK hM5 hB9
              try dsimp only
              try refine wpIn_wide.2 ?_
              go_upto_region 27 with fail
              refine wp_region_quiet_tail 10 (by kernel_rfl) (by kernel_rfl) ?_
              simp only [List.take_succ_cons, List.take_zero, List.drop_succ_cons, List.drop_zero]
              repeat (go_big_quiet_step (fail))
              refine wpQuiet_nil ?_
              intro _ hw'
              obtain ⟨nq9, hw''⟩ := hw'
              subst hw''
              go_upto_region 29 with fail
              refine Code.wp_world ?_
              intro wT hwT
              have hbT : Below W9.heap.size W9 wT := by rw [hwT]; exact below_drewN (Below.refl _ _) _
              have hLT := RS2.below hL9 hbT
              have hMT := hM9.below hbT
              have ci := hLT.hd.cell (b := ib) (v := .int .i64 i) (T := 3) (by simp)
              have hiW := hLT.lts
              clear hwT hbT hL9 hM9 cn cm cv
              go_wp2_with fail
              refine RoundEnd.intro [.pointer (some ⟨wT.heap.size, 0, none⟩)] (n - (i + 1)) (by kernel_rfl) (by omega) ⟨wT.heap.size, i + 1, zs', rfl, rfl, by omega, by omega, by rw [← hml.out]; exact hzl', RS2.nextI hLT, hMT.below (belowAlloc wT _)⟩
    · have hres := hL.hd.blk (b := w.heap.size) (v := .bool false) (T := 4) (by simp)
      have ce := hres.cellAt (i := 0) (v := .bool false) rfl
      have cf := hres.frozen 0
      have hb5 : Below w.heap.size w (wr.setCell ⟨w.heap.size, 0, none⟩ (.bool true)) := hL.bel.setCell (by simp) _
      have hM5 := hM.chg ((Chg.refl (fun k => k = w.heap.size) wr).setCell ⟨w.heap.size, 0, none⟩ (.bool true) (fun _ => rfl)) (fun k e x => by rw [e]; exact hres.noDef x)
      have hr5 := (hres.set 0 (.bool true)).cellAt (i := 0) (v := .bool true) rfl
      have hgo : (¬ i < n) ∨ (i < n ∧ ¬ i < 300) := by omega
      clear hlt hL hM
      rcases hgo with h1 | ⟨h1, h2⟩
      · have d8 : decide ((i : Int) < (n : Int)) = false := by simp; omega
        go_wp2_with fail
        refine leavesM_marks ds _ hM5 hb5.size (fun w' hs => ?_)
        have hr6 := hs.cell hr5
        exact ⟨.bool true, by simp [results, Try.results4, go_sem, hr6], rfl, hb5.trans hs.below⟩
      · have d8 : decide ((i : Int) < (n : Int)) = true := by simp; omega
        have d9 : decide ((i : Int) < 300) = false := by simp; omega
        go_wp2_with fail
        refine leavesM_marks ds _ hM5 hb5.size (fun w' hs => ?_)
        have hr6 := hs.cell hr5
        exact ⟨.bool true, by simp [results, Try.results4, go_sem, hr6], rfl, hb5.trans hs.below⟩

theorem runs_row {w : World} (a0 : Int) (_ : (Lit.int .i64 a0).wf = true) (ao : Option Addr) (len cap : Nat) (xs : List Int) (h : RSl w.heap.size 1 (RI .i64) w (Value.cells (.slice ao len cap)).toList xs) :
    Calls Try.prog 4 #[.int .i64 a0, .slice ao len cap] w fun e w' => e = .returned (.bool true) ∧ Below w.heap.size w w' := by
  obtain ⟨a1, c1, h1, h2⟩ := h
  obtain ⟨rfl, rfl, rfl⟩ : ao = a1 ∧ len = xs.length ∧ cap = c1 := by simpa [Value.cells] using h1
  by_cases hc : a0 < 1 ∨ 64 < a0
  · exact runs_bad a0 hc _ w
  · obtain ⟨c, rfl⟩ : ∃ c : Nat, a0 = c := ⟨a0.toNat, by omega⟩
    exact runs_ok c (by omega) (by omega) ao cap xs w h2
end Go.Proofs.Ytoiaijfmppbodaa
