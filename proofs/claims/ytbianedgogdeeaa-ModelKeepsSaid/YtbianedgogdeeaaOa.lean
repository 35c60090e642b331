/- Model: CopyState, wipe, SameRecord. -/
import Derived.Test.YtbianedgogdeeaaNw
import Derived.Test.YtbianedgogdeeaaOg
import Derived.Test.YtbianedgogdeeaaMx
import Derived.Test.YtbianedgogdeeaaNz
import Derived.Test.YtbianedgogdeeaaL13
namespace Go.Proofs.Ytbianedgogdeeaa
open Go.RowKit Go.Maps Fold Go.Lib
attribute [local go_sem] Oper.semAt_some
set_option linter.unusedVariables false
set_option linter.unusedSimpArgs false

set_option maxRecDepth 100000 in
theorem srec_any (r : TRecord) (w : World) : Calls Try.prog 24 #[.agg #[.int .i64 r.fProducer, .int .i64 r.fSeq, .int .i64 r.fPart, .string r.fKey, .int .u32 r.fVal], .agg #[.int .i64 r.fProducer, .int .i64 r.fSeq, .int .i64 r.fPart, .string r.fKey, .int .u32 r.fVal]] w fun e w' => e = .returned (.bool true) ∧ Below w.heap.size w w' := by
  obtain ⟨a, b, c, k, v⟩ := r
  dsimp only
  have e1 : (a == a) = true := by simp
  have e2 : (b == b) = true := by simp
  have e3 : (c == c) = true := by simp
  have e4 : (k.toList == k.toList) = true := by simp
  have e5 : (v == v) = true := by simp
  go_enter Try.func24, Try.ntmps24
  go_wp2_with fail
  go_ret
  exact ⟨rfl, (by repeat (first | exact Below.refl _ _ | refine below_drewN ?_ _ | refine Below.drew ?_ | (refine Below.alloc ?_ (by simp; try omega) _)))⟩

/-- Pairs that were written over. -/
def wiped : PR := (⟨#[63]⟩, 9)
set_option maxRecDepth 100000 in
set_option maxHeartbeats 2000000 in
theorem wipe_any (l : PRS) (v : Value) (base : Nat) (w : World) (h : OwnR w base v l) : Calls Try.prog 23 #[v] w fun e w' => e = .returned (.tuple #[]) ∧ Chg (fun k => v.ownBlock = some k) w w' ∧ ∃ l', l'.length = l.length ∧ OwnR w' base v l' := by
  obtain ⟨n, hn⟩ : ∃ n, n = l.length := ⟨_, rfl⟩
  obtain ⟨ao, cap, rfl, h1, h2, -⟩ := OwnL.slice h
  rw [← hn] at h h1 ⊢
  have hnm : n ≤ 9223372036854775807 := by unfold maxLen at h2; omega
  replace hn := Lib.hid hn
  go_enter Try.func23, Try.ntmps23
  go_wp2_with fail
  go_loopw [2] (fun x2 wr => ∃ (i : Nat) (L : PRS), i ≤ n ∧ x2 = .int .i64 i ∧ L.length = n ∧ OwnR wr base (.slice ao n cap) L ∧ Chg (fun k => (Value.slice ao n cap).ownBlock = some k) w wr) (fun x2 _ => n - (intOf x2).toNat)
  case atStart => exact ⟨0, l, Nat.zero_le _, rfl, hn.out.symm, h, Chg.refl _ _⟩
  case round =>
    obtain ⟨i, L, hi, rfl, hL, hO, hc⟩ := hrel
    by_cases hin : i < n
    · have d1 : decide ((i : Int) < (n : Int)) = true := by simp; omega
      have hiL : i < L.length := by omega
      rcases hO.form with ⟨-, e⟩ | ⟨g, gc, cells, e1, -, -, -, -, -, -, -⟩
      · rw [e] at hiL; simp at hiL
      simp only [Value.slice.injEq] at e1
      obtain ⟨rfl, -, rfl⟩ := e1
      have hcl := own_cellX hO encR_len hiL
      have q0 : wr.cell? ⟨g, i * 2, none⟩ = some (.string L[i].1) := by simpa [encR] using hcl.1 0 (by omega)
      have q1 : wr.cell? ⟨g, i * 2 + 1, none⟩ = some (.int .u32 (L[i].2 : Nat)) := by simpa [encR] using hcl.1 1 (by omega)
      have f0 := hcl.2 (i * 2)
      have f1 := hcl.2 (i * 2 + 1)
      have s1 := own_setX hO encR_len hiL (j := 0) (by omega) (x' := (⟨#[63]⟩, L[i].2)) (c := .string ⟨#[63]⟩) rfl
      have s2 := own_setX s1 encR_len (i := i) (by rw [List.length_set]; exact hiL) (j := 1) (by omega) (x' := (⟨#[63]⟩, 9)) (c := .int .u32 9) (by rw [List.getElem_set_self]; rfl)
      have c1 : Chg (fun k => (Value.slice (some ⟨g, 0, none⟩) n cap).ownBlock = some k) w (wr.setCell ⟨g, i * 2 + 0, none⟩ (.string ⟨#[63]⟩)) := hc.setCell _ _ (fun _ => rfl)
      have c2 : Chg (fun k => (Value.slice (some ⟨g, 0, none⟩) n cap).ownBlock = some k) w ((wr.setCell ⟨g, i * 2 + 0, none⟩ (.string ⟨#[63]⟩)).setCell ⟨g, i * 2 + 1, none⟩ (.int .u32 9)) := c1.setCell _ _ (fun _ => rfl)
      rw [Nat.add_zero] at s2 c2
      obtain ⟨L2, hL2⟩ : ∃ L2, L2 = (L.set i (⟨#[63]⟩, L[i].2)).set i (⟨#[63]⟩, 9) := ⟨_, rfl⟩
      have hL3 : L2.length = n := by rw [hL2, List.length_set, List.length_set, hL]
      rw [← hL2] at s2
      replace hL2 := Lib.hid hL2
      obtain ⟨x0, hx0⟩ : ∃ x0, x0 = L[i].1 := ⟨_, rfl⟩
      obtain ⟨x1, hx1⟩ : ∃ x1, x1 = L[i].2 := ⟨_, rfl⟩
      rw [← hx0] at q0
      rw [← hx1] at q1
      replace hx0 := Lib.hid hx0
      replace hx1 := Lib.hid hx1
      replace hL := Lib.hid hL
      replace hL3 := Lib.hid hL3
      clear hcl s1 c1 hO hc
      go_wp2_with fail
      go_roundw
      case rel => exact ⟨i + 1, L2, by omega, by go_num, hL3.out, s2, c2⟩
      case measure => simp [intOf]; omega
    · have d1 : decide ((i : Int) < (n : Int)) = false := by simp; omega
      have hLn : L.length = n := hL
      replace hLn := Lib.hid hLn
      clear hL
      go_wp2_with fail
      refine bodyPost_end (results_none rfl _ _ _) rfl ?_
      exact ⟨rfl, hc, L, hLn.out, hO⟩

set_option maxRecDepth 100000 in
set_option maxHeartbeats 4000000 in
theorem copyState_any (s : ST) (so : Option Addr) (cap B : Nat) (w : World) (hB : B ≤ w.heap.size) (hs : StA w B so cap s) (hz : s.length ≤ 5864062014805) (hzi : ∀ l ∈ s, l.length ≤ 5864062014805) :
    Calls Try.prog 22 #[.agg #[.slice so s.length cap]] w fun e w' => ∃ v, e = .returned (.agg #[v]) ∧ RowL w' w.heap.size w.heap.size v s ∧ Below w.heap.size w w' := by
  obtain ⟨iR, hiR, hR0, hR1, hR2⟩ := partsR
  obtain ⟨iS, hiS, hS0, hS1, hS2⟩ := partsRS
  obtain ⟨n, hn⟩ : ∃ n, n = s.length := ⟨_, rfl⟩
  rw [← hn] at hz ⊢
  replace hn := Lib.hid hn
  replace hzi := Lib.hid hzi
  go_enter Try.func22, Try.ntmps22
  go_upto_region 2 with fail
  refine Code.wp_world ?_
  intro w1 hw1
  have hb1 : Below w.heap.size w w1 := by rw [hw1]; exact (by repeat (first | exact Below.refl _ _ | refine below_drewN ?_ _ | refine Below.drew ?_ | (refine Below.alloc ?_ (by simp; try omega) _)))
  have hA1 : Blk w1 w.heap.size #[.slice so n cap] 27 := by rw [hw1]; exact ((Blk.new _ _ _).alloc _).alloc _
  have hR1' : Blk w1 (w.heap.size + 1) #[.slice none 0 0] 27 := by
    rw [hw1]
    have := (Blk.new (w.alloc (.cells #[.slice so n cap] 27)) #[.slice none 0 0] 27).alloc (.cells #[.slice none 0 0] 27)
    rwa [World.size_alloc] at this
  have hO1 : Blk w1 (w.heap.size + 1 + 1) #[.slice none 0 0] 27 := by
    rw [hw1]
    have := Blk.new ((w.alloc (.cells #[.slice so n cap] 27)).alloc (.cells #[.slice none 0 0] 27)) #[.slice none 0 0] 27
    rwa [World.size_alloc, World.size_alloc] at this
  obtain ⟨za, hza⟩ : ∃ za, za = w.heap.size := ⟨_, rfl⟩
  obtain ⟨zr, hzr⟩ : ∃ zr, zr = w.heap.size + 1 := ⟨_, rfl⟩
  obtain ⟨zo, hzo⟩ : ∃ zo, zo = w.heap.size + 1 + 1 := ⟨_, rfl⟩
  have n1 : za ≠ zo := by omega
  have n2 : zr ≠ zo := by omega
  have hzow : w.heap.size ≤ zo := by omega
  have hzrw : w.heap.size ≤ zr := by omega
  rw [← hzo] at hO1
  rw [← hzr] at hR1'
  rw [← hza] at hA1
  try rw [← hzo]
  try rw [← hzr]
  rw [← hza]
  replace hza := Lib.hid hza
  replace hzr := Lib.hid hzr
  replace hzo := Lib.hid hzo
  clear hw1
  go_wp2_with fail
  go_loopw [4] (fun x4 wr => ∃ (i : Nat) (v : Value), i ≤ n ∧ x4 = .int .i64 i ∧ RowL wr w.heap.size w.heap.size v (s.take i) ∧ Blk wr zo #[v] 27 ∧ Blk wr za #[.slice so n cap] 27 ∧ Blk wr zr #[.slice none 0 0] 27 ∧ Below w.heap.size w wr) (fun x4 _ => n - (intOf x4).toNat)
  case atStart => exact ⟨0, .slice none 0 0, Nat.zero_le _, rfl, RowL.nil _ _ _, hO1, hA1, hR1', hb1⟩
  case round =>
    clear hO1 hA1 hR1' hb1
    obtain ⟨i, v, hi, rfl, hrow, hO, hA, hR, hb⟩ := hrel
    have a0 := hA.cellAt (i := 0) (v := .slice so n cap) rfl
    by_cases hin : i < n
    · have d1 : decide ((i : Int) < (n : Int)) = true := by simp; omega
      have his : i < s.length := by rw [← hn.out]; exact hin
      obtain ⟨sb, soff, la, lc, rfl, hsb, e0, hP, _⟩ := StA.get hs (List.getElem?_eq_getElem his)
      have hsbw : sb < wr.heap.size := by have := hb.size; omega
      have hll : s[i].length ≤ 5864062014805 := hzi.out _ (List.getElem_mem his)
      have f0 := (hb.cell (p := ⟨sb, soff + i, none⟩) (by simp; omega)).trans e0
      have htk : s.take (i + 1) = s.take i ++ [s[i]] := by rw [List.take_add_one, List.getElem?_eq_getElem his]; rfl
      obtain ⟨l, hl⟩ : ∃ l, l = s[i] := ⟨_, rfl⟩
      rw [← hl] at hP hll f0 htk
      have hPr := hP.imp' (hb.mono hB) (Nat.le_refl _)
      obtain ⟨nl, hnl⟩ : ∃ nl, nl = l.length := ⟨_, rfl⟩
      rw [← hnl] at f0 hll
      obtain ⟨xs, hx1, hx2, hx3⟩ := hrow
      have hxl : xs.length = i := by rw [hx2, List.length_take]; omega
      obtain ⟨va, vc, rfl, -, -, -⟩ := OwnL.slice hx1
      have o0 := hO.cellAt (i := 0) (v := .slice va xs.length vc) rfl
      have hzob : zo < wr.heap.size := hO.lt
      have hzab : za < wr.heap.size := hA.lt
      replace hl := Lib.hid hl
      replace hnl := Lib.hid hnl
      replace htk := Lib.hid htk
      replace hx2 := Lib.hid hx2
      replace hxl := Lib.hid hxl
      clear hs hP
      go_upto_region 5 with fail
      refine wp_region_tree (fun wx => wx.cell? ⟨sb, soff + i, none⟩ = some (.slice la nl lc) ∧ wx.cell? ⟨za, 0, none⟩ = some (.slice (some ⟨sb, soff, none⟩) n cap) ∧ wx.cell? ⟨zo, 0, none⟩ = some (.slice va xs.length vc)) 10 13 (by kernel_rfl) rfl (by kernel_rfl) (fun d _ _ _ _ h => by cases d <;> exact h) (⟨f0, a0, o0⟩) (fun opz T hOps hT hTok hHeld => ?_)
      (refine wpTree_q 0 hTok hOps (by kernel_rfl) rfl rfl ⟨?_, ?_, ?_⟩; rotate_left; (focus (intro wx hSx; (try dsimp only at hSx); go_simp; (try with_reducible rfl))); (simp only [Act.put, List.setIfInBounds_toArray, List.set_cons_zero, List.set_cons_succ]))
      (refine wpTree_q 1 hTok hOps (by kernel_rfl) rfl rfl ⟨?_, ?_, ?_⟩; rotate_left; (focus (intro wx hSx; (try dsimp only at hSx); go_simp; (try with_reducible rfl))); (simp only [Act.put, List.setIfInBounds_toArray, List.set_cons_zero, List.set_cons_succ]))
      (refine wpTree_q 3 hTok hOps (by kernel_rfl) rfl rfl ⟨?_, ?_, ?_⟩; rotate_left; (focus (intro wx hSx; (try dsimp only at hSx); go_simp; (try with_reducible rfl))); (simp only [Act.put, List.setIfInBounds_toArray, List.set_cons_zero, List.set_cons_succ]))
      (refine wpTree_q 4 hTok hOps (by kernel_rfl) rfl rfl ⟨?_, ?_, ?_⟩; rotate_left; (focus (intro wx hSx; (try dsimp only at hSx); go_simp; (try with_reducible rfl))); (simp only [Act.put, List.setIfInBounds_toArray, List.set_cons_zero, List.set_cons_succ]))
      (refine wpTree_q 5 hTok hOps (by kernel_rfl) rfl rfl ⟨?_, ?_, ?_⟩; rotate_left; (focus (intro wx hSx; (try dsimp only at hSx); go_simp; (try with_reducible rfl))); (simp only [Act.put, List.setIfInBounds_toArray, List.set_cons_zero, List.set_cons_succ]))
      (refine wpTree_q 6 hTok hOps (by kernel_rfl) rfl rfl ⟨?_, ?_, ?_⟩; rotate_left; (focus (intro wx hSx; (try dsimp only at hSx); go_simp; (try with_reducible rfl))); (simp only [Act.put, List.setIfInBounds_toArray, List.set_cons_zero, List.set_cons_succ]))
      (refine wpTree_q 7 hTok hOps (by kernel_rfl) rfl rfl ⟨?_, ?_, ?_⟩; rotate_left; (focus (intro wx hSx; (try dsimp only at hSx); go_simp; (try with_reducible rfl))); (simp only [Act.put, List.setIfInBounds_toArray, List.set_cons_zero, List.set_cons_succ]))
      refine wpTree_1 2 hOps (by kernel_rfl) (by decide) rfl (fun K' hK => ?_)
      go_simp
      have hb2 : Below wr.heap.size wr (wr.alloc (.cells #[] 53)).drew := (belowAlloc _ _).drew
      have hE : OwnR (wr.alloc (.cells #[] 53)).drew w.heap.size (.slice (some ⟨wr.heap.size, 0, none⟩) 0 0) [] := OwnL.base_le (ownEmpty wr 2 53) hb.size
      have hsz2 : w.heap.size ≤ (wr.alloc (.cells #[] 53)).drew.heap.size := Nat.le_trans hb.size hb2.size
      refine hK.out _ _ ⟨(hb2.cell (p := ⟨sb, soff + i, none⟩) hsbw).trans f0, (hb2.cell (p := ⟨za, 0, none⟩) hzab).trans a0, (hb2.cell (p := ⟨zo, 0, none⟩) hzob).trans o0⟩ ?_
      obtain ⟨we, hwe⟩ : ∃ we, we = wr.heap.size := ⟨_, rfl⟩
      have hE2 : OwnL encR (wr.alloc (.cells #[] 53)).drew w.heap.size 53 2 (.slice (some ⟨we, 0, none⟩) 0 0) [] := by rw [hwe]; exact hE
      rw [← hwe]
      obtain ⟨w2, hw2⟩ : ∃ w2, w2 = (wr.alloc (.cells #[] 53)).drew := ⟨_, rfl⟩
      rw [← hw2] at hb2 hE2 hsz2 ⊢
      have hwew : wr.heap.size ≤ we := by omega
      replace hwe := Lib.hid hwe
      replace hw2 := Lib.hid hw2
      clear hK K' hE
      try simp only [Act.put, List.setIfInBounds_toArray, List.set_cons_zero, List.set_cons_succ]
      have hP2 := hPr.imp' (hb2.mono (Nat.le_trans hB hb.size)) (Nat.le_refl _)
      refine wpTree_1 8 hOps (by kernel_rfl) (by decide) rfl (fun K' hK => ?_)
      refine step_app_sla w2 rfl _ _ 29 rfl Try.underlying29 hiR hR0 hR1 hR2 rfl (by decide) (enc := encR) (xs := []) (ys := l) (B := B) (base := w.heap.size) rfl hE2 (by rw [← hnl.out]; rfl) hP2 encR_len encR_one (by rw [← hnl.out]; unfold maxLen; simp; omega) (by rw [← hnl.out]; simp; omega) hsz2 (fun v3 w3 hown3 hgr3 => ?_)
      rw [List.nil_append] at hown3
      have hb3 : Below wr.heap.size wr w3 := hb2.grown hgr3 hb2.size (fun g hg => by have e : some we = some g := hg; simp at e; omega)
      refine hK.out _ _ ⟨(hb3.cell (p := ⟨sb, soff + i, none⟩) hsbw).trans f0, (hb3.cell (p := ⟨za, 0, none⟩) hzab).trans a0, (hb3.cell (p := ⟨zo, 0, none⟩) hzob).trans o0⟩ ?_
      clear hK K' hgr3 hE2 hP2 hb2
      try simp only [Act.put, List.setIfInBounds_toArray, List.set_cons_zero, List.set_cons_succ]
      obtain ⟨a3, c3, rfl, -, -, -⟩ := OwnL.slice hown3
      rw [← hnl.out] at hown3 ⊢
      refine wpTree_1 9 hOps (by kernel_rfl) (by decide) rfl (fun K' hK => ?_)
      go_simp
      have hb4 : Below wr.heap.size wr (w3.alloc (.cells #[.slice a3 nl c3] 29)) := hb3.alloc hb3.size _
      refine hK.out _ _ ⟨(hb4.cell (p := ⟨sb, soff + i, none⟩) hsbw).trans f0, (hb4.cell (p := ⟨za, 0, none⟩) hzab).trans a0, (hb4.cell (p := ⟨zo, 0, none⟩) hzob).trans o0⟩ ?_
      clear hK K'
      try simp only [Act.put, List.setIfInBounds_toArray, List.set_cons_zero, List.set_cons_succ]
      refine wpTree_nil hOps (by kernel_rfl) ?_
      refine hT.out _ _ ?_
      simp only [List.drop_succ_cons, List.drop_zero]
      clear hOps hT hTok
      try clear hHeld
      have hx13 := OwnL.below hx1 hb3 (Nat.le_refl _)
      have hx33 : ∀ j (hj : j < (s.take i).length), ∃ x, xs[j]? = some x ∧ OwnR w3 w.heap.size (SlV.val x) (s.take i)[j] := fun j hj => by
        obtain ⟨x, h4, h5⟩ := hx3 j hj
        exact ⟨x, h4, OwnL.below h5 hb3 (Nat.le_refl _)⟩
      have hbw3 := hb.trans (hb3.mono hb.size)
      have hO3 := hO.below hb3 hO.lt
      have hA3 := hA.below hb3 hA.lt
      have hR3 := hR.below hb3 hR.lt
      clear hb4 hx1 hx3 f0 a0 o0 hO hA hR hb hb3
      go_wp2_with (at_builtin; refine Shut.out ?kb)
      unfold Shut
      refine wpList_app1q rfl _ _ 25 rfl Try.underlying25 hiS hS0 hS1 hS2 rfl (enc := encS3) ((a3, nl, c3) : SlV) rfl hx13 rfl (encS3_len _) (encS3_one _) (by have := hxl.out; omega) (by have := hxl.out; unfold maxLen; omega) hbw3.size ?_
      intro g5 cap5 w5 hown5 hgr5
      have hrow5 := RowL.snoc hx13 hx2.out hx33 hown3 hown5 hgr5
      rw [← htk.out] at hrow5
      have hty : ∀ k, (Value.slice va xs.length vc).ownBlock = some k → ∃ cs, Blk w3 k cs 29 := own_ty hx13
      have hc5 : Chg (fun k => (Value.slice va xs.length vc).ownBlock = some k) w3 w5 := Chg.of_grown hgr5.grown
      have hkeep : ∀ {b : Nat} {cs : Array Value}, Blk w3 b cs 27 → Blk w5 b cs 27 := fun {b cs} hb => hb.chg hc5 (fun s => by
        obtain ⟨ds, hd⟩ := hty b s
        exact absurd (blk_ty hd hb) (by decide))
      have hO5 := hkeep hO3
      have hA5 := hkeep hA3
      have hR5 := hkeep hR3
      have hbw5 : Below w.heap.size w w5 := hbw3.grown hgr5.grown hbw3.size (fun g e => (OwnL.lt hx13 g e).1)
      have o5 := hO5.cellAt (i := 0) (v := .slice va xs.length vc) rfl
      have of5 := hO5.frozen 0
      have hrow6 := hrow5.set_state hO5 (.slice (some ⟨g5, 0, none⟩) (xs.length + 1) cap5)
      have hO6 : Blk (w5.setCell ⟨zo, 0, none⟩ (.slice (some ⟨g5, 0, none⟩) (xs.length + 1) cap5)) zo #[.slice (some ⟨g5, 0, none⟩) (xs.length + 1) cap5] 27 := hO5.set 0 _
      have hA6 := hA5.set_other (p := ⟨zo, 0, none⟩) n1 (.slice (some ⟨g5, 0, none⟩) (xs.length + 1) cap5)
      have hR6 := hR5.set_other (p := ⟨zo, 0, none⟩) n2 (.slice (some ⟨g5, 0, none⟩) (xs.length + 1) cap5)
      have hb6 := hbw5.setCell (p := ⟨zo, 0, none⟩) hzow (.slice (some ⟨g5, 0, none⟩) (xs.length + 1) cap5)
      clear hown5 hgr5 hrow5 hx13 hx33 hown3 hO3 hA3 hR3 hty hc5 hkeep hO5 hA5 hR5 hbw3 hbw5
      go_wp2_with fail
      go_roundw
      case rel => exact ⟨i + 1, _, by omega, by go_num, hrow6, hO6, hA6, hR6, hb6⟩
      case measure => simp [intOf]; omega
    · have d1 : decide ((i : Int) < (n : Int)) = false := by simp; omega
      rw [List.take_of_length_le (by have := hn.out; omega)] at hrow
      obtain ⟨vo, vcp, rfl, -⟩ := hrow.sta
      obtain ⟨vn, hvn⟩ : ∃ vn, vn = s.length := ⟨_, rfl⟩
      rw [← hvn] at hrow hO
      obtain ⟨v, hv⟩ : ∃ v, v = Value.slice vo vn vcp := ⟨_, rfl⟩
      rw [← hv] at hrow hO
      replace hvn := Lib.hid hvn
      have o0 := hO.cellAt (i := 0) (v := v) rfl
      have r0 := hR.cellAt (i := 0) (v := .slice none 0 0) rfl
      have rf := hR.frozen 0
      have hrow2 := hrow.set_state hR v
      have hR2 := hR.set 0 v
      rw [hv] at o0 hrow2 hR2
      have hb2 := hb.setCell (p := ⟨zr, 0, none⟩) hzrw v
      rw [hv] at hb2
      clear hrow hO hA hv
      go_wp2_with fail
      refine bodyPost_ret (results_cell_row rfl _ _ zr 27 _ (0, 0) _ rfl hR2 Try.underlying27 rfl (by kernel_rfl)) rfl ?_
      exact ⟨_, rfl, hrow2, hb2⟩
end Go.Proofs.Ytbianedgogdeeaa

/- Model: what lies in memory while ModelKeeps walks. -/
namespace Go.Proofs.Ytbianedgogdeeaa
open Go.RowKit Go.Maps Fold Go.Lib
attribute [local go_sem] Oper.semAt_some
set_option linter.unusedVariables false
set_option linter.unusedSimpArgs false

/-- A slice of pairs that may be written over. -/
def Wr (w : World) (v : Value) (n : Nat) : Prop := (v = .slice none 0 0 ∧ n = 0) ∨ ∃ g cap cells, v = .slice (some ⟨g, 0, none⟩) n cap ∧ Blk w g cells 53 ∧ n * 2 ≤ cells.size
/-- Blocks stay what they are, but for their cells. -/
def Shp (w w' : World) : Prop := ∀ b cs T, Blk w b cs T → ∃ cs', Blk w' b cs' T ∧ cs'.size = cs.size
theorem Shp.refl (w : World) : Shp w w := fun b cs T h => ⟨cs, h, rfl⟩
theorem Shp.trans {a b c : World} (h : Shp a b) (k : Shp b c) : Shp a c := fun x cs T hx => by
  obtain ⟨cs1, h1, e1⟩ := h x cs T hx
  obtain ⟨cs2, h2, e2⟩ := k x cs1 T h1
  exact ⟨cs2, h2, e2.trans e1⟩
theorem Shp.set {w w' : World} (h : Shp w w') (g i : Nat) (v : Value) : Shp w (w'.setCell ⟨g, i, none⟩ v) := fun b cs T hb => by
  obtain ⟨cs1, h1, e1⟩ := h b cs T hb
  by_cases e : b = g
  · subst e
    exact ⟨_, h1.set i v, by simpa using e1⟩
  · exact ⟨cs1, h1.set_other (p := ⟨g, i, none⟩) e v, e1⟩
theorem Wr.shp {w w' : World} {v : Value} {n : Nat} (h : Wr w v n) (k : Shp w w') : Wr w' v n := by
  rcases h with h | ⟨g, cap, cells, h1, h2, h3⟩
  · exact .inl h
  · obtain ⟨cs', h4, h5⟩ := k _ _ _ h2
    exact .inr ⟨g, cap, cs', h1, h4, by omega⟩
theorem OwnR.wr {w : World} {base : Nat} {v : Value} {l : PRS} (h : OwnR w base v l) : Wr w v l.length := by
  rcases h.form with ⟨rfl, rfl⟩ | ⟨g, cap, cells, rfl, hb, hl, hm, hcs, _, hlt, htk⟩
  · exact .inl ⟨rfl, rfl⟩
  · exact .inr ⟨g, cap, cells, rfl, hb, by rw [hcs]; exact Nat.mul_le_mul_right _ hl⟩

set_option maxRecDepth 100000 in
set_option maxHeartbeats 2000000 in
theorem wipe2_any (v : Value) (n : Nat) (w : World) (h : Wr w v n) (hz : n ≤ 9223372036854775807) : Calls Try.prog 23 #[v] w fun e w' => e = .returned (.tuple #[]) ∧ Chg (fun k => v.ownBlock = some k) w w' ∧ Shp w w' := by
  obtain ⟨ao, cap, rfl⟩ : ∃ ao cap, v = .slice ao n cap := by
    rcases h with ⟨rfl, rfl⟩ | ⟨g, cap, cells, rfl, _⟩
    · exact ⟨none, 0, rfl⟩
    · exact ⟨_, cap, rfl⟩
  go_enter Try.func23, Try.ntmps23
  go_wp2_with fail
  go_loopw [2] (fun x2 wr => ∃ i : Nat, i ≤ n ∧ x2 = .int .i64 i ∧ Chg (fun k => (Value.slice ao n cap).ownBlock = some k) w wr ∧ Shp w wr) (fun x2 _ => n - (intOf x2).toNat)
  case atStart => exact ⟨0, Nat.zero_le _, rfl, Chg.refl _ _, Shp.refl _⟩
  case round =>
    obtain ⟨i, hi, rfl, hc, hs⟩ := hrel
    by_cases hin : i < n
    · have d1 : decide ((i : Int) < (n : Int)) = true := by simp; omega
      rcases h.shp hs with ⟨-, e⟩ | ⟨g, gc, cells, e1, hb, hcs⟩
      · omega
      simp only [Value.slice.injEq] at e1
      obtain ⟨rfl, -, rfl⟩ := e1
      obtain ⟨x0, q0⟩ : ∃ x, wr.cell? ⟨g, i * 2, none⟩ = some x := ⟨cells[i * 2]'(by omega), by rw [hb.cell]; simp⟩
      obtain ⟨x1, q1⟩ : ∃ x, wr.cell? ⟨g, i * 2 + 1, none⟩ = some x := ⟨cells[i * 2 + 1]'(by omega), by rw [hb.cell]; simp⟩
      have f0 := hb.frozen (i * 2)
      have f1 := hb.frozen (i * 2 + 1)
      have c1 : Chg (fun k => (Value.slice (some ⟨g, 0, none⟩) n cap).ownBlock = some k) w (wr.setCell ⟨g, i * 2, none⟩ (.string ⟨#[63]⟩)) := hc.setCell _ _ (fun _ => rfl)
      have c2 : Chg (fun k => (Value.slice (some ⟨g, 0, none⟩) n cap).ownBlock = some k) w ((wr.setCell ⟨g, i * 2, none⟩ (.string ⟨#[63]⟩)).setCell ⟨g, i * 2 + 1, none⟩ (.int .u32 9)) := c1.setCell _ _ (fun _ => rfl)
      have s2 := (hs.set g (i * 2) (.string ⟨#[63]⟩)).set g (i * 2 + 1) (.int .u32 9)
      clear c1 hc hs
      go_wp2_with fail
      go_roundw
      case rel => exact ⟨i + 1, by omega, by go_num, c2, s2⟩
      case measure => simp [intOf]; omega
    · have d1 : decide ((i : Int) < (n : Int)) = false := by simp; omega
      go_wp2_with fail
      refine bodyPost_end (results_none rfl _ _ _) rfl ?_
      exact ⟨rfl, hc, hs⟩

theorem sla_set {α : Type} {B sz z : Nat} {T : TypeId} {E E' : World → List Value → α → Prop} {w : World} {ao : Option Addr} {cap : Nat} {xs : List α} {u : Value} (h : SlA B sz E w ao cap xs) (hz : Blk w z #[.slice none 0 0] T) (h0 : 0 < sz)
    (hE : ∀ cs x, x ∈ xs → E w cs x → (∃ k n, cs[0]? = some (.int k n)) ∧ E' (w.setCell ⟨z, 0, none⟩ u) cs x) : SlA B sz E' (w.setCell ⟨z, 0, none⟩ u) ao cap xs := by
  obtain ⟨h1, h2, h3, h4⟩ := h
  refine ⟨h1, h2, h3, fun hne => ?_⟩
  obtain ⟨b, off, e, hb, h5⟩ := h4 hne
  refine ⟨b, off, e, hb, fun i hi => ?_⟩
  obtain ⟨cs, h6, h7, h8⟩ := h5 i hi
  obtain ⟨⟨k, n, h9⟩, h10⟩ := hE cs _ (List.getElem_mem hi) h8
  have hbz : z ≠ b := fun e2 => by
    have h11 := h7 0 h0
    rw [h9, ← e2, hz.cell] at h11
    cases hq : off + (i * sz + 0) with
    | zero => rw [hq] at h11; simp at h11
    | succ q => rw [hq] at h11; simp at h11
  refine ⟨cs, h6, fun j hj => ?_, h10⟩
  have hc : Chg (fun k => k = z) w (w.setCell ⟨z, 0, none⟩ u) := (Chg.refl _ _).setCell _ _ (fun _ => rfl)
  rw [← h7 j hj]
  by_cases hbl : b < w.heap.size
  · exact World.cell?_of_block (w := w) (a := ⟨b, _, none⟩) (hc.block b hbl (fun e2 => hbz e2.symm))
  · have h12 := h7 0 h0
    rw [h9] at h12
    exact absurd (World.lt_of_cell h12) hbl
theorem ops_set {B z : Nat} {T : TypeId} {w : World} {ao : Option Addr} {cap : Nat} {ops : List TOp} {u : Value} (h : SlA B 7 (ROp B) w ao cap ops) (hz : Blk w z #[.slice none 0 0] T) : SlA B 7 (ROp B) (w.setCell ⟨z, 0, none⟩ u) ao cap ops :=
  sla_set h hz (by omega) (fun cs x _ hr => by
    obtain ⟨a1, c1, rfl, h1, h2, h3⟩ := hr
    refine ⟨⟨_, _, rfl⟩, a1, c1, rfl, h1, ?_, h3⟩
    exact sla_set h2 hz (by omega) (fun cs n _ hn => by
      obtain ⟨rfl, h⟩ := hn
      exact ⟨⟨_, _, rfl⟩, rfl, h⟩))
theorem RowL.set_ty {w : World} {rb eb cb : Nat} {cs : Array Value} {v : Value} {F : List PRS} {T : TypeId} (h : RowL w rb eb v F) (hb : Blk w cb cs T) (h1 : 53 ≠ T) (h2 : 29 ≠ T) (u : Value) : RowL (w.setCell ⟨cb, 0, none⟩ u) rb eb v F := by
  have hc : Chg (fun k => k = cb) w (w.setCell ⟨cb, 0, none⟩ u) := (Chg.refl _ _).setCell _ _ (fun _ => rfl)
  refine h.chg hc (fun k hk => by subst hk; exact ⟨_, _, hb, h1⟩) (fun g e e2 => ?_)
  subst e2
  obtain ⟨xs, h3, _⟩ := h
  obtain ⟨ds, hd⟩ := own_ty h3 g e
  exact h2 (blk_ty hd hb)
theorem run2_any (ops : List TOp) (s : ST) (recs : List TRecord) (ga so ra : Option Addr) (gcap scap rcap B : Nat) (w : World) (hB : B ≤ w.heap.size) (hx : SlA B 7 (ROp B) w ga gcap ops) (hs : StA w B so scap s) (hr : SlA B 5 (RRecord B) w ra rcap recs) (hsok : okS s) (hsz : ∀ l ∈ s, l.length ≤ 5864062014805) (h0 : (runM ops s recs).2.2 = 0) :
    Calls Try.prog 10 #[.agg #[.slice ga ops.length gcap], .agg #[.slice so s.length scap], .slice ra recs.length rcap] w (RunPost2 w (runM ops s recs)) := by
  unfold runM at h0 ⊢
  by_cases h1 : (gcheck ops).2 ≠ 0
  · rw [if_pos h1] at h0
    cases h0
  rw [if_neg h1] at h0 ⊢
  by_cases h2 : goodS ops s = false
  · rw [if_pos h2] at h0
    cases h0
  rw [if_neg h2] at h0 ⊢
  by_cases h3 : 512 < recs.length
  · rw [if_pos h3] at h0
    cases h0
  rw [if_neg h3]
  exact run_ok2 ops s recs ga so ra gcap scap rcap B w hB hx hs hr (by omega) (by simpa using h2) (by omega) hsok hsz
theorem runM_len {ops : List TOp} {s : ST} {recs : List TRecord} (h0 : (runM ops s recs).2.2 = 0) : 1 ≤ ops.length ∧ ops.length ≤ 16 ∧ recs.length ≤ 512 := by
  unfold runM at h0
  by_cases h1 : (gcheck ops).2 ≠ 0
  · rw [if_pos h1] at h0
    cases h0
  rw [if_neg h1] at h0
  by_cases h2 : goodS ops s = false
  · rw [if_pos h2] at h0
    cases h0
  rw [if_neg h2] at h0
  by_cases h3 : 512 < recs.length
  · rw [if_pos h3] at h0
    cases h0
  obtain ⟨⟨h4, h5⟩, _⟩ := okB_of_check (ops := ops) (by omega)
  exact ⟨h4, h5, by omega⟩
/-- What was copied ahead of all. -/
structure KMem (w W : World) (zb sb z7 z8 : Nat) (gv sv wv ov rv : Value) (ops : List TOp) (s : ST) (recs : List TRecord) : Prop where
  bel : Below w.heap.size w W
  gB : Blk W zb #[gv] 24
  sB : Blk W sb #[sv] 27
  wB : Blk W z7 #[wv] 24
  oB : Blk W z8 #[ov] 27
  was : ∃ ao cap, wv = .slice ao ops.length cap ∧ SlA W.heap.size 7 (ROp W.heap.size) W ao cap ops
  old : RowL W w.heap.size w.heap.size ov s
  rcs : OwnD W w.heap.size rv recs
theorem KMem.below {w W W' : World} {zb sb z7 z8 : Nat} {gv sv wv ov rv : Value} {ops : List TOp} {s : ST} {recs : List TRecord} (h : KMem w W zb sb z7 z8 gv sv wv ov rv ops s recs) (hb : Below W.heap.size W W') : KMem w W' zb sb z7 z8 gv sv wv ov rv ops s recs :=
  ⟨h.bel.trans (hb.mono h.bel.size), h.gB.below hb h.gB.lt, h.sB.below hb h.sB.lt, h.wB.below hb h.wB.lt, h.oB.below hb h.oB.lt, by
    obtain ⟨ao, cap, h1, h2⟩ := h.was
    exact ⟨ao, cap, h1, h2.imp hb hb.size (fun _ _ _ h => h.imp hb hb.size)⟩, h.old.below hb, OwnL.below h.rcs hb (Nat.le_refl _)⟩
/-- A state that was told: its row and its lists. -/
theorem st_facts {W : World} {base b : Nat} {sv : Value} {st : ST} (h : StO W base sv st) (hl : StLow W b sv) (hne : st ≠ []) : ∃ (nr : Nat) (ns : List Value), sv = .slice (some ⟨nr, 0, none⟩) ns.length ns.length ∧ Blk W nr ns.toArray 29 ∧ base ≤ nr ∧ nr < b ∧ ns.length = st.length ∧
    ∀ v ∈ ns, (∃ a n c, v = .slice a n c ∧ Wr W v n ∧ n ≤ 9223372036854775807) ∧ ∀ g, v.ownBlock = some g → base ≤ g ∧ g < b := by
  rcases h with ⟨_, e⟩ | ⟨nr, ns, rfl, hB, h1, h2, _, h4⟩
  · exact absurd e hne
  rcases hl with e | ⟨nr', c, ns', e, hB', h5, h6⟩
  · cases e
  simp only [Value.slice.injEq, Option.some.injEq, Addr.mk.injEq] at e
  obtain ⟨⟨rfl, _⟩, _, _⟩ := e
  have hns : ns = ns' := by
    unfold Blk at hB hB'
    rw [hB] at hB'
    simp only [Option.some.injEq, Obj.cells.injEq] at hB'
    have := congrArg Array.toList hB'.1
    simpa using this
  subst hns
  refine ⟨nr, ns, rfl, hB, h1, h5, h2, fun v hv => ?_⟩
  obtain ⟨j, hj, rfl⟩ := List.getElem_of_mem hv
  obtain ⟨v, h7, h8⟩ := h4 j (by omega)
  rw [List.getElem?_eq_getElem hj] at h7
  simp only [Option.some.injEq] at h7
  rw [h7]
  obtain ⟨a, c, e, _, hm, _⟩ := OwnL.slice h8
  refine ⟨⟨a, _, c, e, OwnR.wr h8, ?_⟩, fun g hg => ⟨(OwnL.lt h8 g hg).1, h6 _ hv g (by rw [h7]; exact hg)⟩⟩
  have h9 := (OwnR.pra h8)
  obtain ⟨_, _, _, hP⟩ := h9
  exact hP.len
theorem StO.chgS {W W' : World} {base : Nat} {sv : Value} {st : ST} {S : Nat → Prop} (h : StO W base sv st) (hc : Chg S W W') (hS : ∀ k, base ≤ k → ¬ S k) : StO W' base sv st := by
  rcases h with h | ⟨nr, ns, rfl, hB, h1, h2, h3, h4⟩
  · exact .inl h
  · exact .inr ⟨nr, ns, rfl, hB.chg hc (hS _ h1), h1, h2, h3, fun j hj => by
      obtain ⟨v, h5, h6⟩ := h4 j hj
      exact ⟨v, h5, OwnL.chg h6 hc (fun g e => hS g (OwnL.lt h6 g e).1)⟩⟩
theorem two_pairs {W : World} {b B : Nat} {T : TypeId} {k : ByteArray} {u : Nat} (h : Blk W b #[.string k, .int .u32 (u : Nat), .string k, .int .u32 (u : Nat)] T) (hb : b < B) : SlA B 2 (fun _ cs p => cs = encR p) W (some ⟨b, 0, none⟩) 2 [(k, u), (k, u)] :=
  SlA.of_blk h hb (by simp) (by unfold maxLen; omega) (fun i hi => by
    match i, hi with
    | 0, _ => exact ⟨_, rfl, fun j hj => (match j, hj with | 0, _ => rfl | 1, _ => rfl), rfl⟩
    | 1, _ => exact ⟨_, rfl, fun j hj => (match j, hj with | 0, _ => rfl | 1, _ => rfl), rfl⟩)
end Go.Proofs.Ytbianedgogdeeaa

/- Model: the walk of ModelKeeps. -/
namespace Go.Proofs.Ytbianedgogdeeaa
open Go.RowKit Go.Maps Fold Go.Lib
attribute [local go_sem] Oper.semAt_some
set_option linter.unusedVariables false
set_option linter.unusedSimpArgs false

theorem Shp.of_below {w w' : World} (h : Below w.heap.size w w') : Shp w w' := fun b cs T hb => ⟨cs, hb.below h hb.lt, rfl⟩
theorem Wr.lt {w : World} {v : Value} {n : Nat} (h : Wr w v n) : ∀ g, v.ownBlock = some g → g < w.heap.size := fun g e => by
  rcases h with ⟨rfl, -⟩ | ⟨g', cap, cells, rfl, hb, -⟩
  · cases e
  · obtain rfl : g' = g := Option.some.inj e
    exact hb.lt
theorem Wr.chg {w w' : World} {v : Value} {n : Nat} {S : Nat → Prop} (h : Wr w v n) (hc : Chg S w w') (hS : ∀ g, v.ownBlock = some g → ¬ S g) : Wr w' v n := by
  rcases h with h | ⟨g, cap, cells, rfl, hb, hl⟩
  · exact .inl h
  · exact .inr ⟨g, cap, cells, rfl, hb.chg hc (hS g rfl), hl⟩
theorem Wr.ne {w : World} {v : Value} {n : Nat} (h : Wr w v n) {b : Nat} {cs : Array Value} {T : TypeId} (hb : Blk w b cs T) (hT : 53 ≠ T) : v.ownBlock ≠ some b := fun e => by
  rcases h with ⟨rfl, -⟩ | ⟨g', cap, cells, rfl, hb', -⟩
  · cases e
  · obtain rfl : g' = b := Option.some.inj e
    exact hT (blk_ty hb' hb)
/-- What was told, while it is written over. -/
structure TMem (w8 : World) (B2 nr z11 z14 n2 : Nat) (ns : List Value) (mv uv : Value) (R1 : PRS) (R2 : ST) (V : World) : Prop where
  bel : Below w8.heap.size w8 V
  nrB : Blk V nr ns.toArray 29
  tB : Blk V z11 #[.slice (some ⟨nr, 0, none⟩) n2 n2] 27
  uB : Blk V z14 #[uv] 27
  z14 : B2 ≤ z14
  own : OwnR V B2 mv R1
  st : StO V B2 uv R2
  wr : ∀ v ∈ ns, (∃ a n c, v = .slice a n c ∧ Wr V v n ∧ n ≤ 9223372036854775807) ∧ ∀ g, v.ownBlock = some g → w8.heap.size ≤ g ∧ g < B2
theorem TMem.chg {w8 : World} {B2 nr z11 z14 n2 : Nat} {ns : List Value} {mv uv : Value} {R1 : PRS} {R2 : ST} {V V' : World} {S : Nat → Prop} (h : TMem w8 B2 nr z11 z14 n2 ns mv uv R1 R2 V) (hc : Chg S V V')
    (hS : ∀ k, S k → w8.heap.size ≤ k ∧ k < B2 ∧ k ≠ nr ∧ k ≠ z11) (hw : ∀ v ∈ ns, ∀ n, Wr V v n → Wr V' v n) : TMem w8 B2 nr z11 z14 n2 ns mv uv R1 R2 V' :=
  ⟨h.bel.trans (hc.below h.bel.size (fun k hk hs => by have := (hS k hs).1; omega)), h.nrB.chg hc (fun hs => (hS _ hs).2.2.1 rfl), h.tB.chg hc (fun hs => (hS _ hs).2.2.2 rfl), by
    have hn : ¬ S z14 := fun hs => by have := (hS _ hs).2.1; have := h.z14; omega
    exact h.uB.chg hc hn, h.z14, OwnL.chg h.own hc (fun g e hs => by have := (OwnL.lt h.own g e).1; have := (hS _ hs).2.1; omega), h.st.chgS hc (fun k hk hs => by have := (hS _ hs).2.1; omega), fun v hv => by
    obtain ⟨⟨a, n, c, h1, h2, h3⟩, h4⟩ := h.wr v hv
    exact ⟨⟨a, n, c, h1, hw v hv n h2, h3⟩, h4⟩⟩
theorem TMem.below {w8 : World} {B2 nr z11 z14 n2 : Nat} {ns : List Value} {mv uv : Value} {R1 : PRS} {R2 : ST} {V V' : World} (h : TMem w8 B2 nr z11 z14 n2 ns mv uv R1 R2 V) (hb : Below V.heap.size V V') : TMem w8 B2 nr z11 z14 n2 ns mv uv R1 R2 V' :=
  ⟨h.bel.trans (hb.mono h.bel.size), h.nrB.below hb h.nrB.lt, h.tB.below hb h.tB.lt, h.uB.below hb h.uB.lt, h.z14, OwnL.below h.own hb (Nat.le_refl _), h.st.below hb, fun v hv => by
    obtain ⟨⟨a, n, c, h1, h2, h3⟩, h4⟩ := h.wr v hv
    exact ⟨⟨a, n, c, h1, h2.shp (Shp.of_below hb), h3⟩, h4⟩⟩
/-- One of the lists is written over. -/
theorem TMem.wipe {w8 : World} {B2 nr z11 z14 n2 : Nat} {ns : List Value} {mv uv : Value} {R1 : PRS} {R2 : ST} {V V' : World} (h : TMem w8 B2 nr z11 z14 n2 ns mv uv R1 R2 V) {v : Value} (hv : v ∈ ns) (hc : Chg (fun k => v.ownBlock = some k) V V') (hs : Shp V V') : TMem w8 B2 nr z11 z14 n2 ns mv uv R1 R2 V' := by
  obtain ⟨⟨a, n, c, h1, h2, h3⟩, h4⟩ := h.wr v hv
  exact h.chg hc (fun k hk => ⟨(h4 k hk).1, (h4 k hk).2, fun e => h2.ne h.nrB (by decide) (e ▸ hk), fun e => h2.ne h.tB (by decide) (e ▸ hk)⟩) (fun _ _ _ h => h.shp hs)
theorem runF_cut {s : ST} {recs : List TRecord} : ∀ (ops : List TOp) (f : List PRS) (n : ST) (f' : List PRS) (n' : ST), (∀ l ∈ f, l.length ≤ 4096) → runF s recs ops f n = some (f', n') → ∀ l ∈ f', l.length ≤ 4096
  | [], f, n, f', n', h, he => by
    simp only [runF, Option.some.injEq, Prod.mk.injEq] at he
    obtain ⟨rfl, rfl⟩ := he
    exact h
  | o :: ops, f, n, f', n', h, he => by
    unfold runF at he
    split at he
    · cases he
    · rename_i hl
      refine runF_cut ops _ _ f' n' (fun l hm => ?_) he
      rcases List.mem_append.1 hm with h1 | h1
      · exact h l h1
      · rw [List.mem_singleton.1 h1]; omega
/-- What Run hands back is short. -/
theorem runM_cut (ops : List TOp) (s : ST) (recs : List TRecord) : (runM ops s recs).1.length ≤ 4096 := by
  unfold runM
  split
  · exact Nat.zero_le _
  split
  · exact Nat.zero_le _
  split
  · exact Nat.zero_le _
  split
  · exact Nat.zero_le _
  · rename_i f n e
    show (sortP (f.getLast?.getD [])).length ≤ 4096
    rw [(sortP_perm _).length_eq]
    cases hg : f.getLast? with
    | none => exact Nat.zero_le _
    | some l => exact runF_cut ops [] [] f n (fun l h => by cases h) e l (List.mem_of_getLast? hg)
theorem recA_at {B : Nat} {w : World} {b off cap i : Nat} {l : List TRecord} (h : SlA B 5 (RRecord B) w (some ⟨b, off, none⟩) cap l) (hi : i < l.length) :
    w.cell? ⟨b, off + i * 5, none⟩ = some (.int .i64 l[i].fProducer) ∧ w.cell? ⟨b, off + i * 5 + 1, none⟩ = some (.int .i64 l[i].fSeq) ∧ w.cell? ⟨b, off + i * 5 + 2, none⟩ = some (.int .i64 l[i].fPart) ∧ w.cell? ⟨b, off + i * 5 + 3, none⟩ = some (.string l[i].fKey) ∧ w.cell? ⟨b, off + i * 5 + 4, none⟩ = some (.int .u32 l[i].fVal) := by
  obtain ⟨cs, _, hc, h1⟩ := h.get i hi
  obtain ⟨rfl, -⟩ := h1
  exact ⟨by have := hc 0 (by omega); simpa using this, by have := hc 1 (by omega); simpa [Nat.add_assoc] using this, by have := hc 2 (by omega); simpa [Nat.add_assoc] using this, by have := hc 3 (by omega); simpa [Nat.add_assoc] using this, by have := hc 4 (by omega); simpa [Nat.add_assoc] using this⟩
theorem graph_refl (B : Nat) (xs : List TOp) (n : Nat) (hn : n = xs.length) (ao1 ao2 : Option Addr) (cap1 cap2 : Nat) (w : World) (hB : B ≤ w.heap.size) (hx : SlA B 7 (ROp B) w ao1 cap1 xs) (hy : SlA B 7 (ROp B) w ao2 cap2 xs) :
    Calls Try.prog 25 #[.agg #[.slice ao1 n cap1], .agg #[.slice ao2 n cap2]] w fun e w' => e = .returned (.bool true) ∧ Below w.heap.size w w' := by
  subst hn
  refine (sameGraph_any B xs xs ao1 ao2 cap1 cap2 w hB hx hy).mono ?_
  rintro e w' ⟨⟨g, rfl, hg⟩, hb⟩
  exact ⟨by rw [hg.2 rfl], hb⟩

set_option maxRecDepth 100000 in
set_option maxHeartbeats 8000000 in
theorem mkeeps_walk (ops : List TOp) (s : ST) (recs : List TRecord) (ga so ra : Option Addr) (gcap scap rcap : Nat) (w : World) (hx : SlA w.heap.size 7 (ROp w.heap.size) w ga gcap ops) (hs : StA w w.heap.size so scap s) (hr : SlA w.heap.size 5 (RRecord w.heap.size) w ra rcap recs) (hsok : okS s) (hsz : ∀ l ∈ s, l.length ≤ 5864062014805) (hsl : s.length ≤ 5864062014805)
    (hgz : ops.length * 72 ≤ 140737488355328) (hgi : ∀ o ∈ ops, o.fIn.length * 8 ≤ 140737488355328) (hrz : recs.length * 48 ≤ 140737488355328) :
    Calls Try.prog 7 #[.agg #[.slice ga ops.length gcap], .agg #[.slice so s.length scap], .slice ra recs.length rcap] w fun e w' => e = .returned (.bool true) ∧ Below w.heap.size w w' := by
  obtain ⟨iD, hiD, hD0, hD1, hD2⟩ := partsD
  obtain ⟨iR, hiR, hR0, hR1, hR2⟩ := partsR
  have hxW := fun W (hW : Below w.heap.size w W) => imp_ops hx hW
  have hsW := fun W (hW : Below w.heap.size w W) => hs.imp' hW (Nat.le_refl _)
  have hrW : ∀ W, Below w.heap.size w W → SlA w.heap.size 5 (RRecord w.heap.size) W ra rcap recs := fun W hW => hr.imp hW (Nat.le_refl _) (fun _ _ _ h => h.imp hW (Nat.le_refl _))
  have hcg := fun W (hW : Below w.heap.size w W) => copyGraph_any w.heap.size ops ga gcap W hW.size (hxW W hW) hgz hgi
  have hcs := fun W (hW : Below w.heap.size w W) => copyState_any s so scap w.heap.size W hW.size (hsW W hW) hsl hsz
  have hrun := fun W (hW : Below w.heap.size w W) => run_any ops s recs ga so ra gcap scap rcap w.heap.size W hW.size (hxW W hW) (hsW W hW) (hrW W hW) hsok hsz
  have hrun2 := fun (h0 : (runM ops s recs).2.2 = 0) W (hW : Below w.heap.size w W) => run2_any ops s recs ga so ra gcap scap rcap w.heap.size W hW.size (hxW W hW) (hsW W hW) (hrW W hW) hsok hsz h0
  have hRl := runM_len (ops := ops) (s := s) (recs := recs)
  have hRn := runM_ok_len (ops := ops) (s := s) (recs := recs)
  have hRd := rrun_any ops s recs
  have hkn := fun W => mknown_any W
  obtain ⟨n, hn⟩ : ∃ n, n = ops.length := ⟨_, rfl⟩
  obtain ⟨sl, hsle⟩ : ∃ sl, sl = s.length := ⟨_, rfl⟩
  obtain ⟨m, hm⟩ : ∃ m, m = recs.length := ⟨_, rfl⟩
  rw [← hn] at hcg hrun hrun2 hRl hRn hRd ⊢
  rw [← hsle] at hcs hrun hrun2 hRd ⊢
  rw [← hm] at hrz hrun hrun2 hRl hRd ⊢
  obtain ⟨⟨R1, R2, he⟩, hR⟩ : ∃ R, R = runM ops s recs := ⟨_, rfl⟩
  rw [← hR] at hrun hrun2 hRl hRn hRd
  dsimp only at hRl hRn hrun2
  unfold RunPost at hrun
  unfold RunPost2 at hrun2
  unfold RRPost at hRd
  dsimp only at hrun hrun2 hRd
  obtain ⟨n1, hn1⟩ : ∃ n1, n1 = R1.length := ⟨_, rfl⟩
  obtain ⟨n2, hn2⟩ : ∃ n2, n2 = R2.length := ⟨_, rfl⟩
  have hRo : n1 ≤ 4096 := by rw [hn1, show R1 = (runM ops s recs).1 by rw [← hR]]; exact runM_cut ops s recs
  rw [← hn2] at hRn hRd
  replace hrun2 := Lib.hid hrun2
  replace hRl := Lib.hid hRl
  replace hRo := Lib.hid hRo
  replace hRn := Lib.hid hRn
  replace hRd := Lib.hid hRd
  replace hR := Lib.hid hR
  replace hn1 := Lib.hid hn1
  replace hn2 := Lib.hid hn2
  replace hcg := Lib.hid hcg
  replace hcs := Lib.hid hcs
  replace hrun := Lib.hid hrun
  replace hkn := Lib.hid hkn
  replace hn := Lib.hid hn
  replace hsle := Lib.hid hsle
  replace hm := Lib.hid hm
  replace hxW := Lib.hid hxW
  replace hsW := Lib.hid hsW
  replace hrW := Lib.hid hrW
  replace hsz := Lib.hid hsz
  replace hgi := Lib.hid hgi
  go_enter Try.func7, Try.ntmps7
  go_upto_region 1 with fail
  refine Code.wp_world ?_
  intro w1 hw1
  have hb1 : Below w.heap.size w w1 := by rw [hw1]; exact (by repeat (first | exact Below.refl _ _ | refine below_drewN ?_ _ | refine Below.drew ?_ | (refine Below.alloc ?_ (by simp; try omega) _)))
  have hG1 : Blk w1 w.heap.size #[.slice ga n gcap] 24 := by rw [hw1]; exact (Blk.new _ _ _).alloc _
  have hS1 : Blk w1 (w.heap.size + 1) #[.slice so sl scap] 27 := by
    rw [hw1]
    have := Blk.new (w.alloc (.cells #[.slice ga n gcap] 24)) #[.slice so sl scap] 27
    rwa [World.size_alloc] at this
  obtain ⟨zb, hzb⟩ : ∃ zb, zb = w.heap.size := ⟨_, rfl⟩
  obtain ⟨sb, hsb⟩ : ∃ sb, sb = w.heap.size + 1 := ⟨_, rfl⟩
  rw [← hzb] at hG1
  rw [← hsb] at hS1
  try rw [← hsb]
  rw [← hzb]
  replace hzb := Lib.hid hzb
  replace hsb := Lib.hid hsb
  clear hw1
  go_wp2_with (go_at_call 12; refine Shut.out ?ka)
  unfold Shut
  refine (hkn.out w1).mono ?_
  rintro e w2 ⟨rfl, hb2⟩
  have hbw2 := hb1.trans (hb2.mono hb1.size)
  have hG2 := hG1.below hb2 hG1.lt
  have hS2 := hS1.below hb2 hS1.lt
  have g0 := hG2.cellAt (i := 0) (v := .slice ga n gcap) rfl
  have s0 := hS2.cellAt (i := 0) (v := .slice so sl scap) rfl
  have hzbl := hG2.lt
  have hsbl := hS2.lt
  clear hkn hb1 hb2 hG1 hS1
  dsimp only
  go_upto_region 3 with fail
  obtain ⟨n0, hn0⟩ : ∃ n0, n0 = w2.heap.size := ⟨_, rfl⟩
  refine wp_region_flta2t (fun _ => False) (fun wx => n0 ≤ wx.heap.size ∧ wx.cell? ⟨zb, 0, none⟩ = some (.slice ga n gcap) ∧ wx.cell? ⟨sb, 0, none⟩ = some (.slice so sl scap)) 6
    [0, 2, 1, 3] [1, 3] 4 5 n0 #[.slice none 0 0] #[.slice none 0 0] 24 27 (by kernel_rfl) (by kernel_rfl) rfl rfl rfl rfl ?hrun ?hrun2 (fun d _ _ _ _ h => by cases d <;> exact h) (fun d _ _ _ _ h => by cases d <;> exact h) (fun k hk => hk.elim) (fun u hu => hu.1) ?hSa ?hSa2 ⟨Nat.le_of_eq hn0, g0, s0⟩ (fun hHeld => ?hgo)
  case hrun =>
    intro a u
    go_simp
  case hrun2 =>
    intro a u
    go_simp
  case hSa =>
    rintro u ⟨h1, h2, h3⟩
    exact ⟨by simp; omega, (World.cell?_alloc_lt _ _ _ (World.lt_of_cell h2)).trans h2, (World.cell?_alloc_lt _ _ _ (World.lt_of_cell h3)).trans h3⟩
  case hSa2 =>
    rintro u ⟨h1, h2, h3⟩
    exact ⟨by simp; omega, (World.cell?_alloc_lt _ _ _ (World.lt_of_cell h2)).trans h2, (World.cell?_alloc_lt _ _ _ (World.lt_of_cell h3)).trans h3⟩
  case hgo =>
    simp only [List.take_succ_cons, List.take_zero, List.drop_succ_cons, List.drop_zero, pickN, Nat.reduceSub]
    have hb : Below w2.heap.size w2 w2.drew := (Below.refl _ _).drew
    clear g0 s0 hHeld
    iterate 2 (refine wpMidF_q rfl rfl ⟨?_, ?_, ?_⟩; rotate_left; (focus (intro wx hSx; obtain ⟨hSx1, hSx2, hSx3⟩ := hSx; (try dsimp only at hSx1 hSx2 hSx3); go_simp; (try with_reducible rfl))); (simp only [Act.put, List.setIfInBounds_toArray, List.set_cons_zero, List.set_cons_succ]))
    refine wpMidF_s rfl rfl (fun wf hbf hSf K' hK => ?_)
    go_simp
    have hbf1 := hb.trans (hbf.mono hb.size)
    refine (hcg.out _ (hbw2.trans (hbf1.mono hbw2.size))).mono ?_
    rintro e w3 ⟨hb3, v3, ps, rfl, hOp, hpx⟩
    dsimp only
    replace hb := hbf1.trans (hb3.mono hbf1.size)
    obtain ⟨wo, wc, e3, hW3⟩ := hOp.sla
    have hpl : ps.length = n := by rw [hn.out, ← hpx, List.length_map]
    rw [hpx] at hW3
    rw [hpl] at e3
    subst e3
    refine hK.out _ _ ((Chg.of_below hb3).mono (fun k h1 h2 => absurd h2 (by omega))) ⟨by rw [hn0]; exact hb.size, (hb.cell (p := ⟨zb, 0, none⟩) hzbl).trans (hG2.cellAt (i := 0) (v := .slice ga n gcap) rfl), (hb.cell (p := ⟨sb, 0, none⟩) hsbl).trans (hS2.cellAt (i := 0) (v := .slice so sl scap) rfl)⟩ ?_
    clear hK K' hSf hbf hbf1 hb3 hOp hpx hpl
    try simp only [Act.put, List.setIfInBounds_toArray, List.set_cons_zero, List.set_cons_succ]
    refine wpMidF_s rfl rfl (fun wf2 hbf hSf K' hK => ?_)
    go_simp
    have hW4 := hW3.imp hbf hbf.size (fun _ _ _ h => h.imp hbf hbf.size)
    have hbf1 := hb.trans (hbf.mono hb.size)
    have hbwf := hbw2.trans (hbf1.mono hbw2.size)
    refine (hcs.out _ hbwf).mono ?_
    rintro e w4 ⟨v4, rfl, hOld, hb4⟩
    dsimp only
    replace hb := hbf1.trans (hb4.mono hbf1.size)
    have hW5 := hW4.imp hb4 hb4.size (fun _ _ _ h => h.imp hb4 hb4.size)
    have hOld4 : RowL w4 w.heap.size w.heap.size v4 s := by
      obtain ⟨xs, h1, h2, h3⟩ := hOld
      exact ⟨xs, OwnL.base_le h1 hbwf.size, h2, fun j hj => by
        obtain ⟨x, h4, h5⟩ := h3 j hj
        exact ⟨x, h4, OwnL.base_le h5 hbwf.size⟩⟩
    refine hK.out _ _ ((Chg.of_below hb4).mono (fun k h1 h2 => absurd h2 (by omega))) ⟨by rw [hn0]; exact hb.size, (hb.cell (p := ⟨zb, 0, none⟩) hzbl).trans (hG2.cellAt (i := 0) (v := .slice ga n gcap) rfl), (hb.cell (p := ⟨sb, 0, none⟩) hsbl).trans (hS2.cellAt (i := 0) (v := .slice so sl scap) rfl)⟩ ?_
    clear hK K' hSf hbf hbf1 hb4 hOld hW3 hW4
    try simp only [Act.put, List.setIfInBounds_toArray, List.set_cons_zero, List.set_cons_succ]
    refine wpMidF_nil (fun w5 hb5 hS5 z7 z8 w6 hb6 h7n h8n hZ7 hZ8 => ?_)
    have hb46 := hb5.trans (hb6.mono hb5.size)
    replace hb := hb.trans (hb46.mono hb.size)
    have hW6 := hW5.imp hb46 hb46.size (fun _ _ _ h => h.imp hb46 hb46.size)
    have hOld6 := hOld4.below hb46
    obtain ⟨oo, oc, e4, -⟩ := hOld6.sta
    subst e4
    rw [← hsle.out] at hOld6 ⊢
    have hbw6 := hbw2.trans (hb.mono hbw2.size)
    have hG6 := hG2.below hb hG2.lt
    have hS6 := hS2.below hb hS2.lt
    have h78 : z7 ≠ z8 := fun e => by
      subst e
      exact absurd (blk_ty hZ7 hZ8) (by decide)
    have hzb7 : zb ≠ z7 := by omega
    have hzb8 : zb ≠ z8 := by omega
    have hsb7 : sb ≠ z7 := by omega
    have hsb8 : sb ≠ z8 := by omega
    have h7w : w.heap.size ≤ z7 := by have := hbw2.size; omega
    have h8w : w.heap.size ≤ z8 := by have := hbw2.size; omega
    have c7 := hZ7.cellAt (i := 0) (v := .slice none 0 0) rfl
    have c8 := hZ8.cellAt (i := 0) (v := .slice none 0 0) rfl
    have f7 := hZ7.frozen 0
    have f8 := hZ8.frozen 0
    clear hb5 hS5 hb6 hb46 hW5 hOld4 hG2 hS2 hbwf
    go_upto_region 4 with fail
    refine Code.wp_world ?_
    intro w7 hw7
    have hZ8' := hZ8.set_other (p := ⟨z7, 0, none⟩) (fun e => h78 e.symm) (.slice wo n wc)
    have hW7 : SlA w7.heap.size 7 (ROp w7.heap.size) w7 wo wc ops := by
      have h1 := ops_set (ops_set hW6 hZ7 (u := .slice wo n wc)) hZ8' (u := .slice oo sl oc)
      have hle : w6.heap.size ≤ w7.heap.size := by
        rw [hw7]
        exact (((Chg.refl (fun _ => True) w6).setCell ⟨z7, 0, none⟩ (.slice wo n wc) (fun _ => trivial)).setCell ⟨z8, 0, none⟩ (.slice oo sl oc) (fun _ => trivial)).size
      rw [← hw7] at h1
      exact h1.imp (Below.refl _ _) hle (fun _ _ _ h => h.imp (Below.refl _ _) hle)
    have hO7 : RowL w7 w.heap.size w.heap.size (.slice oo sl oc) s := by
      rw [hw7]
      exact (hOld6.set_ty hZ7 (by decide) (by decide) _).set_ty hZ8' (by decide) (by decide) _
    have hG7 : Blk w7 zb #[.slice ga n gcap] 24 := by rw [hw7]; exact (hG6.set_other (p := ⟨z7, 0, none⟩) hzb7 _).set_other (p := ⟨z8, 0, none⟩) hzb8 _
    have hS7 : Blk w7 sb #[.slice so sl scap] 27 := by rw [hw7]; exact (hS6.set_other (p := ⟨z7, 0, none⟩) hsb7 _).set_other (p := ⟨z8, 0, none⟩) hsb8 _
    have hZ7' : Blk w7 z7 #[.slice wo n wc] 24 := by rw [hw7]; exact (hZ7.set 0 _).set_other (p := ⟨z8, 0, none⟩) h78 _
    have hZ8'' : Blk w7 z8 #[.slice oo sl oc] 27 := by rw [hw7]; exact hZ8'.set 0 _
    have hb7 : Below w.heap.size w w7 := by rw [hw7]; exact (hbw6.setCell (p := ⟨z7, 0, none⟩) h7w _).setCell (p := ⟨z8, 0, none⟩) h8w _
    clear hw7 hZ7 hZ8 hZ8' hW6 hOld6 hG6 hS6 hbw6 hb c7 c8 f7 f8 hcg hcs
    go_wp2_with (at_builtin; refine Shut.out ?kb)
    unfold Shut
    have hbA := belowAlloc w7 (.cells #[] 47)
    have hrs4 := (recs_sla hr).1.imp (hb7.trans (hbA.mono hb7.size)) (Nat.le_refl _) (E' := fun _ cs x => cs = encD x) (fun _ _ _ h => h)
    have hwf := (recs_sla hr).2
    refine wpList_app_sla (xs := []) (ys := recs) (enc := encD) (base := w7.heap.size) _ rfl _ _ 28 rfl Try.underlying28 hiD hD0 hD1 hD2 rfl (by decide) rfl (ownEmpty w7 5 47) (by show Value.slice ra m rcap = _; rw [hm.out]) hrs4 encD_len encD_one (by have := hm.out; unfold maxLen; simp; omega) (by have := hm.out; simp; omega) (by simp) (fun v8 w8 hown8 hgr8 => ?_)
    rw [List.nil_append] at hown8
    have hb8 : Below w7.heap.size w7 w8 := hbA.grown hgr8 (by simp) (fun g hg => by simp [Act.eval, Value.ownBlock] at hg; omega)
    obtain ⟨r8, rc8, rfl, -, -, -⟩ := OwnL.slice hown8
    rw [← hm.out] at hown8 ⊢
    have hK8 : KMem w w8 zb sb z7 z8 (.slice ga n gcap) (.slice so sl scap) (.slice wo n wc) (.slice oo sl oc) (.slice r8 m rc8) ops s recs :=
      ⟨hb7.trans (hb8.mono hb7.size), hG7.below hb8 hG7.lt, hS7.below hb8 hS7.lt, hZ7'.below hb8 hZ7'.lt, hZ8''.below hb8 hZ8''.lt, ⟨wo, wc, by rw [hn.out], hW7.imp hb8 hb8.size (fun _ _ _ h => h.imp hb8 hb8.size)⟩, hO7.below hb8, OwnL.base_le hown8 hb7.size⟩
    replace hwf := Lib.hid hwf
    clear hbA hrs4 hgr8 hown8 hb8 hW7 hO7 hG7 hS7 hZ7' hZ8'' hb7 hzbl hsbl hbw2 hzb7 hzb8 hsb7 hsb8 h7w h8w h7n h8n hn0
    have g8 := hK8.gB.cellAt (i := 0) (v := .slice ga n gcap) rfl
    have s8 := hK8.sB.cellAt (i := 0) (v := .slice so sl scap) rfl
    have hdone : Hid (∀ W, Below w8.heap.size w8 W → KMem w W zb sb z7 z8 (.slice ga n gcap) (.slice so sl scap) (.slice wo n wc) (.slice oo sl oc) (.slice r8 m rc8) ops s recs) := Lib.hid (fun W hW => hK8.below hW)
    have hb8 := hK8.bel
    clear hK8
    by_cases h0 : he = 0
    · obtain ⟨hn1l, hn17, hm5⟩ := hRl.out h0
      have hn2n := hRn.out h0
      have hno := hRo.out
      have hn2l : 1 ≤ n2 := by omega
      have hn2h : n2 ≤ 16 := by omega
      have hne : R2 ≠ [] := fun e => by have := hn2.out; rw [e] at this; simp at this; omega
      have hrun8 := hrun2.out h0 w8 hb8
      subst h0
      rw [show ((0 : Nat) : Int) = 0 from rfl] at hrun8
      replace hrun8 := Lib.hid hrun8
      clear hrun2 hRl hRn hRo hn2n hn1l
      go_wp2_with (go_at_call 10; refine Shut.out ?fa)
      unfold Shut
      refine hrun8.out.mono ?_
      rintro e w9 ⟨v9, sv9, b9, rfl, hO9, hT9, hb9, hbb9, hL9⟩
      obtain ⟨nr, ns, e9, hB9, hr1, hr2, hnl, hv9⟩ := st_facts hT9 hL9 hne
      rw [hnl, ← hn2.out] at e9
      subst e9
      replace hnl := Lib.hid (hnl.trans hn2.out.symm)
      obtain ⟨l9, lc9, rfl, -⟩ := OwnR.pra hO9
      rw [← hn1.out] at hO9 ⊢
      clear hrun8 hT9 hL9 hne g8 s8
      dsimp only
      go_upto_region 6 with fail
      refine Code.wp_world ?_
      intro w10 hw10
      have hb10 : Below w8.heap.size w8 w10 := by rw [hw10]; exact hb9.alloc hb9.size _
      have hbA : Below w9.heap.size w9 w10 := by rw [hw10]; exact belowAlloc _ _
      have hT10 : Blk w10 w9.heap.size #[.slice (some ⟨nr, 0, none⟩) n2 n2] 27 := by rw [hw10]; exact Blk.new _ _ _
      obtain ⟨z11, hz11⟩ : ∃ z11, z11 = w9.heap.size := ⟨_, rfl⟩
      rw [← hz11] at hT10 ⊢
      have hN10 := hB9.below hbA hB9.lt
      have hO10 := OwnL.below hO9 hbA (Nat.le_refl _)
      have hl9 := OwnL.lt hO9
      have hv10 : ∀ v ∈ ns, (∃ a n c, v = .slice a n c ∧ Wr w10 v n ∧ n ≤ 9223372036854775807) ∧ ∀ g, v.ownBlock = some g → w8.heap.size ≤ g ∧ g < b9 ∧ g < z11 := fun v hv => by
        obtain ⟨⟨a, k, c, h1, h2, h3⟩, h4⟩ := hv9 v hv
        exact ⟨⟨a, k, c, h1, h2.shp (Shp.of_below hbA), h3⟩, fun g hg => ⟨(h4 g hg).1, (h4 g hg).2, by rw [hz11]; exact h2.lt g hg⟩⟩
      have hl10 : ∀ g, (Value.slice l9 n1 lc9).ownBlock = some g → b9 ≤ g ∧ g < z11 := fun g hg => ⟨(hl9 g hg).1, by rw [hz11]; exact (hl9 g hg).2⟩
      have hz10 : z11 < w10.heap.size := hT10.lt
      have hnr10 : nr < z11 := by rw [hz11]; exact hB9.lt
      have h89 : w8.heap.size ≤ z11 := by rw [hz11]; exact hb9.size
      have hK10 := hdone.out w10 hb10
      have g10 := hK10.gB.cellAt (i := 0) (v := .slice ga n gcap) rfl
      have s10 := hK10.sB.cellAt (i := 0) (v := .slice so sl scap) rfl
      have hrun10 := hrun.out w10 hK10.bel
      rw [show ((0 : Nat) : Int) = 0 from rfl] at hrun10
      replace hrun10 := Lib.hid hrun10
      replace hz11 := Lib.hid hz11
      replace hl9 := Lib.hid hl9
      replace hv10 := Lib.hid hv10
      replace hl10 := Lib.hid hl10
      clear hw10 hK10 hb9 hrun hbA hB9 hO9 hv9 hl9
      go_wp2_with (go_at_call 10; refine Shut.out ?fb)
      unfold Shut
      refine hrun10.out.mono ?_
      rintro e w11 ⟨v11, sv11, rfl, hO11, hT11, hb11⟩
      obtain ⟨u11, uc11, rfl, -⟩ := hT11.sta
      obtain ⟨m11, mc11, rfl, -⟩ := OwnR.pra hO11
      rw [← hn1.out] at hO11 ⊢
      rw [← hn2.out] at hT11 ⊢
      clear hrun10 g10 s10
      dsimp only
      go_upto_region 7 with fail
      refine Code.wp_world ?_
      intro w12 hw12
      have hbB : Below w11.heap.size w11 w12 := by rw [hw12]; exact belowAlloc _ _
      have hb1012 := hb11.trans (hbB.mono hb11.size)
      obtain ⟨B2, hB2⟩ : ∃ B2, B2 = w10.heap.size := ⟨_, rfl⟩
      obtain ⟨z14, hz14⟩ : ∃ z14, z14 = w11.heap.size := ⟨_, rfl⟩
      have hU12 : Blk w12 z14 #[.slice u11 n2 uc11] 27 := by rw [hw12, hz14]; exact Blk.new _ _ _
      rw [← hz14]
      have hTM : TMem w8 B2 nr z11 z14 n2 ns (.slice m11 n1 mc11) (.slice u11 n2 uc11) R1 R2 w12 :=
        ⟨hb10.trans (hb1012.mono hb10.size), hN10.below hb1012 hN10.lt, hT10.below hb1012 hz10, hU12, by rw [hB2, hz14]; exact hb11.size, by rw [hB2]; exact OwnL.below hO11 hbB (Nat.le_refl _), by rw [hB2]; exact hT11.below hbB, fun v hv => by
          obtain ⟨⟨a, k, c, h1, h2, h3⟩, h4⟩ := hv10.out v hv
          exact ⟨⟨a, k, c, h1, h2.shp (Shp.of_below hb1012), h3⟩, fun g hg => ⟨(h4 g hg).1, by have := (h4 g hg).2.2; omega⟩⟩⟩
      have hOl := OwnL.below hO10 hb1012 (Nat.le_refl _)
      have hzB : z11 < B2 := by omega
      replace hz14 := Lib.hid hz14
      replace hB2 := Lib.hid hB2
      have hwp := wipe_any R1 _ b9 w12 hOl
      replace hwp := Lib.hid hwp
      have hvo : ∀ v ∈ ns, ∀ g, v.ownBlock = some g → g < b9 := fun v hv g hg => ((hv10.out v hv).2 g hg).2.1
      replace hvo := Lib.hid hvo
      clear hw12 hbB hb1012 hb10 hb11 hO10 hO11 hT10 hT11 hN10 hU12 hv10 hz10 hOl
      go_wp2_with (go_at_call 23; refine Shut.out ?fc)
      unfold Shut
      refine hwp.out.mono ?_
      rintro e w13 ⟨rfl, hc13, l13, hl13, hO13⟩
      have hTM13 := hTM.chg hc13 (fun k hk => ⟨by have := (hl10.out k hk).1; omega, by have := (hl10.out k hk).2; omega, by have := (hl10.out k hk).1; omega, by have := (hl10.out k hk).2; omega⟩) (fun v hv _ h => h.chg hc13 (fun g hg hk => by have := hvo.out v hv g hg; have := (hl10.out g hk).1; omega))
      have hl13' : l13.length = n1 := hl13.trans hn1.out.symm
      have hO13' := OwnL.base_le hO13 (Nat.min_le_left b9 w13.heap.size)
      clear hwp hTM hc13 hl13 hO13
      dsimp only
      go_wp2_with (at_builtin; refine Shut.out ?fd)
      unfold Shut
      have hbC := belowAlloc w13 (.cells #[.string ⟨#[63]⟩, .int .u32 0, .string ⟨#[63]⟩, .int .u32 0] 53)
      have hTMC := hTM13.below hbC
      have hOC := OwnL.below hO13' hbC (Nat.le_refl _)
      have htp := two_pairs (u := 0) (B := (w13.alloc (.cells #[.string ⟨#[63]⟩, .int .u32 0, .string ⟨#[63]⟩, .int .u32 0] 53)).heap.size) (Blk.new w13 #[.string ⟨#[63]⟩, .int .u32 0, .string ⟨#[63]⟩, .int .u32 0] 53) (by simp)
      refine wpList_app_sla (xs := l13) (ys := [(⟨#[63]⟩, 0), (⟨#[63]⟩, 0)]) (enc := encR) (base := min b9 w13.heap.size) _ rfl _ _ 29 rfl Try.underlying29 hiR hR0 hR1 hR2 rfl (by decide) rfl hOC rfl htp encR_len encR_one (by unfold maxLen; simp; omega) (by simp; omega) (by simp; omega) (fun v14 w14 hown14 hgr14 => ?_)
      have hTM14 := hTMC.chg (Chg.of_grown hgr14) (fun k hk => ⟨by have := (hl10.out k hk).1; omega, by have := (hl10.out k hk).2; omega, by have := (hl10.out k hk).1; omega, by have := (hl10.out k hk).2; omega⟩) (fun v hv _ h => h.chg (Chg.of_grown hgr14) (fun g hg hk => by have := hvo.out v hv g hg; have := (hl10.out g hk).1; omega))
      clear hbC hTMC hOC htp hown14 hgr14 hTM13 hO13' hl13' hl10 hvo
      go_wp2_with fail
      go_loopw [16] (fun x16 wr => ∃ i : Nat, i ≤ n2 ∧ x16 = .int .i64 i ∧ TMem w8 B2 nr z11 z14 n2 ns (.slice m11 n1 mc11) (.slice u11 n2 uc11) R1 R2 wr) (fun x16 _ => n2 - (intOf x16).toNat)
      case atStart => exact ⟨0, Nat.zero_le _, rfl, hTM14⟩
      case round =>
        clear hTM14
        obtain ⟨i, hi, rfl, hTM⟩ := hrel
        have ct := hTM.tB.cellAt (i := 0) (v := .slice (some ⟨nr, 0, none⟩) n2 n2) rfl
        by_cases hin : i < n2
        · have d1 : decide ((i : Int) < (n2 : Int)) = true := by simp; omega
          have hil : i < ns.length := by have := hnl.out; omega
          obtain ⟨⟨va, vk, vc, ev, hwr, hvk⟩, -⟩ := hTM.wr ns[i] (List.getElem_mem hil)
          have cv := hTM.nrB.cellAt (i := i) (v := .slice va vk vc) (by rw [← ev]; simp [hil])
          rw [ev] at hwr
          have hwp := wipe2_any _ _ wr hwr hvk
          replace hwp := Lib.hid hwp
          replace ev := Lib.hid ev
          clear hwr hvk
          go_wp2_with (go_at_call 23; refine Shut.out ?fe)
          unfold Shut
          refine hwp.out.mono ?_
          rintro e w15 ⟨rfl, hc15, hs15⟩
          rw [← ev.out] at hc15
          have hTM15 := hTM.wipe (List.getElem_mem hil) hc15 hs15
          clear hwp hTM hc15 hs15 ct cv
          dsimp only
          go_wp2_with fail
          go_roundw
          case rel => exact ⟨i + 1, by omega, by go_num, hTM15⟩
          case measure => simp [intOf]; omega
        · have d1 : decide ((i : Int) < (n2 : Int)) = false := by simp; omega
          go_upto_region 15 with fail
          have hK := hdone.out wr hTM.bel
          have c7 := hK.wB.cellAt (i := 0) (v := .slice wo n wc) rfl
          have c8 := hK.oB.cellAt (i := 0) (v := .slice oo sl oc) rfl
          obtain ⟨ao, ac, e, hWas⟩ := hK.was
          rw [← hn.out] at e
          simp only [Value.slice.injEq, true_and] at e
          obtain ⟨rfl, rfl⟩ := e
          obtain ⟨ao, ac, e, hOst⟩ := hK.old.sta
          rw [← hsle.out] at e
          simp only [Value.slice.injEq, true_and] at e
          obtain ⟨rfl, rfl⟩ := e
          obtain ⟨ao, ac, e, hRst⟩ := own_recs hK.rcs hwf.out
          rw [← hm.out] at e
          simp only [Value.slice.injEq, true_and] at e
          obtain ⟨rfl, rfl⟩ := e
          have hrr := hRd.out _ _ _ _ _ _ wr.heap.size wr (Nat.le_refl _) hWas hOst hRst hsok hsz.out
          rw [show ((0 : Nat) : Int) = 0 from rfl] at hrr
          replace hrr := Lib.hid hrr
          clear hWas hOst hK ct
          go_wp2_with (go_at_call 11; refine Shut.out ?ff)
          unfold Shut
          refine hrr.out.mono ?_
          rintro e w15 ⟨v15, sa, sc, rfl, hO15, hS15, hb15⟩
          obtain ⟨wo15, wc15, rfl, hW15⟩ := OwnR.pra hO15
          rw [← hn1.out]
          clear hrr hO15 c7 c8
          dsimp only
          go_upto_region 16 with fail
          refine Code.wp_world ?_
          intro w16 hw16
          have hbC : Below w15.heap.size w15 w16 := by rw [hw16]; exact belowAlloc _ _
          have hb16 := hb15.trans (hbC.mono hb15.size)
          obtain ⟨z18, hz18⟩ : ∃ z18, z18 = w15.heap.size := ⟨_, rfl⟩
          have hV16 : Blk w16 z18 #[.slice sa n2 sc] 27 := by rw [hw16, hz18]; exact Blk.new _ _ _
          rw [← hz18]
          have hTM16 := hTM.below hb16
          have hKW := fun W (hW : Below w16.heap.size w16 W) => hdone.out W (hTM16.bel.trans (hW.mono hTM16.bel.size))
          have hcg : ∀ W, Below w16.heap.size w16 W → W.cell? ⟨zb, 0, none⟩ = some (.slice ga n gcap) := fun W hW => (hKW W hW).gB.cellAt (i := 0) rfl
          have hcs : ∀ W, Below w16.heap.size w16 W → W.cell? ⟨sb, 0, none⟩ = some (.slice so sl scap) := fun W hW => (hKW W hW).sB.cellAt (i := 0) rfl
          have hc7 : ∀ W, Below w16.heap.size w16 W → W.cell? ⟨z7, 0, none⟩ = some (.slice wo n wc) := fun W hW => (hKW W hW).wB.cellAt (i := 0) rfl
          have hc8 : ∀ W, Below w16.heap.size w16 W → W.cell? ⟨z8, 0, none⟩ = some (.slice oo sl oc) := fun W hW => (hKW W hW).oB.cellAt (i := 0) rfl
          have hcu : ∀ W, Below w16.heap.size w16 W → W.cell? ⟨z14, 0, none⟩ = some (.slice u11 n2 uc11) := fun W hW => (hTM16.below hW).uB.cellAt (i := 0) rfl
          have hcv : ∀ W, Below w16.heap.size w16 W → W.cell? ⟨z18, 0, none⟩ = some (.slice sa n2 sc) := fun W hW => (hV16.below hW hV16.lt).cellAt (i := 0) rfl
          have hsg : ∀ W, Below w16.heap.size w16 W → Calls Try.prog 25 #[.agg #[.slice ga n gcap], .agg #[.slice wo n wc]] W fun e w' => e = .returned (.bool true) ∧ Below W.heap.size W w' := fun W hW => by
            have hK := hKW W hW
            obtain ⟨ao, ac, e, hWas⟩ := hK.was
            rw [← hn.out] at e
            simp only [Value.slice.injEq, true_and] at e
            obtain ⟨rfl, rfl⟩ := e
            exact graph_refl W.heap.size ops n hn.out ga wo gcap wc W (Nat.le_refl _) ((hxW.out W hK.bel).imp (Below.refl _ _) hK.bel.size (fun _ _ _ h => h.imp (Below.refl _ _) hK.bel.size)) hWas
          have hss : ∀ W, Below w16.heap.size w16 W → Calls Try.prog 14 #[.agg #[.slice so sl scap], .agg #[.slice oo sl oc]] W fun e w' => e = .returned (.bool true) ∧ Below W.heap.size W w' := fun W hW => by
            have hK := hKW W hW
            obtain ⟨ao, ac, e, hst⟩ := hK.old.sta
            rw [← hsle.out] at e
            simp only [Value.slice.injEq, true_and] at e
            obtain ⟨rfl, rfl⟩ := e
            have := sameSt_any s s so oo scap oc W.heap.size W (Nat.le_refl _) ((hsW.out W hK.bel).imp' (Below.refl _ _) hK.bel.size) hst
            rwa [stEq_refl, ← hsle.out] at this
          have hsp : ∀ W, Below w16.heap.size w16 W → Calls Try.prog 13 #[.slice m11 n1 mc11, .slice wo15 n1 wc15] W fun e w' => e = .returned (.bool true) ∧ Below W.heap.size W w' := fun W hW => by
            have hbW := hbC.trans (hW.mono hbC.size)
            obtain ⟨ao, ac, e, hst⟩ := OwnR.pra (hTM16.below hW).own
            rw [← hn1.out] at e
            simp only [Value.slice.injEq, true_and] at e
            obtain ⟨rfl, rfl⟩ := e
            have := same_any R1 R1 m11 wo15 mc11 wc15 W.heap.size W (Nat.le_refl _) hst (hW15.imp' hbW hbW.size)
            rwa [decide_eq_true rfl, ← hn1.out] at this
          have hsu : ∀ W, Below w16.heap.size w16 W → Calls Try.prog 14 #[.agg #[.slice u11 n2 uc11], .agg #[.slice sa n2 sc]] W fun e w' => e = .returned (.bool true) ∧ Below W.heap.size W w' := fun W hW => by
            have hbW := hbC.trans (hW.mono hbC.size)
            obtain ⟨ao, ac, e, hst⟩ := (hTM16.below hW).st.sta
            rw [← hn2.out] at e
            simp only [Value.slice.injEq, true_and] at e
            obtain ⟨rfl, rfl⟩ := e
            have := sameSt_any R2 R2 u11 sa uc11 sc W.heap.size W (Nat.le_refl _) hst (hS15.imp' hbW hbW.size)
            rwa [stEq_refl, ← hn2.out] at this
          have hR8 : ∀ W, Below w16.heap.size w16 W → SlA wr.heap.size 5 (RRecord wr.heap.size) W r8 rc8 recs := fun W hW => by
            have hbW := hb16.trans (hW.mono hb16.size)
            exact hRst.imp hbW (Nat.le_refl _) (fun _ _ _ h => h.imp hbW (Nat.le_refl _))
          have hRA : ∀ W, Below w16.heap.size w16 W → SlA w.heap.size 5 (RRecord w.heap.size) W ra rcap recs := fun W hW => hrW.out W (hKW W hW).bel
          have hfin : ∀ W, Below w16.heap.size w16 W → Below w.heap.size w W := fun W hW => (hKW W hW).bel
          replace hcg := Lib.hid hcg
          replace hcs := Lib.hid hcs
          replace hc7 := Lib.hid hc7
          replace hc8 := Lib.hid hc8
          replace hcu := Lib.hid hcu
          replace hcv := Lib.hid hcv
          replace hsg := Lib.hid hsg
          replace hss := Lib.hid hss
          replace hsp := Lib.hid hsp
          replace hsu := Lib.hid hsu
          replace hR8 := Lib.hid hR8
          replace hRA := Lib.hid hRA
          replace hfin := Lib.hid hfin
          replace hz18 := Lib.hid hz18
          clear hKW hTM16 hV16 hb16 hbC hTM hb15 hRst hW15 hS15 hw16 hdone d1
          obtain ⟨wi, hwi⟩ : ∃ wi, wi = wr.heap.size := ⟨_, rfl⟩
          rw [← hwi] at hR8
          clear hwi
          go_wp2_with fail
          go_loopw [20] (fun x20 wr => ∃ k : Nat, k ≤ m ∧ x20 = .int .i64 k ∧ Below w16.heap.size w16 wr) (fun x20 _ => m - (intOf x20).toNat)
          case atStart => exact ⟨0, Nat.zero_le _, rfl, Below.refl _ _⟩
          case round =>
            obtain ⟨k, hk, rfl, hbr⟩ := hrel
            by_cases hkm : k < m
            · have d1 : decide ((k : Int) < (m : Int)) = true := by simp; omega
              have hkl : k < recs.length := by have := hm.out; omega
              have h8 := hR8.out wr hbr
              have hA := hRA.out wr hbr
              obtain ⟨b8, o8, rfl, -, -⟩ := h8.addr (by omega)
              obtain ⟨bA, oA, rfl, -, -⟩ := hA.addr (by omega)
              obtain ⟨p0, p1, p2, p3, p4⟩ := recA_at h8 hkl
              obtain ⟨q0, q1, q2, q3, q4⟩ := recA_at hA hkl
              obtain ⟨x, hx'⟩ : ∃ x, x = recs[k] := ⟨_, rfl⟩
              rw [← hx'] at p0 p1 p2 p3 p4 q0 q1 q2 q3 q4
              have a0 := Wd.cell p0 (World.lt_of_cell p0)
              have a1 := Wd.cell p1 (World.lt_of_cell p1)
              have a2 := Wd.cell p2 (World.lt_of_cell p2)
              have a3 := Wd.cell p3 (World.lt_of_cell p3)
              have a4 := Wd.cell p4 (World.lt_of_cell p4)
              have c0 := Wd.cell q0 (World.lt_of_cell q0)
              have c1 := Wd.cell q1 (World.lt_of_cell q1)
              have c2 := Wd.cell q2 (World.lt_of_cell q2)
              have c3 := Wd.cell q3 (World.lt_of_cell q3)
              have c4 := Wd.cell q4 (World.lt_of_cell q4)
              have hsr := fun W => srec_any x W
              replace hsr := Lib.hid hsr
              replace hx' := Lib.hid hx'
              clear h8 hA p0 p1 p2 p3 p4 q0 q1 q2 q3 q4
              go_upto_region 19 with fail
              refine wp_region_below (by kernel_rfl) (by kernel_rfl) ?_
              repeat (go_big_quiet_step ((go_at_call 24; exact Calls.quiet_below (hsr.out _))))
              refine wpQuiet_nil ?_
              rintro _ ⟨u, rfl⟩
              clear a0 a1 a2 a3 a4 c0 c1 c2 c3 c4
              have hbu := hbr.trans (u.h.mono hbr.size)
              obtain ⟨wy, hwy⟩ : ∃ wy, wy = u.v := ⟨_, rfl⟩
              rw [← hwy] at hbu ⊢
              clear hwy hbr
              go_wp2_with fail
              go_roundw
              case rel => exact ⟨k + 1, by omega, by go_num, hbu⟩
              case measure => simp [intOf]; omega
            · have d1 : decide ((k : Int) < (m : Int)) = false := by simp; omega
              have x0 := hcg.out wr hbr
              have x1 := hc7.out wr hbr
              go_wp2_with (go_at_call 25; refine Shut.out ?fg)
              unfold Shut
              refine (hsg.out wr hbr).mono ?_
              rintro e w20 ⟨rfl, hb20⟩
              have hb20' := hbr.trans (hb20.mono hbr.size)
              have y0 := hcs.out w20 hb20'
              have y1 := hc8.out w20 hb20'
              clear x0 x1 hbr hb20
              dsimp only
              go_wp2_with (go_at_call 14; refine Shut.out ?fh)
              unfold Shut
              refine (hss.out w20 hb20').mono ?_
              rintro e w21 ⟨rfl, hb21⟩
              have hb21' := hb20'.trans (hb21.mono hb20'.size)
              clear y0 y1 hb20' hb21
              dsimp only
              go_wp2_with (go_at_call 13; refine Shut.out ?fi)
              unfold Shut
              refine (hsp.out w21 hb21').mono ?_
              rintro e w22 ⟨rfl, hb22⟩
              have hb22' := hb21'.trans (hb22.mono hb21'.size)
              have z0 := hcu.out w22 hb22'
              have z1 := hcv.out w22 hb22'
              clear hb21' hb22
              dsimp only
              go_wp2_with (go_at_call 14; refine Shut.out ?fj)
              unfold Shut
              refine (hsu.out w22 hb22').mono ?_
              rintro e w23 ⟨rfl, hb23⟩
              have hend := hfin.out w23 (hb22'.trans (hb23.mono hb22'.size))
              dsimp only
              go_wp2_with fail
              go_ret
              exact ⟨rfl, hend⟩
    · have d0 : ((he : Int) != 0) = true := by simp; omega
      clear hrun2 hRl hRn hRd hRo h0
      have hrun8 := hrun.out w8 hb8
      replace hrun8 := Lib.hid hrun8
      go_wp2_with (go_at_call 10; refine Shut.out ?ea)
      unfold Shut
      refine hrun8.out.mono ?_
      rintro e w9 ⟨v9, sv9, rfl, hO9, hT9, hb9⟩
      obtain ⟨t9, tc9, rfl, -⟩ := hT9.sta
      obtain ⟨l9, lc9, rfl, -⟩ := OwnR.pra hO9
      rw [← hn1.out, ← hn2.out]
      clear hrun8 hO9 hT9 g8 s8
      dsimp only
      go_upto_region 6 with fail
      refine Code.wp_world ?_
      intro w10 hw10
      have hb10 : Below w8.heap.size w8 w10 := by rw [hw10]; exact hb9.alloc hb9.size _
      have hK10 := hdone.out w10 hb10
      have g10 := hK10.gB.cellAt (i := 0) (v := .slice ga n gcap) rfl
      have s10 := hK10.sB.cellAt (i := 0) (v := .slice so sl scap) rfl
      have hrun10 := hrun.out w10 hK10.bel
      replace hrun10 := Lib.hid hrun10
      clear hw10 hK10 hb9 hrun
      go_wp2_with (go_at_call 10; refine Shut.out ?eb)
      unfold Shut
      refine hrun10.out.mono ?_
      rintro e w11 ⟨v11, sv11, rfl, hO11, hT11, hb11⟩
      obtain ⟨t11, tc11, rfl, -⟩ := hT11.sta
      obtain ⟨l11, lc11, rfl, -⟩ := OwnR.pra hO11
      rw [← hn1.out, ← hn2.out]
      have hb811 := hb10.trans (hb11.mono hb10.size)
      clear hrun10 hO11 hT11 g10 s10 hb10 hb11
      dsimp only
      go_upto_region 7 with fail
      refine Code.wp_world ?_
      intro w12 hw12
      have hb12 : Below w8.heap.size w8 w12 := by rw [hw12]; exact hb811.alloc hb811.size _
      have hK12 := hdone.out w12 hb12
      have s12 := hK12.sB.cellAt (i := 0) (v := .slice so sl scap) rfl
      have o12 := hK12.oB.cellAt (i := 0) (v := .slice oo sl oc) rfl
      obtain ⟨oo', oc', e, hst⟩ := hK12.old.sta
      rw [← hsle.out] at e
      simp only [Value.slice.injEq, true_and] at e
      obtain ⟨rfl, rfl⟩ := e
      have hss := sameSt_any s s so oo scap oc w12.heap.size w12 (Nat.le_refl _) ((hsW.out w12 hK12.bel).imp' (Below.refl _ _) hK12.bel.size) hst
      rw [stEq_refl, ← hsle.out] at hss
      replace hss := Lib.hid hss
      have hbf := hK12.bel
      clear hw12 hdone hb811 hb12 hst hK12
      go_wp2_with (go_at_call 14; refine Shut.out ?ec)
      unfold Shut
      refine hss.out.mono ?_
      rintro e w13 ⟨rfl, hb13⟩
      have hfin := hbf.trans (hb13.mono hbf.size)
      dsimp only
      go_wp2_with fail
      go_ret
      exact ⟨rfl, hfin⟩
theorem mkeeps_row {w : World} (cs0 : Array Value) (x0 : TGraph) (hx0 : RGraph w.heap.size w (Value.cells (.agg cs0)).toList x0) (hz0 : x0.fOps.length * 72 ≤ reachBytes) (hzi0 : ∀ o ∈ x0.fOps, o.fIn.length * 8 ≤ reachBytes)
    (cs1 : Array Value) (x1 : TState) (hx1 : RState w.heap.size w (Value.cells (.agg cs1)).toList x1) (hz1 : x1.fFolds.length * 24 ≤ reachBytes) (hzi1 : ∀ l ∈ x1.fFolds, l.length * 24 ≤ reachBytes)
    (a2 : Option Addr) (len2 cap2 : Nat) (x2 : List TRecord) (hx2 : RSl w.heap.size 5 (RRecord w.heap.size) w (Value.cells (.slice a2 len2 cap2)).toList x2) (z2 : cap2 * 48 ≤ reachBytes) :
    Calls Try.prog 7 #[.agg cs0, .agg cs1, .slice a2 len2 cap2] w fun e w' => e = .returned (.bool true) ∧ Below w.heap.size w w' := by
  obtain ⟨ga, gcap, rfl, hg⟩ := graph_agg hx0
  obtain ⟨sa, scap, rfl, hs⟩ := state_agg hx1
  have h2' : len2 = x2.length ∧ SlA w.heap.size 5 (RRecord w.heap.size) w a2 cap2 x2 := by
    obtain ⟨ao, c, h1, h2⟩ := hx2
    simp only [Value.cells, List.cons.injEq, Value.slice.injEq, and_true] at h1
    obtain ⟨rfl, rfl, rfl⟩ := h1
    exact ⟨rfl, h2⟩
  obtain ⟨rfl, h2⟩ := h2'
  have hr : reachBytes = 140737488351232 := rfl
  have hcap := h2.1
  obtain ⟨hst, hok⟩ := sta_of_in hs
  have h := mkeeps_walk x0.fOps (x1.fFolds.map (fun l => l.map prOf)) x2 ga sa a2 gcap scap cap2 w hg hst h2 hok (fun l hl => by
    obtain ⟨x, hx, rfl⟩ := List.mem_map.1 hl
    have := hzi1 x hx
    rw [List.length_map]
    omega) (by rw [List.length_map]; omega) (by omega) (fun o ho => by have := hzi0 o ho; omega) (by omega)
  rwa [List.length_map] at h
end Go.Proofs.Ytbianedgogdeeaa
