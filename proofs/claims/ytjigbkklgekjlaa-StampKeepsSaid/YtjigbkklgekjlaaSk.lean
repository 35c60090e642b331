/- Stamp: the walk of StampKeeps. -/
import Derived.Test.YtjigbkklgekjlaaSi
import Derived.Test.YtjigbkklgekjlaaBaseP
import Derived.Test.YtjigbkklgekjlaaBaseT
import Derived.Deep.Cut
import Derived.Deep.DeepCutAuto
namespace Go.Proofs.Ytjigbkklgekjlaa
open Go.RowKit Go.Shelf
set_option linter.unusedVariables false
set_option linter.unusedSimpArgs false

theorem SlA.take {α : Type} {B sz : Nat} {E : World → List Value → α → Prop} {w : World} {ao : Option Addr} {cap : Nat} {xs : List α} (h : SlA B sz E w ao cap xs) (k : Nat) : SlA B sz E w ao cap (xs.take k) := by
  obtain ⟨h1, h2, h3, h4⟩ := h
  refine ⟨Nat.le_trans (List.length_take_le' _ _) h1, h2, h3, fun hne => ?_⟩
  obtain ⟨b, off, rfl, hlt, h5⟩ := h4 (fun e => hne (by rw [e]; simp))
  refine ⟨b, off, rfl, hlt, fun i hi => ?_⟩
  rw [List.length_take] at hi
  obtain ⟨cs, h6, h7, h8⟩ := h5 i (by omega)
  exact ⟨cs, h6, h7, by rw [List.getElem_take]; exact h8⟩
theorem below_a (w : World) (o : Obj) : Below w.heap.size w (w.alloc o) := Below.alloc (Below.refl _ _) (Nat.le_refl _) _
theorem own_made {W : World} {base b cap : Nat} {z : Array Value} (h : Blk W b z 25) (hz : z.size = cap * 2) (hc : cap ≤ maxLen) (hb : base ≤ b) : OwnL encT W base 25 2 (.slice (some ⟨b, 0, none⟩) 0 cap) [] :=
  ⟨rfl, .inr ⟨b, cap, z, rfl, hb, h, Nat.zero_le _, hc, hz, rfl⟩⟩
theorem es_t {B B' : Nat} {w : World} {ao : Option Addr} {cap : Nat} {xs : List TTime} (h : SlA B 2 (RTime B') w ao cap xs) : SlA B 2 (fun _ cs x => cs = encT x) w ao cap xs := h.imp (Below.refl _ _) (Nat.le_refl _) (fun _ _ _ h => h.1)
theorem two_marks {W : World} {b B : Nat} {T : TypeId} (h : Blk W b #[.int .i64 (-7), .int .i64 0, .int .i64 (-7), .int .i64 0] T) (hb : b < B) : SlA B 2 (fun _ cs x => cs = encT x) W (some ⟨b, 0, none⟩) 2 [⟨-7, 0⟩, ⟨-7, 0⟩] :=
  SlA.of_blk h hb (by decide) (by unfold maxLen; omega) (fun i hi => by
    match i, hi with
    | 0, _ => exact ⟨_, rfl, fun j hj => (match j, hj with | 0, _ => rfl | 1, _ => rfl), rfl⟩
    | 1, _ => exact ⟨_, rfl, fun j hj => (match j, hj with | 0, _ => rfl | 1, _ => rfl), rfl⟩)

theorem blk_grown {w w' : World} {row : Option Nat} {b : Nat} {cs : Array Value} {T : TypeId} (h : w.grownBy w' row) (hb : Blk w b cs T) (hne : row ≠ some b) : Blk w' b cs T := by
  have := hb.lt
  unfold Blk at *
  rw [h.block b this (Ne.symm hne), hb]
/-- The mark's box. -/
structure MSt (w wr : World) (mb : Nat) : Prop where
  bel : Below w.heap.size w wr
  m : Blk wr mb #[.int .i64 (-7), .int .i64 0] 25
  hm : w.heap.size ≤ mb
namespace MSt
variable {w wr wr' : World} {mb : Nat}
theorem below (h : MSt w wr mb) (k : Below wr.heap.size wr wr') : MSt w wr' mb := ⟨h.bel.trans (k.mono h.bel.size), h.m.below k h.m.lt, h.hm⟩
theorem hold (h : MSt w wr mb) : wr.cell? ⟨mb, 0, none⟩ = some (.int .i64 (-7)) ∧ wr.cell? ⟨mb, 1, none⟩ = some (.int .i64 0) := ⟨h.m.cellAt rfl, h.m.cellAt rfl⟩
theorem grow (h : MSt w wr mb) {row : Option Nat} {B : Nat} (hg : wr.grownBy wr' row) (hr : ∀ g, row = some g → B ≤ g) (hB : mb < B) (hB3 : B ≤ wr.heap.size) : MSt w wr' mb := by
  have hb : Below B wr wr' := (Below.refl B wr).grown hg hB3 hr
  exact ⟨h.bel.trans (hb.mono (by have := h.hm; omega)), h.m.below hb hB, h.hm⟩
end MSt

/-- A row of the call's own, whatever it holds. -/
def RowT (w : World) (base : Nat) (v : Value) (k : Nat) : Prop := ∃ xs, World.ownsRow w base 25 2 v k xs
theorem RowT.blk {w : World} {base k cap : Nat} {aa : Option Addr} (h : RowT w base (.slice aa k cap) k) (hk : 0 < k) : ∃ g cells, aa = some ⟨g, 0, none⟩ ∧ Blk w g cells 25 ∧ cells.size = cap * 2 ∧ k ≤ cap ∧ cap ≤ maxLen ∧ base ≤ g := by
  obtain ⟨xs, h1, h2⟩ := h
  rcases h2 with ⟨_, h3⟩ | ⟨g, cap', cells, e, hb, hg, hc1, hc2, hc3, _⟩
  · omega
  · simp only [Value.slice.injEq, true_and] at e
    obtain ⟨rfl, rfl⟩ := e
    exact ⟨g, cells, rfl, hg, hc3, hc1, hc2, hb⟩
theorem RowT.of_blk {w : World} {base k cap g : Nat} {cells : Array Value} (h : Blk w g cells 25) (hs : cells.size = cap * 2) (hk : k ≤ cap) (hc : cap ≤ maxLen) (hb : base ≤ g) : RowT w base (.slice (some ⟨g, 0, none⟩) k cap) k :=
  ⟨cells.toList.take (k * 2), by rw [List.length_take]; simp [hs]; omega, .inr ⟨g, cap, cells, rfl, hb, h, hk, hc, hs, rfl⟩⟩
theorem RowT.of_own {w : World} {base : Nat} {v : Value} {xs : List TTime} (h : OwnT w base v xs) : RowT w base v xs.length := ⟨_, h.1⟩
theorem three_marks (w : World) (T : TypeId) : ∀ j u, [Value.int .i64 (-7), .int .i64 0, .int .i64 (-7), .int .i64 0, .int .i64 (-7), .int .i64 0][j]? = some u → (w.alloc (.cells #[.int .i64 (-7), .int .i64 0, .int .i64 (-7), .int .i64 0, .int .i64 (-7), .int .i64 0] T)).cell? ((⟨w.heap.size, 0, none⟩ : Addr).add j) = some u := by
  intro j u hj
  have hb := Blk.new w #[.int .i64 (-7), .int .i64 0, .int .i64 (-7), .int .i64 0, .int .i64 (-7), .int .i64 0] T
  have : (⟨w.heap.size, 0, none⟩ : Addr).add j = ⟨w.heap.size, j, none⟩ := by unfold Addr.add; split <;> simp_all
  rw [this, hb.cell]
  simpa using hj

set_option maxRecDepth 100000 in
set_option maxHeartbeats 4000000 in
theorem skeeps_walk (l : List TTime) (ao : Option Addr) (c1 : Nat) (w : World) (hl : SlA w.heap.size 2 (RTime w.heap.size) w ao c1 l) (hreach : l.length * 16 ≤ 140737488351232) :
    Calls Try.prog 3 #[.slice ao l.length c1] w fun e w' => e = .returned (.bool true) ∧ Below w.heap.size w w' := by
  have hwf := Lib.hid (wf_of_sla hl)
  obtain ⟨i0, hi, hz0, hz1, hz2⟩ := info_parts infoT
  obtain ⟨n, hn⟩ : ∃ n, n = l.length := ⟨_, rfl⟩
  have hfr := fun W hb => rfront_any l ao c1 W w.heap.size (Below.size hb) (imp_times hl hb) hreach
  rw [← hn] at hreach hfr ⊢
  replace hn := Lib.hid hn
  replace hfr := Lib.hid hfr
  have hmk := fun (W : World) => run_make (P := Try.prog) W 22 25 i0 _ Try.underlying22 hi hz0 .i64 .i64 0 ((n : Int) + 2) (Int.le_refl _) (by omega) (by rw [hz2]; omega) (by omega)
  rw [hz1, show ((n : Int) + 2).toNat = n + 2 by omega] at hmk
  replace hmk := Lib.hid hmk
  have hmz : (madeCells (Value.agg #[.int .i64 0, .int .i64 0]).cells ((n + 2) * 2)).size = (n + 2) * 2 := by simp [madeCells]
  generalize madeCells (Value.agg #[.int .i64 0, .int .i64 0]).cells ((n + 2) * 2) = zc at hmk hmz
  go_enter Try.func3, Try.ntmps3
  go_wp2_with fail
  refine (known_any _).mono ?_
  rintro e w1 ⟨rfl, b1⟩
  have hbel : Below w.heap.size w w1 := (by repeat (first | exact Below.refl _ _ | assumption | refine below_drewN ?_ _ | refine Below.drew ?_ | (refine Below.setCell ?_ (by first | omega | (simp; omega) | simp) _) | (refine Below.alloc ?_ (by first | omega | (simp; omega) | simp) _) | (refine Below.trans ?_ (Below.mono (by assumption) (by first | omega | (simp; omega) | simp)))))
  clear b1
  go_upto_region 4 with fail
  refine Code.wp_world ?_
  intro w2 hw2
  have hS : MSt w w2 w1.heap.size := by
    rw [hw2]
    exact ⟨hbel.alloc hbel.size _, Blk.new _ _ _, hbel.size⟩
  clear hw2
  obtain ⟨mb, hmb⟩ : ∃ mb, mb = w1.heap.size := ⟨_, rfl⟩
  rw [← hmb] at hS ⊢
  clear hmb hbel
  have hwrap : IntKind.i64.wrap ((n : Int) + 2) = (n : Int) + 2 := IntWalk.i64_in _ (by omega)
  go_cut [4] from 12 to 21 (fun s4 wx => ∃ ar cr base, s4 = .slice ar (n + 2 : Nat) cr ∧ OwnL encT wx base 25 2 (.slice ar (n + 2 : Nat) cr) (l ++ [⟨-7, 0⟩, ⟨-7, 0⟩]) ∧ mb < base ∧ MSt w wx mb)
  case first =>
    refine wp_region_tree (fun wx => wx.cell? ⟨mb, 0, none⟩ = some (.int .i64 (-7)) ∧ wx.cell? ⟨mb, 1, none⟩ = some (.int .i64 0)) 10 11 (by kernel_rfl) rfl (by kernel_rfl) (fun d _ _ _ _ h => by cases d <;> exact h) (hS.hold) (fun ops T hOps hT hTok hHeld => ?_)
    refine wpTree_world ?_
    intro wz hwz
    have b4 : Below w2.heap.size w2 wz := by rw [hwz]; exact (Below.refl _ _).drew
    have hml := (MSt.m hS).lt
    replace hS := hS.below b4
    clear hwz hHeld
    (refine wpTree_q 0 hTok hOps (by kernel_rfl) rfl rfl ⟨?_, ?_, ?_⟩; rotate_left; (focus (intro wx hSx; (try dsimp only at hSx); go_simp; (try with_reducible rfl))); (simp only [Act.put, List.setIfInBounds_toArray, List.set_cons_zero, List.set_cons_succ]))
    (refine wpTree_q 1 hTok hOps (by kernel_rfl) rfl rfl ⟨?_, ?_, ?_⟩; rotate_left; (focus (intro wx hSx; (try dsimp only at hSx); go_simp; (try with_reducible rfl))); (simp only [Act.put, List.setIfInBounds_toArray, List.set_cons_zero, List.set_cons_succ]))
    (refine wpTree_q 2 hTok hOps (by kernel_rfl) rfl rfl ⟨?_, ?_, ?_⟩; rotate_left; (focus (intro wx hSx; (try dsimp only at hSx); go_simp; (try with_reducible rfl))); (simp only [Act.put, List.setIfInBounds_toArray, List.set_cons_zero, List.set_cons_succ]))
    (refine wpTree_q 4 hTok hOps (by kernel_rfl) rfl rfl ⟨?_, ?_, ?_⟩; rotate_left; (focus (intro wx hSx; (try dsimp only at hSx); go_simp; (try with_reducible rfl))); (simp only [Act.put, List.setIfInBounds_toArray, List.set_cons_zero, List.set_cons_succ]))
    (refine wpTree_q 6 hTok hOps (by kernel_rfl) rfl rfl ⟨?_, ?_, ?_⟩; rotate_left; (focus (intro wx hSx; (try dsimp only at hSx); go_simp; (try with_reducible rfl))); (simp only [Act.put, List.setIfInBounds_toArray, List.set_cons_zero, List.set_cons_succ]))
    (refine wpTree_q 7 hTok hOps (by kernel_rfl) rfl rfl ⟨?_, ?_, ?_⟩; rotate_left; (focus (intro wx hSx; (try dsimp only at hSx); go_simp; (try with_reducible rfl))); (simp only [Act.put, List.setIfInBounds_toArray, List.set_cons_zero, List.set_cons_succ]))
    refine wpTree_2 3 8 hOps (by kernel_rfl) (by decide) (by decide) rfl rfl (fun K' hK => ?_) (fun K' hK => ?_)
    · have hm := hmk.out wz
      go_simp
      clear hm
      replace hS := hS.below (below_a wz (.cells zc 25))
      refine hK.out _ _ hS.hold ?_
      clear hK K'
      try simp only [Act.put, List.setIfInBounds_toArray, List.set_cons_zero, List.set_cons_succ]
      refine wpTree_world ?_
      intro wy hwy
      rw [← hwy] at hS
      have hE : Blk wy (wz).heap.size zc 25 := by rw [hwy]; exact Blk.new _ _ _
      have bzy : Below (wz).heap.size wz wy := by rw [hwy]; exact below_a _ _
      have hzs := b4.size
      replace b4 := b4.trans (bzy.mono hzs)
      obtain ⟨eb, hebq⟩ : ∃ eb, eb = (wz).heap.size := ⟨_, rfl⟩
      rw [← hebq] at hE hzs ⊢
      replace hebq := Lib.hid hebq
      clear hwy
      refine wpTree_2 5 8 hOps (by kernel_rfl) (by decide) (by decide) rfl rfl (fun K' hK => ?_) (fun K' hK => ?_)
      · clear bzy
        refine step_app_sla wy rfl _ _ 22 rfl Try.underlying22 hi hz0 hz1 hz2 rfl (by decide) (enc := encT) (xs := []) (ys := l) (B := w.heap.size) (base := w2.heap.size) rfl (own_made hE hmz (by unfold maxLen; omega) hzs) (by rw [← hn.out]; rfl) (es_t (imp_times hl hS.bel)) encT_len encT_one
          (by rw [← hn.out]; unfold maxLen; simp <;> omega) (by rw [← hn.out]; simp <;> omega) b4.size (fun v5 wx hown hgr => ?_)
        replace hS := hS.grow hgr (B := w2.heap.size) (fun g hg => by have e : some eb = some g := hg; simp at e; omega) hml b4.size
        replace b4 := Below.grown b4 hgr b4.size (fun g hg => by have e : some eb = some g := hg; simp at e; omega)
        refine hK.out _ _ hS.hold ?_
        clear hK K'
        try simp only [Act.put, List.setIfInBounds_toArray, List.set_cons_zero, List.set_cons_succ]
        rw [List.nil_append] at hown
        refine wpTree_1 8 hOps (by kernel_rfl) (by decide) rfl (fun K' hK => ?_)
        go_simp
        replace hS := hS.below (below_a wx (.cells #[.int .i64 (-7), .int .i64 0, .int .i64 (-7), .int .i64 0] 25))
        refine hK.out _ _ hS.hold ?_
        clear hK K'
        try simp only [Act.put, List.setIfInBounds_toArray, List.set_cons_zero, List.set_cons_succ]
        refine wpTree_world ?_
        intro wv hwy
        rw [← hwy] at hS
        have hO : Blk wv (wx).heap.size #[.int .i64 (-7), .int .i64 0, .int .i64 (-7), .int .i64 0] 25 := by rw [hwy]; exact Blk.new _ _ _
        have bzy : Below (wx).heap.size wx wv := by rw [hwy]; exact below_a _ _
        replace b4 := b4.trans (bzy.mono b4.size)
        obtain ⟨ob, hobq⟩ : ∃ ob, ob = (wx).heap.size := ⟨_, rfl⟩
        rw [← hobq] at hO ⊢
        replace hobq := Lib.hid hobq
        clear hwy
        replace hown := hown.below bzy (Nat.le_refl _)
        refine wpTree_1 9 hOps (by kernel_rfl) (by decide) rfl (fun K' hK => ?_)
        refine step_app_sla wv rfl _ _ 22 rfl Try.underlying22 hi hz0 hz1 hz2 rfl (by decide) (enc := encT) (xs := l) (ys := [⟨-7, 0⟩, ⟨-7, 0⟩]) (B := (wv).heap.size) (base := w2.heap.size) rfl hown rfl (two_marks hO hO.lt) encT_len encT_one
          (by rw [← hn.out]; unfold maxLen; simp <;> omega) (by rw [← hn.out]; simp <;> omega) b4.size (fun v6 wu hown6 hgr6 => ?_)
        replace hS := hS.grow hgr6 (B := w2.heap.size) (fun g hg => (hown.lt g hg).1) hml b4.size
        replace b4 := Below.grown b4 hgr6 b4.size (fun g hg => (hown.lt g hg).1)
        refine hK.out _ _ hS.hold ?_
        clear hK K'
        try simp only [Act.put, List.setIfInBounds_toArray, List.set_cons_zero, List.set_cons_succ]
        refine wpTree_nil hOps (by kernel_rfl) ?_
        refine hT.out _ _ ?_
        simp only [List.drop_succ_cons, List.drop_zero]
        obtain ⟨ar, cr, rfl, _⟩ := hown6.slice
        have hln : (l ++ [(⟨-7, 0⟩ : TTime), ⟨-7, 0⟩]).length = n + 2 := by rw [List.length_append, ← hn.out]; rfl
        rw [hln] at hown6 ⊢
        clear hln hgr6 hown
        try clear hgr
        try clear bzy
        go_wp2_with fail
        go_meet
        case rel => exact ⟨ar, cr, _, rfl, hown6, hml, hS⟩
      · clear bzy
        go_simp
        replace hS := hS.below (below_a wy (.cells #[.int .i64 (-7), .int .i64 0, .int .i64 (-7), .int .i64 0] 25))
        refine hK.out _ _ hS.hold ?_
        clear hK K'
        try simp only [Act.put, List.setIfInBounds_toArray, List.set_cons_zero, List.set_cons_succ]
        refine wpTree_world ?_
        intro wx hwy
        rw [← hwy] at hS
        have hO : Blk wx (wy).heap.size #[.int .i64 (-7), .int .i64 0, .int .i64 (-7), .int .i64 0] 25 := by rw [hwy]; exact Blk.new _ _ _
        have bzy : Below (wy).heap.size wy wx := by rw [hwy]; exact below_a _ _
        replace b4 := b4.trans (bzy.mono b4.size)
        obtain ⟨ob, hobq⟩ : ∃ ob, ob = (wy).heap.size := ⟨_, rfl⟩
        rw [← hobq] at hO ⊢
        replace hobq := Lib.hid hobq
        clear hwy
        have hne : ob ≠ eb := by have := hE.lt; have := hobq.out; omega
        replace hE := hE.below bzy hE.lt
        clear bzy
        have d1 : (n : Int) < (n : Int) + 2 := by omega
        have d2 : (n : Int) + 1 < (n : Int) + 2 := by omega
        have d3 : (0 : Int) ≤ (n : Int) + 1 := by omega
        have d4 : IntKind.i64.wrap ((n : Int) + 1) = (n : Int) + 1 := IntWalk.i64_in _ (by omega)
        have d5 : ((n : Int) + 1).toNat = n + 1 := by omega
        refine wpTree_1 5 hOps (by kernel_rfl) (by decide) rfl (fun K' hK => ?_)
        refine step_app_sla wx rfl _ _ 22 rfl Try.underlying22 hi hz0 hz1 hz2 rfl (by decide) (enc := encT) (xs := []) (ys := l) (B := w.heap.size) (base := w2.heap.size) rfl (own_made hE hmz (by unfold maxLen; omega) hzs) (by rw [← hn.out]; rfl) (es_t (imp_times hl hS.bel)) encT_len encT_one
          (by rw [← hn.out]; unfold maxLen; simp <;> omega) (by rw [← hn.out]; simp <;> omega) b4.size (fun v5 wv hown hgr => ?_)
        replace hS := hS.grow hgr (B := w2.heap.size) (fun g hg => by have e : some eb = some g := hg; simp at e; omega) hml b4.size
        replace b4 := Below.grown b4 hgr b4.size (fun g hg => by have e : some eb = some g := hg; simp at e; omega)
        refine hK.out _ _ hS.hold ?_
        clear hK K'
        try simp only [Act.put, List.setIfInBounds_toArray, List.set_cons_zero, List.set_cons_succ]
        rw [List.nil_append] at hown
        replace hO := blk_grown hgr hO (fun h => by have e : some eb = some ob := h; simp at e; omega)
        refine wpTree_1 9 hOps (by kernel_rfl) (by decide) rfl (fun K' hK => ?_)
        refine step_app_sla wv rfl _ _ 22 rfl Try.underlying22 hi hz0 hz1 hz2 rfl (by decide) (enc := encT) (xs := l) (ys := [⟨-7, 0⟩, ⟨-7, 0⟩]) (B := (wv).heap.size) (base := w2.heap.size) rfl hown rfl (two_marks hO hO.lt) encT_len encT_one
          (by rw [← hn.out]; unfold maxLen; simp <;> omega) (by rw [← hn.out]; simp <;> omega) b4.size (fun v6 wu hown6 hgr6 => ?_)
        replace hS := hS.grow hgr6 (B := w2.heap.size) (fun g hg => (hown.lt g hg).1) hml b4.size
        replace b4 := Below.grown b4 hgr6 b4.size (fun g hg => (hown.lt g hg).1)
        refine hK.out _ _ hS.hold ?_
        clear hK K'
        try simp only [Act.put, List.setIfInBounds_toArray, List.set_cons_zero, List.set_cons_succ]
        refine wpTree_nil hOps (by kernel_rfl) ?_
        refine hT.out _ _ ?_
        simp only [List.drop_succ_cons, List.drop_zero]
        obtain ⟨ar, cr, rfl, _⟩ := hown6.slice
        have hln : (l ++ [(⟨-7, 0⟩ : TTime), ⟨-7, 0⟩]).length = n + 2 := by rw [List.length_append, ← hn.out]; rfl
        rw [hln] at hown6 ⊢
        clear hln hgr6 hown
        try clear hgr
        try clear bzy
        go_wp2_with fail
        go_meet
        case rel => exact ⟨ar, cr, _, rfl, hown6, hml, hS⟩
    · go_simp
      replace hS := hS.below (below_a wz (.cells #[.int .i64 (-7), .int .i64 0, .int .i64 (-7), .int .i64 0] 25))
      refine hK.out _ _ hS.hold ?_
      clear hK K'
      try simp only [Act.put, List.setIfInBounds_toArray, List.set_cons_zero, List.set_cons_succ]
      refine wpTree_world ?_
      intro wy hwy
      rw [← hwy] at hS
      have hO : Blk wy (wz).heap.size #[.int .i64 (-7), .int .i64 0, .int .i64 (-7), .int .i64 0] 25 := by rw [hwy]; exact Blk.new _ _ _
      have bzy : Below (wz).heap.size wz wy := by rw [hwy]; exact below_a _ _
      replace b4 := b4.trans (bzy.mono b4.size)
      obtain ⟨ob, hobq⟩ : ∃ ob, ob = (wz).heap.size := ⟨_, rfl⟩
      rw [← hobq] at hO ⊢
      replace hobq := Lib.hid hobq
      clear hwy
      clear bzy
      refine wpTree_1 3 hOps (by kernel_rfl) (by decide) rfl (fun K' hK => ?_)
      have hm := hmk.out wy
      go_simp
      clear hm
      replace hS := hS.below (below_a wy (.cells zc 25))
      refine hK.out _ _ hS.hold ?_
      clear hK K'
      try simp only [Act.put, List.setIfInBounds_toArray, List.set_cons_zero, List.set_cons_succ]
      refine wpTree_world ?_
      intro wx hwy
      rw [← hwy] at hS
      have hE : Blk wx (wy).heap.size zc 25 := by rw [hwy]; exact Blk.new _ _ _
      have bzy : Below (wy).heap.size wy wx := by rw [hwy]; exact below_a _ _
      have hzs := b4.size
      replace b4 := b4.trans (bzy.mono hzs)
      obtain ⟨eb, hebq⟩ : ∃ eb, eb = (wy).heap.size := ⟨_, rfl⟩
      rw [← hebq] at hE hzs ⊢
      replace hebq := Lib.hid hebq
      clear hwy
      have hne : ob ≠ eb := by have := hO.lt; have := hebq.out; omega
      replace hO := hO.below bzy hO.lt
      clear bzy
      refine wpTree_1 5 hOps (by kernel_rfl) (by decide) rfl (fun K' hK => ?_)
      refine step_app_sla wx rfl _ _ 22 rfl Try.underlying22 hi hz0 hz1 hz2 rfl (by decide) (enc := encT) (xs := []) (ys := l) (B := w.heap.size) (base := w2.heap.size) rfl (own_made hE hmz (by unfold maxLen; omega) hzs) (by rw [← hn.out]; rfl) (es_t (imp_times hl hS.bel)) encT_len encT_one
        (by rw [← hn.out]; unfold maxLen; simp <;> omega) (by rw [← hn.out]; simp <;> omega) b4.size (fun v5 wv hown hgr => ?_)
      replace hS := hS.grow hgr (B := w2.heap.size) (fun g hg => by have e : some eb = some g := hg; simp at e; omega) hml b4.size
      replace b4 := Below.grown b4 hgr b4.size (fun g hg => by have e : some eb = some g := hg; simp at e; omega)
      refine hK.out _ _ hS.hold ?_
      clear hK K'
      try simp only [Act.put, List.setIfInBounds_toArray, List.set_cons_zero, List.set_cons_succ]
      rw [List.nil_append] at hown
      replace hO := blk_grown hgr hO (fun h => by have e : some eb = some ob := h; simp at e; omega)
      refine wpTree_1 9 hOps (by kernel_rfl) (by decide) rfl (fun K' hK => ?_)
      refine step_app_sla wv rfl _ _ 22 rfl Try.underlying22 hi hz0 hz1 hz2 rfl (by decide) (enc := encT) (xs := l) (ys := [⟨-7, 0⟩, ⟨-7, 0⟩]) (B := (wv).heap.size) (base := w2.heap.size) rfl hown rfl (two_marks hO hO.lt) encT_len encT_one
        (by rw [← hn.out]; unfold maxLen; simp <;> omega) (by rw [← hn.out]; simp <;> omega) b4.size (fun v6 wu hown6 hgr6 => ?_)
      replace hS := hS.grow hgr6 (B := w2.heap.size) (fun g hg => (hown.lt g hg).1) hml b4.size
      replace b4 := Below.grown b4 hgr6 b4.size (fun g hg => (hown.lt g hg).1)
      refine hK.out _ _ hS.hold ?_
      clear hK K'
      try simp only [Act.put, List.setIfInBounds_toArray, List.set_cons_zero, List.set_cons_succ]
      refine wpTree_nil hOps (by kernel_rfl) ?_
      refine hT.out _ _ ?_
      simp only [List.drop_succ_cons, List.drop_zero]
      obtain ⟨ar, cr, rfl, _⟩ := hown6.slice
      have hln : (l ++ [(⟨-7, 0⟩ : TTime), ⟨-7, 0⟩]).length = n + 2 := by rw [List.length_append, ← hn.out]; rfl
      rw [hln] at hown6 ⊢
      clear hln hgr6 hown
      try clear hgr
      try clear bzy
      go_wp2_with fail
      go_meet
      case rel => exact ⟨ar, cr, _, rfl, hown6, hml, hS⟩
  case rest =>
    obtain ⟨ar, cr, rbase, rfl, hR, hmr, hS⟩ := hcut
    have hmw := (MSt.m hS).lt
    clear hmk hmz hwrap
    have hwfr : ∀ x ∈ l ++ [(⟨-7, 0⟩ : TTime), ⟨-7, 0⟩], RTime wc.heap.size wc (encT x) x := fun x hx => by
      rcases List.mem_append.1 hx with hx | hx
      · exact ⟨rfl, hwf.out x hx⟩
      · simp only [List.mem_cons, List.not_mem_nil, or_false, or_self] at hx
        subst hx
        exact ⟨rfl, by decide⟩
    obtain ⟨ar', cr', he, hRs⟩ := hR.sla encT_len hwfr
    have hln : (l ++ [(⟨-7, 0⟩ : TTime), ⟨-7, 0⟩]).length = n + 2 := by rw [List.length_append, ← hn.out]; rfl
    simp only [Value.slice.injEq] at he
    obtain ⟨rfl, hx9, rfl⟩ := he
    clear hx9
    obtain ⟨rb, ro, rfl, hrb, _⟩ := hRs.addr (by rw [hln]; omega)
    have hcr := hRs.1
    have hcm := hRs.2.1
    rw [hln] at hcr
    have hcm : cr ≤ 9223372036854775807 := hcm
    have hl2 : SlA wc.heap.size 2 (RTime wc.heap.size) wc (some ⟨rb, ro, none⟩) cr l := by
      have := SlA.take hRs n
      rwa [List.take_left' hn.out.symm] at this
    have hfr2 := fun W hb => front_any l (some ⟨rb, ro, none⟩) cr W wc.heap.size (Below.size hb) (imp_times hl2 hb) (by rw [← hn.out]; exact hreach)
    rw [← hn.out] at hfr2
    have hcn : n ≤ cr := by omega
    have hcz : ¬ (cr = 0) := by omega
    clear hwfr hln
    replace hfr2 := Lib.hid hfr2
    go_wp2_with fail
    refine (hfr2.out _ (Below.refl _ _)).mono ?_
    rintro e w5 ⟨va, fa, rfl, hva, hfa, b5⟩
    obtain rfl := front_unique hfa
    obtain ⟨aa, ca, rfl, _⟩ := hva.sla
    dsimp only
    go_wp2_with fail
    refine (hfr2.out _ b5).mono ?_
    rintro e w6 ⟨vb, fb, rfl, hvb, hfb, b6⟩
    obtain rfl := front_unique hfb
    obtain ⟨ab, cb, rfl, hbs⟩ := hvb.sla
    have hva6 := RowT.of_own (hva.below b6 (Nat.le_refl _))
    have hag := hva.1.lt
    have hmn := frontT_len l
    rw [← hn.out] at hmn
    obtain ⟨m, hm⟩ : ∃ m, m = (frontT l).length := ⟨_, rfl⟩
    rw [← hm] at hva6 hmn hag ⊢
    have hca : ca ≤ 9223372036854775807 := by obtain ⟨_, _, he, _, h2, _⟩ := hva.1.slice; simp only [Value.slice.injEq] at he; rw [he.2.2]; exact h2
    replace hm := Lib.hid hm
    replace hag := Lib.hid hag
    have b56 := b5.trans (b6.mono b5.size)
    replace hS := hS.below b56
    replace hRs := imp_times hRs b56
    have hcs := b56.size
    clear hva hfa hfb hfr2 hl2 hR b5 b56
    dsimp only
    go_wp2_with fail
    go_loopw [8] (fun x wr => ∃ i : Nat, i ≤ m ∧ x = .int .i64 i ∧ RowT wr wc.heap.size (.slice aa m ca) m ∧ Chg (fun k => Value.ownBlock (.slice aa m ca) = some k) w6 wr) (fun x _ => m - (intOf x).toNat)
    case atStart => exact ⟨0, Nat.zero_le _, rfl, hva6, Chg.refl _ _⟩
    case round =>
      clear hva6
      obtain ⟨i, him, rfl, hrow, hch⟩ := hrel
      by_cases hlt : i < m
      · obtain ⟨g, cells, rfl, hg, hgs, hmc, hcm2, hgb⟩ := hrow.blk (by omega)
        have hi1 : i * 2 < cells.size := by omega
        have hi2 : i * 2 + 1 < cells.size := by omega
        have q0 := hg.cellAt (Array.getElem?_eq_getElem hi1)
        have q1 := hg.cellAt (Array.getElem?_eq_getElem hi2)
        have f0 := hg.frozen (i * 2)
        have f1 := hg.frozen (i * 2 + 1)
        have hset := (hg.set (i * 2) (.int .i64 (-9))).set (i * 2 + 1) (.int .i64 0)
        have hch2 := (hch.setCell ⟨g, i * 2, none⟩ (.int .i64 (-9)) (fun _ => rfl)).setCell ⟨g, i * 2 + 1, none⟩ (.int .i64 0) (fun _ => rfl)
        go_wp2_with fail
        go_roundw
        case rel => exact ⟨i + 1, by omega, by go_num, RowT.of_blk hset (by simp [hgs]) hmc hcm2 hgb, hch2⟩
        case measure => simp [intOf]; omega
      · obtain rfl : i = m := by omega
        obtain ⟨xsA, hownA⟩ := hrow
        have hsz := hch.size
        have hbr : Below wc.heap.size w6 wr := hch.below hcs (fun k hk e => by have := (hag.out k e).1; omega)
        have hM := hS.m.below hbr hmw
        have m0 := hM.cellAt (i := 0) (v := .int .i64 (-7)) rfl
        have m1 := hM.cellAt (i := 1) (v := .int .i64 0) rfl
        go_wp2_with (at_builtin; refine Shut.out ?stopa)
        unfold Shut
        refine wpList_append_own_at _ rfl _ _ 22 rfl wc.heap.size 25 i0 _ 2 16 Try.underlying22 hi hz0 hz1 hz2 rfl (by decide) _ i xsA rfl (World.ownsRow.alloc hownA _) ⟨wr.heap.size, 0, none⟩ 3 3 [.int .i64 (-7), .int .i64 0, .int .i64 (-7), .int .i64 0, .int .i64 (-7), .int .i64 0] rfl rfl (three_marks _ _) (by simp [Value.oneCell']) (by unfold maxLen; omega) (by omega) (by simp; omega) ?_
        intro v9 w9 hown9 hgr9 _ _
        rcases hown9.2 with ⟨_, h0⟩ | ⟨g9, cap9, cur9, rfl, _⟩
        · omega
        have hch9 : Chg (fun k => Value.ownBlock (.slice aa i ca) = some k) w6 w9 := (hch.alloc _).trans (Chg.of_grown hgr9)
        have hB9 : Below wc.heap.size w6 w9 := hch9.below hcs (fun k hk e => by have := (hag.out k e).1; omega)
        have hM9 := hS.m.below hB9 hmw
        have hc9 : wc.heap.size ≤ w9.heap.size := Nat.le_trans hcs hB9.size
        have hR9 := imp_times hRs hB9
        have hb9 := hvb.1.chg hch9 (fun g hg e => by have h1 := (hvb.1.lt g hg).1; have h2 := (hag.out g e).2; omega)
        have hwb := hvb.2
        have hbel9 : Below w.heap.size w w9 := hS.bel.trans (hB9.mono (by have := hS.hm; omega))
        clear hown9 hgr9 hownA hM m0 m1 hbr hch hch9 hB9 hRs hvb hbs
        go_upto_region 13 with fail
        have hn1 : n < (l ++ [(⟨-7, 0⟩ : TTime), ⟨-7, 0⟩]).length := by rw [List.length_append, ← hn.out]; simp
        have hn2 : n + 1 < (l ++ [(⟨-7, 0⟩ : TTime), ⟨-7, 0⟩]).length := by rw [List.length_append, ← hn.out]; simp
        obtain ⟨x0, x1, _, _⟩ := RTime.at hR9 hn1 (x := ⟨-7, 0⟩) (by rw [List.getElem_append_right (by rw [← hn.out]; exact Nat.le_refl _)]; simp [← hn.out])
        obtain ⟨y0, y1, _, _⟩ := RTime.at hR9 hn2 (x := ⟨-7, 0⟩) (by rw [List.getElem_append_right (by rw [← hn.out]; omega)]; simp [← hn.out])
        have hl9 : SlA wc.heap.size 2 (RTime wc.heap.size) w9 (some ⟨rb, ro, none⟩) cr l := by
          have := SlA.take hR9 n
          rwa [List.take_left' hn.out.symm] at this
        have m0 := hM9.cellAt (i := 0) (v := .int .i64 (-7)) rfl
        have m1 := hM9.cellAt (i := 1) (v := .int .i64 0) rfl
        have hrl : rb < w9.heap.size := World.lt_of_cell x0
        have hml9 : mb < w9.heap.size := World.lt_of_cell m0
        have hold : ∀ wx, Below w9.heap.size w9 wx → wx.cell? ⟨mb, 0, none⟩ = some (.int .i64 (-7)) ∧ wx.cell? ⟨mb, 1, none⟩ = some (.int .i64 0) ∧ wx.cell? ⟨rb, ro + n * 2, none⟩ = some (.int .i64 (-7)) ∧ wx.cell? ⟨rb, ro + n * 2 + 1, none⟩ = some (.int .i64 0) ∧ wx.cell? ⟨rb, ro + (n + 1) * 2, none⟩ = some (.int .i64 (-7)) ∧ wx.cell? ⟨rb, ro + (n + 1) * 2 + 1, none⟩ = some (.int .i64 0) := fun wx hb =>
          ⟨(hb.cell (p := ⟨mb, 0, none⟩) hml9).trans m0, (hb.cell (p := ⟨mb, 1, none⟩) hml9).trans m1, (hb.cell (p := ⟨rb, _, none⟩) hrl).trans x0, (hb.cell (p := ⟨rb, _, none⟩) hrl).trans x1, (hb.cell (p := ⟨rb, _, none⟩) hrl).trans y0, (hb.cell (p := ⟨rb, _, none⟩) hrl).trans y1⟩
        clear x0 x1 y0 y1 m0 m1 hn1 hn2 hM9
        refine wp_region_tree (fun wx => wx.cell? ⟨mb, 0, none⟩ = some (.int .i64 (-7)) ∧ wx.cell? ⟨mb, 1, none⟩ = some (.int .i64 0) ∧ wx.cell? ⟨rb, ro + n * 2, none⟩ = some (.int .i64 (-7)) ∧ wx.cell? ⟨rb, ro + n * 2 + 1, none⟩ = some (.int .i64 0) ∧ wx.cell? ⟨rb, ro + (n + 1) * 2, none⟩ = some (.int .i64 (-7)) ∧ wx.cell? ⟨rb, ro + (n + 1) * 2 + 1, none⟩ = some (.int .i64 0)) 36 39 (by kernel_rfl) rfl (by kernel_rfl) (fun d _ _ _ _ h => by cases d <;> exact h) (hold _ ((Below.refl _ _).drew)) (fun ops T hOps hT hTok hHeld => ?_)
        refine wpTree_world ?_
        intro wz hwz
        have b9 : Below w9.heap.size w9 wz := by rw [hwz]; exact (Below.refl _ _).drew
        clear hwz hHeld
        replace hold := Lib.hid hold
        (refine wpTree_q 0 hTok hOps (by kernel_rfl) rfl rfl ⟨?_, ?_, ?_⟩; rotate_left; (focus (intro wx hSx; (try dsimp only at hSx); go_simp; (try with_reducible rfl))); (simp only [Act.put, List.setIfInBounds_toArray, List.set_cons_zero, List.set_cons_succ]))
        (refine wpTree_q 1 hTok hOps (by kernel_rfl) rfl rfl ⟨?_, ?_, ?_⟩; rotate_left; (focus (intro wx hSx; (try dsimp only at hSx); go_simp; (try with_reducible rfl))); (simp only [Act.put, List.setIfInBounds_toArray, List.set_cons_zero, List.set_cons_succ]))
        (refine wpTree_q 2 hTok hOps (by kernel_rfl) rfl rfl ⟨?_, ?_, ?_⟩; rotate_left; (focus (intro wx hSx; (try dsimp only at hSx); go_simp; (try with_reducible rfl))); (simp only [Act.put, List.setIfInBounds_toArray, List.set_cons_zero, List.set_cons_succ]))
        (refine wpTree_q 3 hTok hOps (by kernel_rfl) rfl rfl ⟨?_, ?_, ?_⟩; rotate_left; (focus (intro wx hSx; (try dsimp only at hSx); go_simp; (try with_reducible rfl))); (simp only [Act.put, List.setIfInBounds_toArray, List.set_cons_zero, List.set_cons_succ]))
        (refine wpTree_q 4 hTok hOps (by kernel_rfl) rfl rfl ⟨?_, ?_, ?_⟩; rotate_left; (focus (intro wx hSx; (try dsimp only at hSx); go_simp; (try with_reducible rfl))); (simp only [Act.put, List.setIfInBounds_toArray, List.set_cons_zero, List.set_cons_succ]))
        have hSame := fun W => same_tt (-7) 0 (-7) 0 W rfl rfl
        have hlen1 : ∀ wx, Below w9.heap.size w9 wx → SlA wx.heap.size 2 (RTime wx.heap.size) wx (some ⟨rb, ro, none⟩) cr l := fun wx hb => imp_times' (imp_times hl9 (hb.mono hc9)) (by have := hb.size; omega)
        have hlen2 : ∀ wx, Below w9.heap.size w9 wx → SlA wx.heap.size 2 (RTime wx.heap.size) wx ao c1 l := fun wx hb => imp_times' (imp_times hl (hbel9.trans (hb.mono hbel9.size))) (by have := hbel9.size; have := hb.size; omega)
        replace hlen1 := Lib.hid hlen1
        replace hlen2 := Lib.hid hlen2
        replace hSame := Lib.hid hSame
        refine wpTree_1 5 hOps (by kernel_rfl) (by decide) rfl (fun K' hK => ?_)
        go_simp
        refine (sameTimes_at l l n n (some ⟨rb, ro, none⟩) ao cr c1 _ _ hn.out hn.out (Nat.le_refl _) (hlen1.out _ b9) (hlen2.out _ b9) rfl).mono ?_
        rintro e wy ⟨rfl, bn⟩
        dsimp only
        replace b9 := b9.trans (bn.mono b9.size)
        clear bn
        refine hK.out _ _ (hold.out _ b9) ?_
        clear hK K'
        try simp only [Act.put, List.setIfInBounds_toArray, List.set_cons_zero, List.set_cons_succ]
        (refine wpTree_q 6 hTok hOps (by kernel_rfl) rfl rfl ⟨?_, ?_, ?_⟩; rotate_left; (focus (intro wx hSx; (try dsimp only at hSx); go_simp; (try with_reducible rfl))); (simp only [Act.put, List.setIfInBounds_toArray, List.set_cons_zero, List.set_cons_succ]))
        (refine wpTree_qg 7 hTok hOps (by kernel_rfl) rfl rfl ⟨?_, ?_, ?_⟩; rotate_left; (focus (intro wx hSx; (try dsimp only at hSx); go_simp; (try with_reducible rfl))); (simp only [Act.put, List.setIfInBounds_toArray, List.set_cons_zero, List.set_cons_succ]))
        (refine wpTree_qg 8 hTok hOps (by kernel_rfl) rfl rfl ⟨?_, ?_, ?_⟩; rotate_left; (focus (intro wx hSx; (try dsimp only at hSx); go_simp; (try with_reducible rfl))); (simp only [Act.put, List.setIfInBounds_toArray, List.set_cons_zero, List.set_cons_succ]))
        (refine wpTree_qg 9 hTok hOps (by kernel_rfl) rfl rfl ⟨?_, ?_, ?_⟩; rotate_left; (focus (intro wx hSx; (try dsimp only at hSx); go_simp; (try with_reducible rfl))); (simp only [Act.put, List.setIfInBounds_toArray, List.set_cons_zero, List.set_cons_succ]))
        (refine wpTree_qg 10 hTok hOps (by kernel_rfl) rfl rfl ⟨?_, ?_, ?_⟩; rotate_left; (focus (intro wx hSx; (try dsimp only at hSx); go_simp; rw [if_pos (by omega)])); (simp only [Act.put, List.setIfInBounds_toArray, List.set_cons_zero, List.set_cons_succ]))
        (refine wpTree_qg 11 hTok hOps (by kernel_rfl) rfl rfl ⟨?_, ?_, ?_⟩; rotate_left; (focus (intro wx hSx; (try dsimp only at hSx); go_simp; (try with_reducible rfl))); (simp only [Act.put, List.setIfInBounds_toArray, List.set_cons_zero, List.set_cons_succ]))
        (refine wpTree_qg 12 hTok hOps (by kernel_rfl) rfl rfl ⟨?_, ?_, ?_⟩; rotate_left; (focus (intro wx hSx; (try dsimp only at hSx); go_simp; (try with_reducible rfl))); (simp only [Act.put, List.setIfInBounds_toArray, List.set_cons_zero, List.set_cons_succ]))
        refine wpTree_1g 13 hOps (by kernel_rfl) (by decide) rfl rfl (fun K' hK => ?_)
        go_simp
        refine (hSame.out _).mono ?_
        rintro e wx ⟨rfl, bn⟩
        dsimp only
        replace b9 := b9.trans (bn.mono b9.size)
        clear bn
        refine hK.out _ _ (hold.out _ b9) ?_
        clear hK K'
        try simp only [Act.put, List.setIfInBounds_toArray, List.set_cons_zero, List.set_cons_succ]
        (refine wpTree_q 14 hTok hOps (by kernel_rfl) rfl rfl ⟨?_, ?_, ?_⟩; rotate_left; (focus (intro wx hSx; (try dsimp only at hSx); go_simp; (try with_reducible rfl))); (simp only [Act.put, List.setIfInBounds_toArray, List.set_cons_zero, List.set_cons_succ]))
        (refine wpTree_q 15 hTok hOps (by kernel_rfl) rfl rfl ⟨?_, ?_, ?_⟩; rotate_left; (focus (intro wx hSx; (try dsimp only at hSx); go_simp; (try with_reducible rfl))); (simp only [Act.put, List.setIfInBounds_toArray, List.set_cons_zero, List.set_cons_succ]))
        (refine wpTree_qg 16 hTok hOps (by kernel_rfl) rfl rfl ⟨?_, ?_, ?_⟩; rotate_left; (focus (intro wx hSx; (try dsimp only at hSx); go_simp; (try with_reducible rfl))); (simp only [Act.put, List.setIfInBounds_toArray, List.set_cons_zero, List.set_cons_succ]))
        (refine wpTree_qg 17 hTok hOps (by kernel_rfl) rfl rfl ⟨?_, ?_, ?_⟩; rotate_left; (focus (intro wx hSx; (try dsimp only at hSx); go_simp; (try with_reducible rfl))); (simp only [Act.put, List.setIfInBounds_toArray, List.set_cons_zero, List.set_cons_succ]))
        (refine wpTree_qg 18 hTok hOps (by kernel_rfl) rfl rfl ⟨?_, ?_, ?_⟩; rotate_left; (focus (intro wx hSx; (try dsimp only at hSx); go_simp; (try with_reducible rfl))); (simp only [Act.put, List.setIfInBounds_toArray, List.set_cons_zero, List.set_cons_succ]))
        (refine wpTree_qg 19 hTok hOps (by kernel_rfl) rfl rfl ⟨?_, ?_, ?_⟩; rotate_left; (focus (intro wx hSx; (try dsimp only at hSx); go_simp; rw [IntWalk.i64_in ((n : Int) + 1) (by omega)])); (simp only [Act.put, List.setIfInBounds_toArray, List.set_cons_zero, List.set_cons_succ]))
        (refine wpTree_qg 20 hTok hOps (by kernel_rfl) rfl rfl ⟨?_, ?_, ?_⟩; rotate_left; (focus (intro wx hSx; (try dsimp only at hSx); go_simp; rw [if_pos (by omega)])); (simp only [Act.put, List.setIfInBounds_toArray, List.set_cons_zero, List.set_cons_succ]))
        (refine wpTree_qg 21 hTok hOps (by kernel_rfl) rfl rfl ⟨?_, ?_, ?_⟩; rotate_left; (focus (intro wx hSx; (try dsimp only at hSx); go_simp; (try with_reducible rfl))); (simp only [Act.put, List.setIfInBounds_toArray, List.set_cons_zero, List.set_cons_succ]))
        (refine wpTree_qg 22 hTok hOps (by kernel_rfl) rfl rfl ⟨?_, ?_, ?_⟩; rotate_left; (focus (intro wx hSx; (try dsimp only at hSx); go_simp; (try with_reducible rfl))); (simp only [Act.put, List.setIfInBounds_toArray, List.set_cons_zero, List.set_cons_succ]))
        refine wpTree_1g 23 hOps (by kernel_rfl) (by decide) rfl rfl (fun K' hK => ?_)
        go_simp
        refine (hSame.out _).mono ?_
        rintro e wv ⟨rfl, bn⟩
        dsimp only
        replace b9 := b9.trans (bn.mono b9.size)
        clear bn
        refine hK.out _ _ (hold.out _ b9) ?_
        clear hK K'
        try simp only [Act.put, List.setIfInBounds_toArray, List.set_cons_zero, List.set_cons_succ]
        (refine wpTree_q 24 hTok hOps (by kernel_rfl) rfl rfl ⟨?_, ?_, ?_⟩; rotate_left; (focus (intro wx hSx; (try dsimp only at hSx); go_simp; (try with_reducible rfl))); (simp only [Act.put, List.setIfInBounds_toArray, List.set_cons_zero, List.set_cons_succ]))
        (refine wpTree_q 25 hTok hOps (by kernel_rfl) rfl rfl ⟨?_, ?_, ?_⟩; rotate_left; (focus (intro wx hSx; (try dsimp only at hSx); go_simp; (try with_reducible rfl))); (simp only [Act.put, List.setIfInBounds_toArray, List.set_cons_zero, List.set_cons_succ]))
        (refine wpTree_qg 26 hTok hOps (by kernel_rfl) rfl rfl ⟨?_, ?_, ?_⟩; rotate_left; (focus (intro wx hSx; (try dsimp only at hSx); go_simp; (try with_reducible rfl))); (simp only [Act.put, List.setIfInBounds_toArray, List.set_cons_zero, List.set_cons_succ]))
        (refine wpTree_qg 27 hTok hOps (by kernel_rfl) rfl rfl ⟨?_, ?_, ?_⟩; rotate_left; (focus (intro wx hSx; (try dsimp only at hSx); go_simp; (try with_reducible rfl))); (simp only [Act.put, List.setIfInBounds_toArray, List.set_cons_zero, List.set_cons_succ]))
        refine wpTree_1g 28 hOps (by kernel_rfl) (by decide) rfl rfl (fun K' hK => ?_)
        go_simp
        refine (hfr.out _ (hbel9.trans (b9.mono hbel9.size))).mono ?_
        rintro e wu ⟨vq, rfl, hvq, bn⟩
        obtain ⟨aq, cq, rfl, hq⟩ := hvq.sla
        rw [← hm.out]
        dsimp only
        replace b9 := b9.trans (bn.mono b9.size)
        clear bn
        refine hK.out _ _ (hold.out _ b9) ?_
        clear hK K'
        try simp only [Act.put, List.setIfInBounds_toArray, List.set_cons_zero, List.set_cons_succ]
        have hbu := (hb9.below b9 (Nat.le_refl _)).sla encT_len (E := RTime wu.heap.size) (fun x hx => ⟨rfl, hwb x hx⟩)
        obtain ⟨ab', cb', he, hbs⟩ := hbu
        simp only [Value.slice.injEq] at he
        obtain ⟨rfl, hx9, rfl⟩ := he
        clear hx9
        refine wpTree_1g 29 hOps (by kernel_rfl) (by decide) rfl rfl (fun K' hK => ?_)
        go_simp
        refine (sameTimes_at (frontT l) (frontT l) i i ab aq cb cq _ _ hm.out hm.out (Nat.le_refl _) hbs hq rfl).mono ?_
        rintro e wt ⟨rfl, bn⟩
        dsimp only
        replace b9 := b9.trans (bn.mono b9.size)
        clear bn
        refine hK.out _ _ (hold.out _ b9) ?_
        clear hK K'
        try simp only [Act.put, List.setIfInBounds_toArray, List.set_cons_zero, List.set_cons_succ]
        (refine wpTree_q 30 hTok hOps (by kernel_rfl) rfl rfl ⟨?_, ?_, ?_⟩; rotate_left; (focus (intro wx hSx; (try dsimp only at hSx); go_simp; (try with_reducible rfl))); (simp only [Act.put, List.setIfInBounds_toArray, List.set_cons_zero, List.set_cons_succ]))
        (refine wpTree_q 31 hTok hOps (by kernel_rfl) rfl rfl ⟨?_, ?_, ?_⟩; rotate_left; (focus (intro wx hSx; (try dsimp only at hSx); go_simp; (try with_reducible rfl))); (simp only [Act.put, List.setIfInBounds_toArray, List.set_cons_zero, List.set_cons_succ]))
        (refine wpTree_qg 32 hTok hOps (by kernel_rfl) rfl rfl ⟨?_, ?_, ?_⟩; rotate_left; (focus (intro wx hSx; (try dsimp only at hSx); go_simp; (try with_reducible rfl))); (simp only [Act.put, List.setIfInBounds_toArray, List.set_cons_zero, List.set_cons_succ]))
        (refine wpTree_qg 33 hTok hOps (by kernel_rfl) rfl rfl ⟨?_, ?_, ?_⟩; rotate_left; (focus (intro wx hSx; (try dsimp only at hSx); go_simp; (try with_reducible rfl))); (simp only [Act.put, List.setIfInBounds_toArray, List.set_cons_zero, List.set_cons_succ]))
        (refine wpTree_qg 34 hTok hOps (by kernel_rfl) rfl rfl ⟨?_, ?_, ?_⟩; rotate_left; (focus (intro wx hSx; (try dsimp only at hSx); go_simp; (try with_reducible rfl))); (simp only [Act.put, List.setIfInBounds_toArray, List.set_cons_zero, List.set_cons_succ]))
        (refine wpTree_qg 35 hTok hOps (by kernel_rfl) rfl rfl ⟨?_, ?_, ?_⟩; rotate_left; (focus (intro wx hSx; (try dsimp only at hSx); go_simp; rw [IntWalk.i64_in ((i : Int) + 3) (by omega)])); (simp only [Act.put, List.setIfInBounds_toArray, List.set_cons_zero, List.set_cons_succ]))
        refine wpTree_nil hOps (by kernel_rfl) ?_
        refine hT.out _ _ ?_
        simp only [List.drop_succ_cons, List.drop_zero]
        have hbz := hbel9.trans (b9.mono hbel9.size)
        clear hold hSame hlen1 hlen2 hfr hq hbs
        go_wp2_with fail
        go_ret
        exact ⟨rfl, hbz⟩
theorem keeps_row {w : World} (ao : Option Addr) (len cap : Nat) (xs : List TTime) (hx : RSl w.heap.size 2 (RTime w.heap.size) w (Value.cells (.slice ao len cap)).toList xs) (hz : cap * 16 ≤ reachBytes) :
    Calls Try.prog 3 #[.slice ao len cap] w fun e w' => e = .returned (.bool true) ∧ Below w.heap.size w w' := by
  obtain ⟨rfl, h⟩ := times_arg hx
  have hr : reachBytes = 140737488351232 := rfl
  have hl := h.1
  exact skeeps_walk xs ao cap w h (by omega)
end Go.Proofs.Ytjigbkklgekjlaa
