/- Stamp: StampOrders: the walk. -/
import Derived.Test.YtjigbkklgekjlaaSg
import Derived.Test.YtjigbkklgekjlaaBaseU
import Derived.Deep.DeepCutAuto
import Derived.Deep.RegionHeld3
namespace Go.Proofs.Ytjigbkklgekjlaa
open Go.RowKit
set_option linter.unusedVariables false
set_option linter.unusedSimpArgs false

theorem rle_tt (a b c d : Int) (w : World) (h1 : a ≤ c) (h2 : b ≤ d) :
    Calls Try.prog 20 #[.agg #[.int .i64 a, .int .i64 b], .agg #[.int .i64 c, .int .i64 d]] w fun x w' => x = .returned (.bool true) ∧ Below w.heap.size w w' := by
  have := rle_any a b c d w
  rwa [(leT_iff _ _).2 ⟨h1, h2⟩] at this

/-- What a callee that makes memory alone leaves, as rules: the cells, the marks, the sizes. -/
theorem brules {W w1 : World} (hb : Below W.heap.size W w1) : (∀ b o, b < W.heap.size → w1.cell? ⟨b, o, none⟩ = W.cell? ⟨b, o, none⟩) ∧ (∀ b o, b < W.heap.size → w1.frozen? ⟨b, o, none⟩ = W.frozen? ⟨b, o, none⟩) ∧
    (∀ n, n < W.heap.size → n < w1.heap.size) ∧ (∀ n, n < W.heap.size → n ≠ w1.heap.size) ∧ (∀ n, n < W.heap.size → w1.heap.size ≠ n) :=
  ⟨fun b o h => hb.cell (p := ⟨b, o, none⟩) h, fun b o h => hb.frozen (p := ⟨b, o, none⟩) h, fun n h => Nat.lt_of_lt_of_le h hb.size, fun n h e => by have := hb.size; omega, fun n h e => by have := hb.size; omega⟩

theorem ordF {W w2 : World} {n : Nat} {a0 a1 b0 b1 : Int} (hS : W.cell? ⟨n, 0, none⟩ = some (.int .i64 a0) ∧ W.cell? ⟨n, 1, none⟩ = some (.int .i64 a1) ∧ W.cell? ⟨n + 1, 0, none⟩ = some (.int .i64 b0) ∧ W.cell? ⟨n + 1, 1, none⟩ = some (.int .i64 b1))
    (b : Below W.heap.size W w2) : (w2.cell? ⟨n, 0, none⟩ = some (.int .i64 a0) ∧ w2.cell? ⟨n, 1, none⟩ = some (.int .i64 a1) ∧ w2.cell? ⟨n + 1, 0, none⟩ = some (.int .i64 b0) ∧ w2.cell? ⟨n + 1, 1, none⟩ = some (.int .i64 b1)) ∧
      n < w2.heap.size ∧ n + 1 < w2.heap.size ∧ n ≠ w2.heap.size ∧ n + 1 ≠ w2.heap.size := by
  obtain ⟨h0, h1, h2, h3⟩ := hS
  have l0 : n < W.heap.size := World.lt_of_cell h0
  have l1 : n + 1 < W.heap.size := World.lt_of_cell h2
  have := b.size
  exact ⟨⟨(b.cell (p := ⟨n, 0, none⟩) l0).trans h0, (b.cell (p := ⟨n, 1, none⟩) l0).trans h1, (b.cell (p := ⟨n + 1, 0, none⟩) l1).trans h2, (b.cell (p := ⟨n + 1, 1, none⟩) l1).trans h3⟩, by omega, by omega, by omega, by omega⟩

theorem ordS_set {W : World} {n : Nat} {a0 a1 b0 b1 : Int} (hS : W.cell? ⟨n, 0, none⟩ = some (.int .i64 a0) ∧ W.cell? ⟨n, 1, none⟩ = some (.int .i64 a1) ∧ W.cell? ⟨n + 1, 0, none⟩ = some (.int .i64 b0) ∧ W.cell? ⟨n + 1, 1, none⟩ = some (.int .i64 b1))
    (p : Addr) (h1 : n ≠ p.block) (h2 : n + 1 ≠ p.block) (v : Value) : ((W.setCell p v).cell? ⟨n, 0, none⟩ = some (.int .i64 a0) ∧ (W.setCell p v).cell? ⟨n, 1, none⟩ = some (.int .i64 a1) ∧ (W.setCell p v).cell? ⟨n + 1, 0, none⟩ = some (.int .i64 b0) ∧ (W.setCell p v).cell? ⟨n + 1, 1, none⟩ = some (.int .i64 b1)) := by
  obtain ⟨e0, e1, e2, e3⟩ := hS
  refine ⟨?_, ?_, ?_, ?_⟩
  · rw [World.cell?_setCell_other _ _ _ _ (fun e => h1 (by rw [e]))]; exact e0
  · rw [World.cell?_setCell_other _ _ _ _ (fun e => h1 (by rw [e]))]; exact e1
  · rw [World.cell?_setCell_other _ _ _ _ (fun e => h2 (by rw [e]))]; exact e2
  · rw [World.cell?_setCell_other _ _ _ _ (fun e => h2 (by rw [e]))]; exact e3
theorem ordS_alloc {W : World} {n : Nat} {a0 a1 b0 b1 : Int} (hS : W.cell? ⟨n, 0, none⟩ = some (.int .i64 a0) ∧ W.cell? ⟨n, 1, none⟩ = some (.int .i64 a1) ∧ W.cell? ⟨n + 1, 0, none⟩ = some (.int .i64 b0) ∧ W.cell? ⟨n + 1, 1, none⟩ = some (.int .i64 b1))
    (o : Obj) : ((W.alloc o).cell? ⟨n, 0, none⟩ = some (.int .i64 a0) ∧ (W.alloc o).cell? ⟨n, 1, none⟩ = some (.int .i64 a1) ∧ (W.alloc o).cell? ⟨n + 1, 0, none⟩ = some (.int .i64 b0) ∧ (W.alloc o).cell? ⟨n + 1, 1, none⟩ = some (.int .i64 b1)) := by
  obtain ⟨e0, e1, e2, e3⟩ := hS
  exact ⟨by rw [World.cell?_alloc_lt _ _ _ (World.lt_of_cell e0)]; exact e0, by rw [World.cell?_alloc_lt _ _ _ (World.lt_of_cell e1)]; exact e1, by rw [World.cell?_alloc_lt _ _ _ (World.lt_of_cell e2)]; exact e2, by rw [World.cell?_alloc_lt _ _ _ (World.lt_of_cell e3)]; exact e3⟩

theorem ord4 {W : World} {p q : Nat} (hpq : p ≠ q) {x0 x1 y0 y1 : Value} (h0 : W.cell? ⟨p, 0, none⟩ = some x0) (h1 : W.cell? ⟨p, 1, none⟩ = some x1) (h2 : W.cell? ⟨q, 0, none⟩ = some y0) (h3 : W.cell? ⟨q, 1, none⟩ = some y1) (j0 j1 m0 m1 : Value) :
    ((((W.setCell ⟨p, 0, none⟩ j0).setCell ⟨p, 1, none⟩ j1).setCell ⟨q, 0, none⟩ m0).setCell ⟨q, 1, none⟩ m1).cell? ⟨p, 0, none⟩ = some j0 ∧ ((((W.setCell ⟨p, 0, none⟩ j0).setCell ⟨p, 1, none⟩ j1).setCell ⟨q, 0, none⟩ m0).setCell ⟨q, 1, none⟩ m1).cell? ⟨p, 1, none⟩ = some j1 ∧
    ((((W.setCell ⟨p, 0, none⟩ j0).setCell ⟨p, 1, none⟩ j1).setCell ⟨q, 0, none⟩ m0).setCell ⟨q, 1, none⟩ m1).cell? ⟨q, 0, none⟩ = some m0 ∧ ((((W.setCell ⟨p, 0, none⟩ j0).setCell ⟨p, 1, none⟩ j1).setCell ⟨q, 0, none⟩ m0).setCell ⟨q, 1, none⟩ m1).cell? ⟨q, 1, none⟩ = some m1 := by
  have hqp : q ≠ p := Ne.symm hpq
  have a0 := World.cell?_setCell_same W ⟨p, 0, none⟩ j0 h0
  have a1 : (W.setCell ⟨p, 0, none⟩ j0).cell? ⟨p, 1, none⟩ = some x1 := by rw [World.cell?_setCell_other _ _ _ _ (by simp)]; exact h1
  have a2 : (W.setCell ⟨p, 0, none⟩ j0).cell? ⟨q, 0, none⟩ = some y0 := by rw [World.cell?_setCell_other _ _ _ _ (by simp)]; exact h2
  have a3 : (W.setCell ⟨p, 0, none⟩ j0).cell? ⟨q, 1, none⟩ = some y1 := by rw [World.cell?_setCell_other _ _ _ _ (by simp)]; exact h3
  generalize W.setCell ⟨p, 0, none⟩ j0 = W1 at *
  have b0 : (W1.setCell ⟨p, 1, none⟩ j1).cell? ⟨p, 0, none⟩ = some j0 := by rw [World.cell?_setCell_other _ _ _ _ (by simp)]; exact a0
  have b1 := World.cell?_setCell_same W1 ⟨p, 1, none⟩ j1 a1
  have b2 : (W1.setCell ⟨p, 1, none⟩ j1).cell? ⟨q, 0, none⟩ = some y0 := by rw [World.cell?_setCell_other _ _ _ _ (by simp)]; exact a2
  have b3 : (W1.setCell ⟨p, 1, none⟩ j1).cell? ⟨q, 1, none⟩ = some y1 := by rw [World.cell?_setCell_other _ _ _ _ (by simp)]; exact a3
  generalize W1.setCell ⟨p, 1, none⟩ j1 = W2 at *
  have c0 : (W2.setCell ⟨q, 0, none⟩ m0).cell? ⟨p, 0, none⟩ = some j0 := by rw [World.cell?_setCell_other _ _ _ _ (by simp)]; exact b0
  have c1 : (W2.setCell ⟨q, 0, none⟩ m0).cell? ⟨p, 1, none⟩ = some j1 := by rw [World.cell?_setCell_other _ _ _ _ (by simp)]; exact b1
  have c2 := World.cell?_setCell_same W2 ⟨q, 0, none⟩ m0 b2
  have c3 : (W2.setCell ⟨q, 0, none⟩ m0).cell? ⟨q, 1, none⟩ = some y1 := by rw [World.cell?_setCell_other _ _ _ _ (by simp)]; exact b3
  generalize W2.setCell ⟨q, 0, none⟩ m0 = W3 at *
  exact ⟨by rw [World.cell?_setCell_other _ _ _ _ (by simp)]; exact c0, by rw [World.cell?_setCell_other _ _ _ _ (by simp)]; exact c1, by rw [World.cell?_setCell_other _ _ _ _ (by simp)]; exact c2, World.cell?_setCell_same W3 ⟨q, 1, none⟩ m1 c3⟩

theorem around_end' (a b : Int) (w : World) (h : goodT ⟨a, b⟩ = true) (hb : b = 9223372036854775807) :
    Calls Try.prog 22 #[.agg #[.int .i64 a, .int .i64 b]] w fun x w' => x = .returned (.tuple #[.agg #[.int .i64 0, .int .i64 0], .int .i64 14]) ∧ Below w.heap.size w w' := by
  subst hb
  exact around_end a w h

def OrdS (w : World) (n jb mb : Nat) (a0 a1 b0 b1 d0 d1 j0 j1 m0 m1 : Int) (wx : World) : Prop :=
  Below n w wx ∧ Blk wx n #[.int .i64 a0, .int .i64 a1] 25 ∧ Blk wx (n + 1) #[.int .i64 b0, .int .i64 b1] 25 ∧ Blk wx (n + 1 + 1) #[.int .i64 d0, .int .i64 d1] 25 ∧
    Blk wx jb #[.int .i64 j0, .int .i64 j1] 25 ∧ Blk wx mb #[.int .i64 m0, .int .i64 m1] 25
theorem OrdS.next {w : World} {n jb mb : Nat} {a0 a1 b0 b1 d0 d1 j0 j1 m0 m1 : Int} {W W' : World} (h : OrdS w n jb mb a0 a1 b0 b1 d0 d1 j0 j1 m0 m1 W) (hn : n = w.heap.size) (b : Below W.heap.size W W') : OrdS w n jb mb a0 a1 b0 b1 d0 d1 j0 j1 m0 m1 W' := by
  subst hn
  obtain ⟨h0, h1, h2, h3, h4, h5⟩ := h
  exact ⟨h0.trans (b.mono h0.size), h1.below b h1.lt, h2.below b h2.lt, h3.below b h3.lt, h4.below b h4.lt, h5.below b h5.lt⟩
theorem OrdS.facts {w : World} {n jb mb : Nat} {a0 a1 b0 b1 d0 d1 j0 j1 m0 m1 : Int} {W : World} (h : OrdS w n jb mb a0 a1 b0 b1 d0 d1 j0 j1 m0 m1 W) :
    W.cell? ⟨n, 0, none⟩ = some (.int .i64 a0) ∧ W.cell? ⟨n, 1, none⟩ = some (.int .i64 a1) ∧ W.cell? ⟨n + 1, 0, none⟩ = some (.int .i64 b0) ∧ W.cell? ⟨n + 1, 1, none⟩ = some (.int .i64 b1) ∧
    W.cell? ⟨n + 1 + 1, 0, none⟩ = some (.int .i64 d0) ∧ W.cell? ⟨n + 1 + 1, 1, none⟩ = some (.int .i64 d1) ∧ W.cell? ⟨jb, 0, none⟩ = some (.int .i64 j0) ∧ W.cell? ⟨jb, 1, none⟩ = some (.int .i64 j1) ∧ W.cell? ⟨mb, 0, none⟩ = some (.int .i64 m0) ∧ W.cell? ⟨mb, 1, none⟩ = some (.int .i64 m1) :=
  ⟨h.2.1.cellAt rfl, h.2.1.cellAt rfl, h.2.2.1.cellAt rfl, h.2.2.1.cellAt rfl, h.2.2.2.1.cellAt rfl, h.2.2.2.1.cellAt rfl, h.2.2.2.2.1.cellAt rfl, h.2.2.2.2.1.cellAt rfl, h.2.2.2.2.2.cellAt rfl, h.2.2.2.2.2.cellAt rfl⟩
def CutO (P : World → Prop) (s : Value) (wx : World) : Prop := s = .bool false ∧ P wx

set_option maxRecDepth 100000 in
set_option maxHeartbeats 4000000 in
theorem orders_walk (a0 a1 b0 b1 d0 d1 : Int) (w : World) (ha1 : -9223372036854775808 ≤ a1) (ha2 : a1 ≤ 9223372036854775807) :
    Calls Try.prog 7 #[.agg #[.int .i64 a0, .int .i64 a1], .agg #[.int .i64 b0, .int .i64 b1], .agg #[.int .i64 d0, .int .i64 d1]] w fun e w' => e = .returned (.bool true) ∧ Below w.heap.size w w' := by
  have hjoin := fun W => join_any a0 a1 b0 b1 W
  have hmeet := fun W => meet_any a0 a1 b0 b1 W
  obtain ⟨j0, hj0⟩ : ∃ j0, j0 = max a0 b0 := ⟨_, rfl⟩
  obtain ⟨j1, hj1⟩ : ∃ j1, j1 = max a1 b1 := ⟨_, rfl⟩
  obtain ⟨m0, hm0⟩ : ∃ m0, m0 = min a0 b0 := ⟨_, rfl⟩
  obtain ⟨m1, hm1⟩ : ∃ m1, m1 = min a1 b1 := ⟨_, rfl⟩
  rw [← hj0, ← hj1] at hjoin
  rw [← hm0, ← hm1] at hmeet
  have hJn : Hid (a0 ≤ j0 ∧ b0 ≤ j0 ∧ (j0 = a0 ∨ j0 = b0) ∧ a1 ≤ j1 ∧ b1 ≤ j1 ∧ (j1 = a1 ∨ j1 = b1)) := Lib.hid (by omega)
  have hMn : Hid (m0 ≤ a0 ∧ m0 ≤ b0 ∧ (m0 = a0 ∨ m0 = b0) ∧ m1 ≤ a1 ∧ m1 ≤ b1 ∧ (m1 = a1 ∨ m1 = b1)) := Lib.hid (by omega)
  clear hj0 hj1 hm0 hm1
  obtain ⟨N, hN⟩ : ∃ N, N = w.heap.size := ⟨_, rfl⟩
  go_enter Try.func7, Try.ntmps7
  go_wp2_with fail
  refine (known_any _).mono ?_
  rintro e w1 ⟨rfl, k1⟩
  have hbel : Below w.heap.size w w1 := (by repeat (first | exact Below.refl _ _ | assumption | refine below_drewN ?_ _ | refine Below.drew ?_ | (refine Below.setCell ?_ (by first | omega | (simp; omega) | simp) _) | (refine Below.alloc ?_ (by first | omega | (simp; omega) | simp) _) | (refine Below.trans ?_ (Below.mono (by assumption) (by first | omega | (simp; omega) | simp)))))
  have hA : Blk w1 w.heap.size #[.int .i64 a0, .int .i64 a1] 25 := (((Blk.new _ _ _).alloc _).alloc _).below k1 (by simp; omega)
  have hB : Blk w1 (w.heap.size + 1) #[.int .i64 b0, .int .i64 b1] 25 := by
    have := (Blk.new (w.alloc (.cells #[.int .i64 a0, .int .i64 a1] 25)) #[.int .i64 b0, .int .i64 b1] 25).alloc (.cells #[.int .i64 d0, .int .i64 d1] 25)
    simp only [World.size_alloc] at this
    exact this.below k1 (by simp)
  have hD : Blk w1 (w.heap.size + 1 + 1) #[.int .i64 d0, .int .i64 d1] 25 := by
    have := Blk.new ((w.alloc (.cells #[.int .i64 a0, .int .i64 a1] 25)).alloc (.cells #[.int .i64 b0, .int .i64 b1] 25)) #[.int .i64 d0, .int .i64 d1] 25
    simp only [World.size_alloc] at this
    exact this.below k1 (by simp)
  clear k1
  rw [← hN] at hbel hA hB hD ⊢
  replace hN := Lib.hid hN
  have e0 : w1.cell? ⟨N, 0, none⟩ = some (.int .i64 a0) := hA.cellAt rfl
  have e1 : w1.cell? ⟨N, 1, none⟩ = some (.int .i64 a1) := hA.cellAt rfl
  have e2 : w1.cell? ⟨N + 1, 0, none⟩ = some (.int .i64 b0) := hB.cellAt rfl
  have e3 : w1.cell? ⟨N + 1, 1, none⟩ = some (.int .i64 b1) := hB.cellAt rfl
  have hDl := hD.lt
  obtain ⟨n0, hn0⟩ : ∃ n, n = w1.heap.size := ⟨_, rfl⟩
  have hn0' : N + 1 + 1 < n0 := by omega
  go_upto_region 3 with fail
  refine wp_region_flta2 (fun _ => False) (fun wx => n0 ≤ wx.heap.size ∧ wx.cell? ⟨N, 0, none⟩ = some (.int .i64 a0) ∧ wx.cell? ⟨N, 1, none⟩ = some (.int .i64 a1) ∧ wx.cell? ⟨N + 1, 0, none⟩ = some (.int .i64 b0) ∧ wx.cell? ⟨N + 1, 1, none⟩ = some (.int .i64 b1)) 8
    [0, 1, 3, 4, 2, 5] [2, 5] 6 7 n0 #[.int .i64 0, .int .i64 0] 25 (by kernel_rfl) (by kernel_rfl) rfl rfl rfl rfl ?hrun ?hrun2 (fun d _ _ _ _ h => by cases d <;> exact h) (fun d _ _ _ _ h => by cases d <;> exact h) (fun k hk => hk.elim) (fun u hu => hu.1) ?hSa ⟨Nat.le_of_eq hn0, e0, e1, e2, e3⟩ (fun hHeld => ?hgo)
  case hrun =>
    intro a u
    go_simp
  case hrun2 =>
    intro a u
    go_simp
  case hSa =>
    rintro u ⟨h1, h2⟩
    exact ⟨by simp; omega, ordS_alloc h2 _⟩
  case hgo =>
    simp only [List.take_succ_cons, List.take_zero, List.drop_succ_cons, List.drop_zero, pickN, Nat.reduceSub]
    have hb : Below w1.heap.size w1 w1.drew := (Below.refl _ _).drew
    clear e0 e1 e2 e3 hHeld
    iterate 4 (refine wpMidF_q rfl rfl ⟨?_, ?_, ?_⟩; rotate_left; (focus (intro wx hSx; obtain ⟨hSx1, hSx2, hSx3, hSx4, hSx5⟩ := hSx; (try dsimp only at hSx1 hSx2 hSx3 hSx4 hSx5); go_simp; (try with_reducible rfl))); (simp only [Act.put, List.setIfInBounds_toArray, List.set_cons_zero, List.set_cons_succ]))
    refine wpMidF_s rfl rfl (fun wf hbf hSf K' hK => ?_)
    go_simp
    refine (hjoin _).mono ?_
    rintro e w2 ⟨rfl, b2⟩
    dsimp only
    replace hb := (hb.trans (hbf.mono hb.size)).trans (b2.mono (hb.trans (hbf.mono hb.size)).size)
    refine hK.out _ _ ((Chg.of_below b2).mono (fun k h1 h2 => absurd h2 (by omega))) ⟨Nat.le_trans hSf.1 b2.size, (ordF hSf.2 b2).1⟩ ?_
    clear hK K' b2 hSf hbf wf
    try simp only [Act.put, List.setIfInBounds_toArray, List.set_cons_zero, List.set_cons_succ]
    refine wpMidF_s rfl rfl (fun wf hbf hSf K' hK => ?_)
    go_simp
    refine (hmeet _).mono ?_
    rintro e w3 ⟨rfl, b2⟩
    dsimp only
    replace hb := (hb.trans (hbf.mono hb.size)).trans (b2.mono (hb.trans (hbf.mono hb.size)).size)
    refine hK.out _ _ ((Chg.of_below b2).mono (fun k h1 h2 => absurd h2 (by omega))) ⟨Nat.le_trans hSf.1 b2.size, (ordF hSf.2 b2).1⟩ ?_
    clear hK K' b2 hSf hbf wf
    try simp only [Act.put, List.setIfInBounds_toArray, List.set_cons_zero, List.set_cons_succ]
    refine wpMidF_nil (fun w4 hb4 hS4 jb mb w5 hb5 hjn hmn hne hJ hM => ?_)
    replace hb := (hb.trans (hb4.mono hb.size))
    replace hb := (hb.trans (hb5.mono hb.size))
    clear hb4 hb5 hS4 w2 w3 w4 hjoin hmeet
    have p0 : w5.cell? ⟨jb, 0, none⟩ = some (.int .i64 0) := hJ.cellAt rfl
    have p1 : w5.cell? ⟨jb, 1, none⟩ = some (.int .i64 0) := hJ.cellAt rfl
    have q0 : w5.cell? ⟨mb, 0, none⟩ = some (.int .i64 0) := hM.cellAt rfl
    have q1 : w5.cell? ⟨mb, 1, none⟩ = some (.int .i64 0) := hM.cellAt rfl
    have pf := fun i => hJ.frozen i
    have qf := fun i => hM.frozen i
    have hne' := Ne.symm hne
    go_upto_region 4 with fail
    refine Code.wp_world ?_
    intro w6 hw6
    have hJ6 : Blk w6 jb #[.int .i64 j0, .int .i64 j1] 25 := by
      rw [hw6]
      exact (((hJ.set 0 _).set 1 _).set_other (p := ⟨mb, 0, none⟩) hne _).set_other (p := ⟨mb, 1, none⟩) hne _
    have hM6 : Blk w6 mb #[.int .i64 m0, .int .i64 m1] 25 := by
      rw [hw6]
      exact (((hM.set_other (p := ⟨jb, 0, none⟩) hne' _).set_other (p := ⟨jb, 1, none⟩) hne' _).set 0 _).set 1 _
    have hb6 : Below w1.heap.size w1 w6 := by
      rw [hw6]
      exact (((hb.setCell (p := ⟨jb, 0, none⟩) (by dsimp only; omega) _).setCell (p := ⟨jb, 1, none⟩) (by dsimp only; omega) _).setCell (p := ⟨mb, 0, none⟩) (by dsimp only; omega) _).setCell (p := ⟨mb, 1, none⟩) (by dsimp only; omega) _
    have hOr : OrdS w N jb mb a0 a1 b0 b1 d0 d1 j0 j1 m0 m1 w6 := ⟨hbel.trans (hb6.mono (by rw [hN.out]; rw [hN.out] at hbel; exact hbel.size)), hA.below hb6 hA.lt, hB.below hb6 hB.lt, hD.below hb6 hD.lt, hJ6, hM6⟩
    clear hw6 hJ6 hM6 hb6 hb hA hB hD hbel p0 p1 q0 q1 pf qf hne hne' hJ hM hDl hn0' hjn hmn
    have hgd := fun W => good_any a0 a1 W
    have hrg := fun W => rgood_any a0 a1 W
    have hle := fun W => le_any a0 a1 b0 b1 W
    have hrl := fun W => rle_any a0 a1 b0 b1 W
    obtain ⟨gA, hgA⟩ : ∃ g, g = goodT ⟨a0, a1⟩ := ⟨_, rfl⟩
    rw [← hgA] at hgd hrg
    replace hgA := Lib.hid hgA
    generalize leT ⟨a0, a1⟩ ⟨b0, b1⟩ = lv at hle hrl
    clear hn0
    obtain ⟨c0, c1, c2, c3, c4, c5, c6, c7, c8, c9⟩ := hOr.facts
    go_region_held3 (fun wx => wx.cell? ⟨N, 0, none⟩ = some (.int .i64 a0) ∧ wx.cell? ⟨N, 1, none⟩ = some (.int .i64 a1) ∧ wx.cell? ⟨N + 1, 0, none⟩ = some (.int .i64 b0) ∧ wx.cell? ⟨N + 1, 1, none⟩ = some (.int .i64 b1))
      (first | exact ⟨hOr.facts.1, hOr.facts.2.1, hOr.facts.2.2.1, hOr.facts.2.2.2.1⟩)
      (first
        | (go_at_call 18; refine (hgd _).mono ?_; rintro e w2 ⟨rfl, b2⟩; have hOr := OrdS.next hOr hN.out (((Below.refl _ _).drew).trans b2))
        | (go_at_call 19; refine (hrg _).mono ?_; rintro e w2 ⟨rfl, b2⟩; have hOr := hOr.next hN.out b2)
        | (go_at_call 15; refine (hle _).mono ?_; rintro e w2 ⟨rfl, b2⟩; have hOr := hOr.next hN.out b2)
        | (go_at_call 20; refine (hrl _).mono ?_; rintro e w2 ⟨rfl, b2⟩; have hOr := hOr.next hN.out b2)
        | (go_at_call 21; refine (out_any _ _ _).mono ?_; rintro e w2 ⟨rfl, b2⟩; have hOr := hOr.next hN.out b2)
        | (go_at_call 11; refine (same_tt _ _ _ _ _ rfl rfl).mono ?_; rintro e w2 ⟨rfl, b2⟩; have hOr := hOr.next hN.out b2))
    clear hgd hrg hle hrl c0 c1 c2 c3 c4 c5 c6 c7 c8 c9
    obtain ⟨c0, c1, c2, c3, c4, c5, c6, c7, c8, c9⟩ := hOr.facts
    go_wp2_with fail
    refine (rle_tt a0 a1 j0 j1 _ (by have := hJn.out; omega) (by have := hJn.out; omega)).mono ?_
    rintro e wz ⟨rfl, bz⟩
    dsimp only
    replace hOr := hOr.next hN.out bz
    clear bz c0 c1 c2 c3 c4 c5 c6 c7 c8 c9
    obtain ⟨c0, c1, c2, c3, c4, c5, c6, c7, c8, c9⟩ := hOr.facts
    go_wp2_with fail
    refine (rle_tt b0 b1 j0 j1 _ (by have := hJn.out; omega) (by have := hJn.out; omega)).mono ?_
    rintro e wz ⟨rfl, bz⟩
    dsimp only
    replace hOr := hOr.next hN.out bz
    clear bz c0 c1 c2 c3 c4 c5 c6 c7 c8 c9
    obtain ⟨c0, c1, c2, c3, c4, c5, c6, c7, c8, c9⟩ := hOr.facts
    go_wp2_with fail
    refine (rle_tt m0 m1 a0 a1 _ (by have := hMn.out; omega) (by have := hMn.out; omega)).mono ?_
    rintro e wz ⟨rfl, bz⟩
    dsimp only
    replace hOr := hOr.next hN.out bz
    clear bz c0 c1 c2 c3 c4 c5 c6 c7 c8 c9
    obtain ⟨c0, c1, c2, c3, c4, c5, c6, c7, c8, c9⟩ := hOr.facts
    go_wp2_with fail
    refine (rle_tt m0 m1 b0 b1 _ (by have := hMn.out; omega) (by have := hMn.out; omega)).mono ?_
    rintro e wz ⟨rfl, bz⟩
    dsimp only
    replace hOr := hOr.next hN.out bz
    clear bz c0 c1 c2 c3 c4 c5 c6 c7 c8 c9
    obtain ⟨c0, c1, c2, c3, c4, c5, c6, c7, c8, c9⟩ := hOr.facts
    go_upto_region 8 with fail
    obtain ⟨v1, hv1⟩ : ∃ v, v = leT ⟨a0, a1⟩ ⟨d0, d1⟩ := ⟨_, rfl⟩
    obtain ⟨v2, hv2⟩ : ∃ v, v = leT ⟨b0, b1⟩ ⟨d0, d1⟩ := ⟨_, rfl⟩
    obtain ⟨v3, hv3⟩ : ∃ v, v = leT ⟨d0, d1⟩ ⟨a0, a1⟩ := ⟨_, rfl⟩
    obtain ⟨v4, hv4⟩ : ∃ v, v = leT ⟨d0, d1⟩ ⟨b0, b1⟩ := ⟨_, rfl⟩
    have r1 := fun W => rle_any a0 a1 d0 d1 W
    have r2 := fun W => rle_any b0 b1 d0 d1 W
    have r3 := fun W => rle_any d0 d1 a0 a1 W
    have r4 := fun W => rle_any d0 d1 b0 b1 W
    have r5 : v1 = true → v2 = true → ∀ W, _ := fun h1 h2 W => rle_tt j0 j1 d0 d1 W
      (by have := hJn.out; have := (leT_iff _ _).1 (hv1.symm.trans h1); have := (leT_iff _ _).1 (hv2.symm.trans h2); dsimp only at *; omega)
      (by have := hJn.out; have := (leT_iff _ _).1 (hv1.symm.trans h1); have := (leT_iff _ _).1 (hv2.symm.trans h2); dsimp only at *; omega)
    have r6 : v3 = true → v4 = true → ∀ W, _ := fun h1 h2 W => rle_tt d0 d1 m0 m1 W
      (by have := hMn.out; have := (leT_iff _ _).1 (hv3.symm.trans h1); have := (leT_iff _ _).1 (hv4.symm.trans h2); dsimp only at *; omega)
      (by have := hMn.out; have := (leT_iff _ _).1 (hv3.symm.trans h1); have := (leT_iff _ _).1 (hv4.symm.trans h2); dsimp only at *; omega)
    rw [← hv1] at r1
    rw [← hv2] at r2
    rw [← hv3] at r3
    rw [← hv4] at r4
    clear hv1 hv2 hv3 hv4
    go_cut [93] (fun s wx => CutO (OrdS w N jb mb a0 a1 b0 b1 d0 d1 j0 j1 m0 m1) s wx)
    case first =>
      go_wp2_with fail
      refine (r1 _).mono ?_
      rintro e wz ⟨rfl, bz⟩
      dsimp only
      replace hOr := hOr.next hN.out bz
      clear bz c0 c1 c2 c3 c4 c5 c6 c7 c8 c9
      obtain ⟨c0, c1, c2, c3, c4, c5, c6, c7, c8, c9⟩ := hOr.facts
      cases v1 with
      | false =>
        go_wp2_with fail
        refine (r3 _).mono ?_
        rintro e wz ⟨rfl, bz⟩
        dsimp only
        replace hOr := hOr.next hN.out bz
        clear bz c0 c1 c2 c3 c4 c5 c6 c7 c8 c9
        obtain ⟨c0, c1, c2, c3, c4, c5, c6, c7, c8, c9⟩ := hOr.facts
        cases v3 with
        | false =>
          go_wp2_with fail
          go_meet
          case rel => exact ⟨rfl, hOr⟩
        | true =>
          go_wp2_with fail
          refine (r4 _).mono ?_
          rintro e wz ⟨rfl, bz⟩
          dsimp only
          replace hOr := hOr.next hN.out bz
          clear bz c0 c1 c2 c3 c4 c5 c6 c7 c8 c9
          obtain ⟨c0, c1, c2, c3, c4, c5, c6, c7, c8, c9⟩ := hOr.facts
          cases v4 with
          | false =>
            go_wp2_with fail
            go_meet
            case rel => exact ⟨rfl, hOr⟩
          | true =>
            go_wp2_with fail
            refine (r6 (by trivial) (by trivial) _).mono ?_
            rintro e wz ⟨rfl, bz⟩
            dsimp only
            replace hOr := hOr.next hN.out bz
            clear bz c0 c1 c2 c3 c4 c5 c6 c7 c8 c9
            obtain ⟨c0, c1, c2, c3, c4, c5, c6, c7, c8, c9⟩ := hOr.facts
            go_wp2_with fail
            go_meet
            case rel => exact ⟨rfl, hOr⟩
      | true =>
        go_wp2_with fail
        refine (r2 _).mono ?_
        rintro e wz ⟨rfl, bz⟩
        dsimp only
        replace hOr := hOr.next hN.out bz
        clear bz c0 c1 c2 c3 c4 c5 c6 c7 c8 c9
        obtain ⟨c0, c1, c2, c3, c4, c5, c6, c7, c8, c9⟩ := hOr.facts
        cases v2 with
        | false =>
          go_wp2_with fail
          refine (r3 _).mono ?_
          rintro e wz ⟨rfl, bz⟩
          dsimp only
          replace hOr := hOr.next hN.out bz
          clear bz c0 c1 c2 c3 c4 c5 c6 c7 c8 c9
          obtain ⟨c0, c1, c2, c3, c4, c5, c6, c7, c8, c9⟩ := hOr.facts
          cases v3 with
          | false =>
            go_wp2_with fail
            go_meet
            case rel => exact ⟨rfl, hOr⟩
          | true =>
            go_wp2_with fail
            refine (r4 _).mono ?_
            rintro e wz ⟨rfl, bz⟩
            dsimp only
            replace hOr := hOr.next hN.out bz
            clear bz c0 c1 c2 c3 c4 c5 c6 c7 c8 c9
            obtain ⟨c0, c1, c2, c3, c4, c5, c6, c7, c8, c9⟩ := hOr.facts
            cases v4 with
            | false =>
              go_wp2_with fail
              go_meet
              case rel => exact ⟨rfl, hOr⟩
            | true =>
              go_wp2_with fail
              refine (r6 (by trivial) (by trivial) _).mono ?_
              rintro e wz ⟨rfl, bz⟩
              dsimp only
              replace hOr := hOr.next hN.out bz
              clear bz c0 c1 c2 c3 c4 c5 c6 c7 c8 c9
              obtain ⟨c0, c1, c2, c3, c4, c5, c6, c7, c8, c9⟩ := hOr.facts
              go_wp2_with fail
              go_meet
              case rel => exact ⟨rfl, hOr⟩
        | true =>
          go_wp2_with fail
          refine (r5 (by trivial) (by trivial) _).mono ?_
          rintro e wz ⟨rfl, bz⟩
          dsimp only
          replace hOr := hOr.next hN.out bz
          clear bz c0 c1 c2 c3 c4 c5 c6 c7 c8 c9
          obtain ⟨c0, c1, c2, c3, c4, c5, c6, c7, c8, c9⟩ := hOr.facts
          go_wp2_with fail
          refine (r3 _).mono ?_
          rintro e wz ⟨rfl, bz⟩
          dsimp only
          replace hOr := hOr.next hN.out bz
          clear bz c0 c1 c2 c3 c4 c5 c6 c7 c8 c9
          obtain ⟨c0, c1, c2, c3, c4, c5, c6, c7, c8, c9⟩ := hOr.facts
          cases v3 with
          | false =>
            go_wp2_with fail
            go_meet
            case rel => exact ⟨rfl, hOr⟩
          | true =>
            go_wp2_with fail
            refine (r4 _).mono ?_
            rintro e wz ⟨rfl, bz⟩
            dsimp only
            replace hOr := hOr.next hN.out bz
            clear bz c0 c1 c2 c3 c4 c5 c6 c7 c8 c9
            obtain ⟨c0, c1, c2, c3, c4, c5, c6, c7, c8, c9⟩ := hOr.facts
            cases v4 with
            | false =>
              go_wp2_with fail
              go_meet
              case rel => exact ⟨rfl, hOr⟩
            | true =>
              go_wp2_with fail
              refine (r6 (by trivial) (by trivial) _).mono ?_
              rintro e wz ⟨rfl, bz⟩
              dsimp only
              replace hOr := hOr.next hN.out bz
              clear bz c0 c1 c2 c3 c4 c5 c6 c7 c8 c9
              obtain ⟨c0, c1, c2, c3, c4, c5, c6, c7, c8, c9⟩ := hOr.facts
              go_wp2_with fail
              go_meet
              case rel => exact ⟨rfl, hOr⟩
    case rest =>
      clear r1 r2 r3 r4 r5 r6 c0 c1 c2 c3 c4 c5 c6 c7 c8 c9 hOr
      obtain ⟨rfl, hOr⟩ := hcut
      obtain ⟨c0, c1, c2, c3, c4, c5, c6, c7, c8, c9⟩ := hOr.facts
      have hrg := fun W => rgood_any a0 a1 W
      rw [← hgA.out] at hrg
      cases gA with
      | false =>
        have hbad := fun W => around_bad a0 a1 W hgA.out.symm
        go_wp2_with fail
        refine (hbad _).mono ?_
        rintro e wz ⟨rfl, bz⟩
        dsimp only
        replace hOr := hOr.next hN.out bz
        clear bz c0 c1 c2 c3 c4 c5 c6 c7 c8 c9
        obtain ⟨c0, c1, c2, c3, c4, c5, c6, c7, c8, c9⟩ := hOr.facts
        have l0 := hOr.2.1.lt
        go_upto_region 11 with fail
        refine Code.wp_world ?_
        intro wt hwt
        obtain ⟨tb, htb⟩ : ∃ tb, tb = wz.heap.size := ⟨_, rfl⟩
        replace hOr : OrdS w N jb mb a0 a1 b0 b1 d0 d1 j0 j1 m0 m1 wt := by rw [hwt]; exact hOr.next hN.out ((Below.refl _ _).alloc (Nat.le_refl _) _)
        have hT : Blk wt tb #[.int .i64 0, .int .i64 0] 25 := by rw [hwt, htb]; exact Blk.new _ _ _
        rw [← htb]
        clear hwt htb l0 wz c0 c1 c2 c3 c4 c5 c6 c7 c8 c9
        obtain ⟨c0, c1, c2, c3, c4, c5, c6, c7, c8, c9⟩ := hOr.facts
        go_wp2_with fail
        refine (hrg _).mono ?_
        rintro e wz ⟨rfl, bz⟩
        dsimp only
        replace hOr := hOr.next hN.out bz
        replace hT := hT.below bz hT.lt
        clear bz c0 c1 c2 c3 c4 c5 c6 c7 c8 c9
        obtain ⟨c0, c1, c2, c3, c4, c5, c6, c7, c8, c9⟩ := hOr.facts
        have t0 := hT.cellAt (i := 0) (v := .int .i64 0) rfl
        have t1 := hT.cellAt (i := 1) (v := .int .i64 0) rfl
        go_wp2_with fail
        refine (same_tt 0 0 0 0 _ rfl rfl).mono ?_
        rintro e wy ⟨rfl, bz⟩
        replace hOr := hOr.next hN.out bz
        go_wp2_with fail
        go_ret
        refine ⟨rfl, ?_⟩
        have := hOr.1
        rwa [hN.out] at this
      | true =>
        by_cases hmax : a1 = 9223372036854775807
        · have hbad := fun W => around_end' a0 a1 W hgA.out.symm hmax
          have hne : (a1 == 9223372036854775807) = true := by simpa using hmax
          clear hmax
          go_wp2_with fail
          refine (hbad _).mono ?_
          rintro e wz ⟨rfl, bz⟩
          dsimp only
          replace hOr := hOr.next hN.out bz
          clear bz c0 c1 c2 c3 c4 c5 c6 c7 c8 c9
          obtain ⟨c0, c1, c2, c3, c4, c5, c6, c7, c8, c9⟩ := hOr.facts
          have l0 := hOr.2.1.lt
          go_upto_region 11 with fail
          refine Code.wp_world ?_
          intro wt hwt
          obtain ⟨tb, htb⟩ : ∃ tb, tb = wz.heap.size := ⟨_, rfl⟩
          replace hOr : OrdS w N jb mb a0 a1 b0 b1 d0 d1 j0 j1 m0 m1 wt := by rw [hwt]; exact hOr.next hN.out ((Below.refl _ _).alloc (Nat.le_refl _) _)
          have hT : Blk wt tb #[.int .i64 0, .int .i64 0] 25 := by rw [hwt, htb]; exact Blk.new _ _ _
          rw [← htb]
          clear hwt htb l0 wz c0 c1 c2 c3 c4 c5 c6 c7 c8 c9
          obtain ⟨c0, c1, c2, c3, c4, c5, c6, c7, c8, c9⟩ := hOr.facts
          go_wp2_with fail
          refine (hrg _).mono ?_
          rintro e wz ⟨rfl, bz⟩
          dsimp only
          replace hOr := hOr.next hN.out bz
          replace hT := hT.below bz hT.lt
          clear bz c0 c1 c2 c3 c4 c5 c6 c7 c8 c9
          obtain ⟨c0, c1, c2, c3, c4, c5, c6, c7, c8, c9⟩ := hOr.facts
          have t0 := hT.cellAt (i := 0) (v := .int .i64 0) rfl
          have t1 := hT.cellAt (i := 1) (v := .int .i64 0) rfl
          go_wp2_with fail
          refine (same_tt 0 0 0 0 _ rfl rfl).mono ?_
          rintro e wy ⟨rfl, bz⟩
          replace hOr := hOr.next hN.out bz
          go_wp2_with fail
          go_ret
          refine ⟨rfl, ?_⟩
          have := hOr.1
          rwa [hN.out] at this
        · have hbad := fun W => around_ok a0 a1 W hgA.out.symm (by omega)
          have hlt : a1 + 1 ≤ 9223372036854775807 := by omega
          have hne : (a1 == 9223372036854775807) = false := by simpa using hmax
          go_wp2_with fail
          refine (hbad _).mono ?_
          rintro e wz ⟨rfl, bz⟩
          dsimp only
          replace hOr := hOr.next hN.out bz
          clear bz c0 c1 c2 c3 c4 c5 c6 c7 c8 c9
          obtain ⟨c0, c1, c2, c3, c4, c5, c6, c7, c8, c9⟩ := hOr.facts
          have l0 := hOr.2.1.lt
          go_upto_region 11 with fail
          refine Code.wp_world ?_
          intro wt hwt
          obtain ⟨tb, htb⟩ : ∃ tb, tb = wz.heap.size := ⟨_, rfl⟩
          replace hOr : OrdS w N jb mb a0 a1 b0 b1 d0 d1 j0 j1 m0 m1 wt := by rw [hwt]; exact hOr.next hN.out ((Below.refl _ _).alloc (Nat.le_refl _) _)
          have hT : Blk wt tb #[.int .i64 a0, .int .i64 (a1 + 1)] 25 := by rw [hwt, htb]; exact Blk.new _ _ _
          rw [← htb]
          clear hwt htb l0 wz c0 c1 c2 c3 c4 c5 c6 c7 c8 c9
          obtain ⟨c0, c1, c2, c3, c4, c5, c6, c7, c8, c9⟩ := hOr.facts
          go_wp2_with fail
          refine (hrg _).mono ?_
          rintro e wz ⟨rfl, bz⟩
          dsimp only
          replace hOr := hOr.next hN.out bz
          replace hT := hT.below bz hT.lt
          clear bz c0 c1 c2 c3 c4 c5 c6 c7 c8 c9
          obtain ⟨c0, c1, c2, c3, c4, c5, c6, c7, c8, c9⟩ := hOr.facts
          have t0 := hT.cellAt (i := 0) (v := .int .i64 a0) rfl
          have t1 := hT.cellAt (i := 1) (v := .int .i64 (a1 + 1)) rfl
          go_wp2_with fail
          refine (same_tt a0 (a1 + 1) a0 (a1 + 1) _ rfl rfl).mono ?_
          rintro e wy ⟨rfl, bz⟩
          replace hOr := hOr.next hN.out bz
          go_wp2_with fail
          go_ret
          refine ⟨rfl, ?_⟩
          have := hOr.1
          rwa [hN.out] at this

theorem wf_i64 {n : Int} (h : (Lit.int IntKind.i64 n).wf = true) : -9223372036854775808 ≤ n ∧ n ≤ 9223372036854775807 := by
  simpa [Lit.wf, IntKind.min, IntKind.max, IntKind.bits, IntKind.signed] using h
theorem orders_row {w : World} (c0 : Array Value) (x0 : TTime) (h0 : RTime w.heap.size w (Value.cells (.agg c0)).toList x0) (c1 : Array Value) (x1 : TTime) (h1 : RTime w.heap.size w (Value.cells (.agg c1)).toList x1) (c2 : Array Value) (x2 : TTime) (h2 : RTime w.heap.size w (Value.cells (.agg c2)).toList x2) :
    Calls Try.prog 7 #[.agg c0, .agg c1, .agg c2] w fun e w' => e = .returned (.bool true) ∧ Below w.heap.size w w' := by
  obtain ⟨rfl, hw0⟩ := time_agg h0
  obtain ⟨rfl, _⟩ := time_agg h1
  obtain ⟨rfl, _⟩ := time_agg h2
  have := wf_i64 hw0.2
  exact orders_walk _ _ _ _ _ _ w this.1 this.2
end Go.Proofs.Ytjigbkklgekjlaa
