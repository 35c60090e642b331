/- Disk: files as they lie; the small functions. -/
import Derived.Test.YtjgiphoolfhlmaaDa
import Derived.Test.YtjgiphoolfhlmaaL8
import Derived.Test.YtjgiphoolfhlmaaProg
import Derived.WalkKit
import Derived.Deep.Cut
import Derived.Deep.CutBlock
import Derived.Deep.QuietTactic
import Derived.BigQuiet
import Derived.Laws.CopyOwn
import Derived.IntWalk
import Derived.Laws.Cover1
namespace Go.Proofs.Ytjgiphoolfhlmaa
open Go.RowKit
attribute [local go_sem] Oper.semAt_some
set_option linter.unusedVariables false

def encU (b : UInt8) : List Value := [.int .u8 b.toNat]
theorem encU_len (b : UInt8) : (encU b).length = 1 := rfl
theorem encU_one (b : UInt8) : ∀ u ∈ encU b, u.oneCell' = true := by
  intro u hu
  simp only [encU, List.mem_singleton] at hu
  subst hu; rfl
abbrev EU (_ : World) (cs : List Value) (x : UInt8) : Prop := cs = encU x
theorem infoU : (Try.prog.info? 5).map (fun i => (i.zero, i.size, i.bytes)) = some (some (.int .u8 0), 1, 1) := by kernel_rfl
theorem partsU : ∃ i, Try.prog.info? 5 = some i ∧ i.zero = some (.int .u8 0) ∧ i.size = 1 ∧ i.bytes = 1 := infoParts infoU
theorem sizeU : (Try.prog.info? 5).map (·.size) = some 1 := by kernel_rfl
def cellsU (bs : List UInt8) : List Value := bs.map (fun b => .int .u8 b.toNat)
theorem cellsU_len (bs : List UInt8) : (cellsU bs).length = bs.length := by simp [cellsU]
theorem cellsU_one (bs : List UInt8) : ∀ v ∈ cellsU bs, v.oneCell' = true := by
  intro v hv
  unfold cellsU at hv
  obtain ⟨b, _, rfl⟩ := List.mem_map.1 hv
  rfl

/-- A file's bytes as they lie: nothing, or a block of its own that is never written again. -/
def FileAt (w : World) (base : Nat) (v : Value) (bs : List UInt8) : Prop :=
  (bs = [] ∧ ∃ ao, v = .slice ao 0 0) ∨ ∃ g cap cells, v = .slice (some ⟨g, 0, none⟩) bs.length cap ∧ Blk w g cells 5 ∧ bs.length ≤ cap ∧ cap ≤ maxLen ∧ base ≤ g ∧ cells.toList.take bs.length = cellsU bs
namespace FileAt
variable {w w' : World} {base : Nat} {v : Value} {bs : List UInt8}
theorem chg {S : Nat → Prop} (h : FileAt w base v bs) (hc : Chg S w w') (hS : ∀ k, S k → ∀ cs, ¬ Blk w k cs 5) : FileAt w' base v bs := by
  rcases h with h | ⟨g, cap, cells, h1, h2, h3⟩
  · exact .inl h
  · exact .inr ⟨g, cap, cells, h1, h2.chg hc (fun s => hS g s _ h2), h3⟩
theorem below {B : Nat} (h : FileAt w base v bs) (hb : Below B w w') (hB : w.heap.size ≤ B) : FileAt w' base v bs :=
  h.chg (Chg.of_below hb) (fun k hk cs hb2 => by have := hb2.lt; omega)
theorem base_le {base' : Nat} (h : FileAt w base v bs) (hb : base' ≤ base) : FileAt w base' v bs := by
  rcases h with h | ⟨g, cap, cells, h1, h2, h3, h4, h5, h6⟩
  · exact .inl h
  · exact .inr ⟨g, cap, cells, h1, h2, h3, h4, Nat.le_trans hb h5, h6⟩
theorem shape (h : FileAt w base v bs) : ∃ ao cap, v = .slice ao bs.length cap := by
  rcases h with ⟨rfl, ao, h⟩ | ⟨g, cap, cells, h1, _⟩
  · exact ⟨ao, 0, h⟩
  · exact ⟨_, _, h1⟩
/-- It reads as its bytes. -/
theorem sla (h : FileAt w base v bs) : ∃ ao cap, v = .slice ao bs.length cap ∧ SlA w.heap.size 1 EU w ao cap bs := by
  rcases h with ⟨rfl, ao, h⟩ | ⟨g, cap, cells, h1, h2, h3, h4, h5, h6⟩
  · exact ⟨ao, 0, h, Nat.le_refl _, Nat.zero_le _, fun _ => rfl, fun h => absurd rfl h⟩
  · refine ⟨_, cap, h1, SlA.of_blk h2 h2.lt h3 h4 fun i hi => ⟨encU bs[i], rfl, fun j hj => ?_, rfl⟩⟩
    have hj0 : j = 0 := by omega
    subst hj0
    have h7 : (cells.toList.take bs.length)[i]? = some (.int .u8 bs[i].toNat) := by rw [h6]; simp [cellsU, hi]
    rw [List.getElem?_take, if_pos hi] at h7
    simpa [encU] using h7
theorem of_blk {g : Nat} {cells : Array Value} (h : Blk w g cells 5) (hb : base ≤ g) (hc : cells.toList = cellsU bs) (hm : bs.length ≤ maxLen) : FileAt w base (.slice (some ⟨g, 0, none⟩) bs.length bs.length) bs :=
  .inr ⟨g, bs.length, cells, rfl, h, Nat.le_refl _, hm, hb, by rw [hc, List.take_of_length_le (by rw [cellsU_len]; exact Nat.le_refl _)]⟩
end FileAt
/-- The cells behind a slice's address. -/
theorem slaU_cells {B : Nat} {w : World} {b off cap : Nat} {bs : List UInt8} (h : SlA B 1 EU w (some ⟨b, off, none⟩) cap bs) (k : Nat) : ∀ j v, (cellsU (bs.take k))[j]? = some v → w.cell? ((⟨b, off, none⟩ : Addr).add j) = some v := by
  intro j v hv
  unfold cellsU at hv
  rw [List.getElem?_map] at hv
  obtain ⟨x, hx, rfl⟩ := Option.map_eq_some_iff.1 hv
  rw [List.getElem?_take] at hx
  split at hx
  · obtain ⟨hj, rfl⟩ := List.getElem?_eq_some_iff.1 hx
    obtain ⟨cs, _, h6, h7⟩ := h.get j hj
    have h8 := h6 0 (by omega)
    rw [Nat.mul_one, Nat.add_zero, h7] at h8
    have ha : (⟨b, off, none⟩ : Addr).add j = ⟨b, off + j, none⟩ := by unfold Addr.add; split <;> simp_all
    rw [ha, h8]
    rfl
  · cases hx

theorem splice2 {fb db : List UInt8} {n : Nat} {Zs : List Value} (hn : n ≤ fb.length) (hz : Zs.length = max fb.length (n + db.length)) : splice (splice Zs 0 (cellsU fb)) n (cellsU db) = cellsU (overB fb n db) := by
  have h1 : splice Zs 0 (cellsU fb) = cellsU fb ++ Zs.drop fb.length := by
    unfold splice
    simp [cellsU_len]
  rw [h1]
  unfold splice overB
  rw [cellsU_len, List.take_append_of_le_length (by rw [cellsU_len]; exact hn)]
  have h2 : (cellsU fb ++ Zs.drop fb.length).drop (n + db.length) = (cellsU fb).drop (n + db.length) := by
    rw [List.drop_append, cellsU_len]
    have : (Zs.drop fb.length).drop (n + db.length - fb.length) = [] := List.drop_of_length_le (by rw [List.length_drop]; omega)
    rw [this, List.append_nil]
  rw [h2]
  unfold cellsU
  simp [List.map_append, List.map_take, List.map_drop]

set_option maxRecDepth 100000 in
set_option maxHeartbeats 2000000 in
theorem written_any (fa da : Option Addr) (fc dc n : Nat) (fb db : List UInt8) (w : World) (base : Nat) (hb : base ≤ w.heap.size) (hf : SlA w.heap.size 1 EU w fa fc fb) (hd : SlA w.heap.size 1 EU w da dc db) (hn : n ≤ fb.length) (hl : n + db.length ≤ 1099511627776) (hl2 : fb.length ≤ 1099511627776) :
    Calls Try.prog 28 #[.slice fa fb.length fc, .int .i64 n, .slice da db.length dc] w fun e w' => ∃ v, e = .returned v ∧ FileAt w' base v (overB fb n db) ∧ Below w.heap.size w w' := by
  obtain ⟨ii, hi, hz0, hz1, hz2⟩ := partsU
  obtain ⟨res, hres⟩ : ∃ res, res = overB fb n db := ⟨_, rfl⟩
  obtain ⟨N, hN⟩ : ∃ N, N = max fb.length (n + db.length) := ⟨_, rfl⟩
  obtain ⟨m, hm⟩ : ∃ m, m = fb.length := ⟨_, rfl⟩
  obtain ⟨k, hk⟩ : ∃ k, k = db.length := ⟨_, rfl⟩
  have hrl : res.length = N := by rw [hres, overB_len hn, hN]
  rw [← hres]
  rw [← hm] at hn hl2 hN ⊢
  rw [← hk] at hl hN ⊢
  have hmx : max (m : Int) ((n : Int) + (k : Int)) = (N : Int) := by omega
  have hN2 : N ≤ 1099511627776 := by omega
  have hnN : n ≤ N := by omega
  have hmN : m ≤ N := by omega
  have hkN : n + k ≤ N := by omega
  replace hN := Lib.hid hN
  replace hres := Lib.hid hres
  replace hm := Lib.hid hm
  replace hk := Lib.hid hk
  replace hrl := Lib.hid hrl
  obtain ⟨X1, hX1⟩ : ∃ X1, X1 = cellsU fb := ⟨_, rfl⟩
  obtain ⟨X2, hX2⟩ : ∃ X2, X2 = cellsU db := ⟨_, rfl⟩
  have hX1l : X1.length = m := by rw [hX1, cellsU_len, hm.out]
  have hX2l : X2.length = k := by rw [hX2, cellsU_len, hk.out]
  have hX11 : ∀ v ∈ X1, v.oneCell' = true := by rw [hX1]; exact cellsU_one _
  have hX21 : ∀ v ∈ X2, v.oneCell' = true := by rw [hX2]; exact cellsU_one _
  have hs1 : ∀ wz : World, Below w.heap.size w wz → 0 < X1.length → ∃ ad, fa = some ad ∧ ∀ j v, X1[j]? = some v → wz.cell? (ad.add j) = some v := fun wz hz h0 => by
    have hf' := hf.imp hz (Nat.le_refl _) (E' := EU) (fun cs x _ h => h)
    obtain ⟨b1, o1, rfl, _, _⟩ := hf'.addr (by rw [← hm.out]; omega)
    refine ⟨_, rfl, fun j v hv => slaU_cells hf' fb.length j v ?_⟩
    rw [List.take_length, ← hX1]; exact hv
  have hs2 : ∀ wz : World, Below w.heap.size w wz → 0 < X2.length → ∃ ad, da = some ad ∧ ∀ j v, X2[j]? = some v → wz.cell? (ad.add j) = some v := fun wz hz h0 => by
    have hf' := hd.imp hz (Nat.le_refl _) (E' := EU) (fun cs x _ h => h)
    obtain ⟨b1, o1, rfl, _, _⟩ := hf'.addr (by rw [← hk.out]; omega)
    refine ⟨_, rfl, fun j v hv => slaU_cells hf' db.length j v ?_⟩
    rw [List.take_length, ← hX2]; exact hv
  replace hX1 := Lib.hid hX1
  replace hX2 := Lib.hid hX2
  replace hX11 := Lib.hid hX11
  replace hX21 := Lib.hid hX21
  replace hs1 := Lib.hid hs1
  replace hs2 := Lib.hid hs2
  replace hX1l := Lib.hid hX1l
  replace hX2l := Lib.hid hX2l
  go_enter Try.func28, Try.ntmps28
  go_upto_region 1 with fail
  go_cut [7] from 8 (fun s7 wx => s7 = .slice (some ⟨w.heap.size, 0, none⟩) N N ∧ Below w.heap.size w wx ∧ ∃ Zs : List Value, Zs.length = N ∧ wx.heap[w.heap.size]? = some (.cells Zs.toArray 5 (0, 0)))
  case first =>
    go_wp2_with (at_make; refine wpList_make_full _ rfl _ _ 44 rfl w.heap.size 5 ii (.int .u8 0) 1 Try.underlying44 hi hz0 hz1 .i64 .i64 _ _ N rfl rfl (by omega) (by omega) (by rw [hz2]; omega) (by unfold maxLen; omega) (Nat.le_refl _) ?_; intro w1 hown hgrow)
    all_goals go_meet
    all_goals case rel =>
      obtain ⟨cs, h1, _, _, h2, _, _⟩ := Blk.of_owns hown
      exact ⟨rfl, (Below.refl _ _).grown hgrow (Nat.le_refl _) (fun g e => by cases e), cs.toList, by simpa using h2, by unfold Blk at h1; simpa using h1⟩
  case rest =>
    obtain ⟨rfl, hb1, Zs, hZl, hZ⟩ := hcut
    obtain ⟨w1, hw1⟩ : ∃ w1, w1 = wc := ⟨_, rfl⟩
    rw [← hw1] at hb1 hZ ⊢
    clear hw1
    have hf1 := hs1.out w1 hb1
    replace hf1 := Lib.hid hf1
    replace hZl := Lib.hid hZl
    replace hZ := Lib.hid hZ
    go_upto_region 3 with (with_reducible refine wpList_copy_splice rfl (.tmp 16) (.tmp 17) 44 44 rfl 5 Try.underlying44 sizeU _ _ _ _ _ _ rfl rfl w.heap.size 0 Zs 5 hZ.out X1 (by rw [hX1l.out]; exact (Nat.min_eq_left hmN).symm) (fun h0 => ⟨rfl, hf1.out h0⟩) (by rw [hX1l.out, hZl.out]; omega) hX11.out w.heap.size w hb1 (Nat.le_refl _) ?_; intro w2 hZ2 hb2)
    have hf2 := hs2.out w2 hb2
    replace hf2 := Lib.hid hf2
    go_wp2_with (with_reducible refine wpList_copy_splice rfl (.tmp 21) (.tmp 22) 44 44 rfl 5 Try.underlying44 sizeU _ _ _ _ _ _ rfl rfl w.heap.size n (splice Zs 0 X1) 5 ?x1 X2 ?x2 ?x3 ?x4 ?x5 w.heap.size w ?x6 ?x7 ?x8)
    all_goals (try first | (exact hZ2.out) | (exact hX21.out) | (exact hb2) | (exact Nat.le_refl _) | (rw [hX2l.out]; show k = min k _; omega) | (rw [hX2l.out, length_splice _ _ _ (by rw [hX1l.out, hZl.out]; omega), hZl.out]; omega) | (exact hf2.out) | (exact fun h0 => ⟨rfl, hf2.out h0⟩) | (exact fun h0 => by exfalso; rw [hX2l.out] at h0; omega))
    all_goals (intro w3 hZ3 hb3; go_wp2_with fail)
    all_goals go_ret
    all_goals refine ⟨_, rfl, ?_, hb3⟩
    all_goals (have hfin := hZ3.out; rw [hX1.out, hX2.out, splice2 (by rw [← hm.out]; exact hn) (by rw [hZl.out, ← hm.out, ← hk.out]; exact hN.out), ← hres.out] at hfin)
    all_goals (have hfb := FileAt.of_blk (bs := res) (base := base) hfin hb (by simp) (by rw [hrl.out]; unfold maxLen; omega); rw [hrl.out] at hfb)
    all_goals (first | exact hfb | (rw [show N = n by omega] at hfb; exact hfb))
end Go.Proofs.Ytjgiphoolfhlmaa
