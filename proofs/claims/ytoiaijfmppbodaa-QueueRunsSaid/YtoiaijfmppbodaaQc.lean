/- Queue: slices.All at ints: its rounds keep the cells that lie from n0 on. -/
import Derived.RangeFuncNested
import Derived.RangeFuncBound
import Derived.RangeFuncCalls
import Derived.RangeFuncLeaves
import Derived.RangeFuncFrom
import Derived.Shelf.Abstract
import Derived.Shelf.RegionOpen
import Derived.WalkKit
import Derived.OwnWalkIn
import Derived.TacticsInMore
import Derived.LoopNIn
import Derived.LoopIn
import Derived.Test.YtoiaijfmppbodaaQb
import Derived.Test.YtoiaijfmppbodaaL1
import Derived.Lib.Hide
namespace Go.Proofs.Ytoiaijfmppbodaa
open Go.RowKit Go.Shelf
attribute [local go_sem] Oper.semAt_some
set_option linter.unusedVariables false

def encN (n : Int) : List Value := [.int .i64 n]
theorem encN_len (n : Int) : (encN n).length = 1 := rfl
theorem encN_one (n : Int) : ∀ u ∈ encN n, u.oneCell' = true := by
  intro u hu
  obtain rfl : u = .int .i64 n := by simpa [encN] using hu
  rfl

/-- The cells that lie from n0 on stay. -/
structure KpC (n0 : Nat) (W W' : World) : Prop where
  size : W.heap.size ≤ W'.heap.size
  same : ∀ k cs T, n0 ≤ k → Blk W k cs T → Blk W' k cs T
namespace KpC
theorem refl (n0 : Nat) (W : World) : KpC n0 W W := ⟨Nat.le_refl _, fun _ _ _ _ h => h⟩
theorem trans {n0 : Nat} {A B C : World} (h : KpC n0 A B) (k : KpC n0 B C) : KpC n0 A C := ⟨Nat.le_trans h.size k.size, fun i cs T h1 h2 => k.same i cs T h1 (h.same i cs T h1 h2)⟩
theorem put {n0 l : Nat} {W : World} {o : Obj} (o' : Obj) (ho : W.heap[l]? = some o) (h1 : o.isCells = false) : KpC n0 W (W.putObj l o') :=
  ⟨Nat.le_of_eq (by simp [World.putObj]), fun k cs T _ h2 => by
    have hne : k ≠ l := by
      rintro rfl
      rw [Blk, ho] at h2
      cases h2
      simp [Obj.isCells] at h1
    unfold Blk at h2 ⊢
    rw [World.putObj_heap_other hne]
    exact h2⟩
end KpC

/-- The pairs of a row: each with its place. -/
def pairs (zs : List Int) : List (Nat × Int) := zs.zipIdx.map fun p => (p.2, p.1)
theorem pairs_len (zs : List Int) : (pairs zs).length = zs.length := by simp [pairs]
theorem pairs_get (zs : List Int) (i : Nat) (h : i < (pairs zs).length) (h' : i < zs.length) : (pairs zs)[i] = (i, zs[i]) := by simp [pairs]
theorem pairs_take (zs : List Int) {i : Nat} (h : i < zs.length) : (pairs zs).take (i + 1) = (pairs zs).take i ++ [(i, zs[i])] := by
  rw [List.take_succ_eq_append_getElem (by rw [pairs_len]; exact h), pairs_get _ _ _ h]
theorem pairs_all (zs : List Int) : (pairs zs).take zs.length = pairs zs := List.take_of_length_le (by rw [pairs_len]; exact Nat.le_refl _)

set_option maxRecDepth 100000 in
set_option maxHeartbeats 2000000 in
theorem sall1_in (F : Fence) (n : Nat) (h8 : F.fn 28) (hro : F.round = none) (hn : 1 ≤ n) (l bs n0 b cap m : Nat) (cs : Array Value) (T : TypeId) (zs : List Int) (hm : Hid (m = zs.length)) (hm63 : m ≤ 4611686018427387904) (hb : n0 ≤ b) (J Jx : List (Nat × Int) → World → Prop)
    (hY : ∀ pre x W, J pre W → pre.length < m → YieldAt F (n - 1) Try.prog l #[.int .i64 (x.1 : Int), .int .i64 x.2] W fun e W' =>
      (e = .returned (.bool true) ∧ J (pre ++ [x]) W' ∧ KpC n0 W W') ∨ (e = .returned (.bool false) ∧ Jx (pre ++ [x]) W'))
    (W : World) (hBs : W.cell? ⟨bs, 0, none⟩ = some (.slice (some ⟨b, 0, none⟩) m cap)) (hB : Blk W b cs T) (hc : Hid (∀ j (h : j < zs.length), cs[j]? = some (.int .i64 zs[j]))) (h0 : J [] W) :
    CallsIn F n Try.prog 28 #[.func (.yield l) #[] #[], .pointer (some ⟨bs, 0, none⟩)] W fun e W' => (∃ v, e = .returned v) ∧
      (J (pairs zs) W' ∨ (∃ pre, pre <+: pairs zs ∧ Jx pre W')) := by
  refine callsIn_of_wp Try.func28 rfl h8 ?_ hro
  simp only [Try.ntmps28, List.size_toArray, List.length_cons, List.length_nil, Nat.reduceAdd, Nat.reduceSub, Array.replicate_succ, Array.replicate_zero, List.push_toArray, List.append_toArray, List.nil_append, List.cons_append]
  gi_wp2
  gi_loopw [7] (fun i wr => ∃ k : Nat, k ≤ m ∧ i = .int .i64 k ∧ J ((pairs zs).take k) wr ∧ Blk wr b cs T)
    (fun i _ => m - (intOf i).toNat)
  case atStart => exact ⟨0, Nat.zero_le _, rfl, h0, hB⟩
  case round =>
    obtain ⟨k, hk, rfl, hJs, hBk⟩ := hrel
    by_cases hlt : k < m
    · have hkz : k < zs.length := by rw [← hm.out]; exact hlt
      obtain ⟨z, hz⟩ : ∃ z, zs[k] = z := ⟨_, rfl⟩
      have hcx : wr.cell? ⟨b, k, none⟩ = some (.int .i64 z) := hBk.cellAt (by rw [hc.out k hkz, hz])
      obtain ⟨fn, tmps, assign, body, hy, hR⟩ := hY _ (k, z) wr hJs (by rw [List.length_take, pairs_len]; omega)
      dsimp only at hy
      gi_wp2
      refine hR.mono ?_
      rintro e W3 (⟨rfl, hJ3, hk3⟩ | ⟨rfl, hJx3⟩)
      · gi_wp2
        go_roundw
        case rel => exact ⟨k + 1, by omega, by simp, by rw [pairs_take zs hkz, hz]; exact hJ3, hk3.same _ _ _ hb hBk⟩
        case measure => simp [intOf]; omega
      · gi_wp2
        refine bodyPost_ret (results_none rfl _ _ _) rfl ?_
        refine ⟨⟨_, rfl⟩, .inr ⟨_, ?_, hJx3⟩⟩
        rw [← hz, ← pairs_take zs hkz]
        exact List.take_prefix _ _
    · obtain rfl : k = m := by omega
      gi_wp2
      go_end0
      refine ⟨⟨_, rfl⟩, .inl ?_⟩
      have := hm.out
      subst this
      rwa [pairs_all] at hJs

set_option maxRecDepth 100000 in
set_option maxHeartbeats 1000000 in
theorem sall1_nil_in (F : Fence) (n : Nat) (h8 : F.fn 28) (hro : F.round = none) (l bs : Nat) (J : List (Nat × Int) → World → Prop) (W : World) (hBs : W.cell? ⟨bs, 0, none⟩ = some (.slice none 0 0)) (h0 : J [] W) :
    CallsIn F n Try.prog 28 #[.func (.yield l) #[] #[], .pointer (some ⟨bs, 0, none⟩)] W fun e W' => (∃ v, e = .returned v) ∧ J [] W' := by
  refine callsIn_of_wp Try.func28 rfl h8 ?_ hro
  simp only [Try.ntmps28, List.size_toArray, List.length_cons, List.length_nil, Nat.reduceAdd, Nat.reduceSub, Array.replicate_succ, Array.replicate_zero, List.push_toArray, List.append_toArray, List.nil_append, List.cons_append]
  gi_wp2
  gi_loopw [7] (fun i wr => i = .int .i64 0 ∧ J [] wr) (fun _ _ => 0)
  case atStart => exact ⟨rfl, h0⟩
  case round =>
    obtain ⟨rfl, hJs⟩ := hrel
    gi_wp2
    go_end0
    exact ⟨⟨_, rfl⟩, hJs⟩

set_option maxHeartbeats 1000000 in
theorem sall_in (F : Fence) (n : Nat) (h5 : F.fn 25) (hro : F.round = none) (a : Option Addr) (len cap : Nat) (w : World) :
    CallsIn F n Try.prog 25 #[.slice a len cap] w fun e w' => e = .returned (.func (.func 28) #[] #[.pointer (some ⟨w.heap.size, 0, none⟩)]) ∧ w' = w.alloc (.cells #[.slice a len cap] 34) := by
  refine callsIn_of_wp Try.func25 rfl h5 ?_ hro
  simp only [Try.ntmps25, List.size_toArray, List.length_cons, List.length_nil, Nat.reduceAdd, Nat.reduceSub, Array.replicate_succ, Array.replicate_zero, List.push_toArray, List.append_toArray, List.nil_append, List.cons_append]
  gi_wp2
  go_ret
  exact ⟨rfl, rfl⟩

theorem sall_stops (F : Fence) (n : Nat) (h8 : F.fn 28) (hro : F.round = none) (hn : 1 ≤ n) (bs n0 : Nat) (sv : Value) (zs : List Int) (hz : zs.length ≤ 4611686018427387904) (w : World)
    (hc : w.cell? ⟨bs, 0, none⟩ = some sv) (hI : OwnL encN w n0 3 1 sv zs) :
    SeqStopsK F n Try.prog 28 #[.pointer (some ⟨bs, 0, none⟩)] (fun x : Nat × Int => #[Value.int .i64 (x.1 : Int), Value.int .i64 x.2]) (KpC n0) (fun ys => ys = pairs zs)
      (fun pre => pre <+: pairs zs) zs.length w := fun l J Jx W hW _ _ hY h0 => by
  have hc' := (hW.cell (p := ⟨bs, 0, none⟩) (World.lt_of_cell hc)).trans hc
  rcases hI.form with ⟨rfl, rfl⟩ | ⟨g, cap, cells, rfl, hg, _, _, _, hbg, hgl, htk⟩
  · exact (sall1_nil_in F n h8 hro l bs J W hc' h0).mono fun e W' ⟨he, hj⟩ => ⟨he, .inl ⟨_, rfl, hj⟩⟩
  · have hg' : Blk W g cells 3 := by
      unfold Blk at hg ⊢
      rw [hW.block g hgl]
      exact hg
    have hcs : ∀ j (h : j < zs.length), cells[j]? = some (.int .i64 zs[j]) := fun j hj => by
      have h1 := flat_at encN_len zs j 0 hj (by omega)
      rw [← htk, List.getElem?_take, if_pos (by omega)] at h1
      simpa [encN] using h1
    refine (sall1_in F n h8 hro hn l bs n0 g cap zs.length cells _ zs (Lib.hid rfl) hz hbg J Jx hY W hc' hg' (Lib.hid hcs) h0).mono ?_
    rintro e W' ⟨he, hj | ⟨pre, hp, hj⟩⟩
    · exact ⟨he, .inl ⟨_, rfl, hj⟩⟩
    · exact ⟨he, .inr ⟨_, hp, hj⟩⟩
end Go.Proofs.Ytoiaijfmppbodaa
