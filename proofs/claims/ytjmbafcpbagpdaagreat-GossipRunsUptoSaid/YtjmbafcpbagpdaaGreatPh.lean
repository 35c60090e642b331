/- Progress: the chapter's example. -/
import Derived.Test.YtjmbafcpbagpdaaGreatPg
import Derived.IntWalk
namespace Go.Proofs.YtjmbafcpbagpdaaGreat
open Go.RowKit Go.Maps
set_option linter.unusedVariables false
set_option linter.unusedSimpArgs false
attribute [local go_sem] mk_map

theorem alive_mem {cs : List (TStamp × Int)} (hn : (cs.map Prod.fst).Nodup) (s : TStamp) : s ∈ aliveC cs ↔ 0 < cntC cs s := by
  unfold aliveC
  simp only [List.mem_map, List.mem_filter, decide_eq_true_eq]
  constructor
  · rintro ⟨⟨t, k⟩, ⟨h1, h2⟩, rfl⟩
    unfold cntC
    rw [getC_of_mem hn h1]
    exact h2
  · intro h
    unfold cntC at h
    cases hg : getC cs s with
    | none => rw [hg] at h; exact absurd h (by simp)
    | some k => rw [hg] at h; exact ⟨(s, k), ⟨getC_mem hg, h⟩, rfl⟩
theorem Tr.nodup {w : World} {base tb : Nat} {x : TrX} {ops : List TOp} {cs : List (TStamp × Int)} (h : Tr w base tb x ops cs) : (cs.map Prod.fst).Nodup := by
  have := h.map.nodup
  unfold entC at this
  rw [List.map_map] at this
  exact this

def pkn : List TOp := [⟨1, [], 0, 0, 0, 0, 0⟩, ⟨8, [0], 0, 0, 0, 0, 0⟩]
theorem pkn_read (w : World) : SlA ((w.alloc (.cells #[.int .i64 0] 3)).alloc (.cells #[.int .i64 1, .slice none 0 0, .int .i64 0, .int .u32 0, .int .i64 0, .int .i64 0, .int .u32 0, .int .i64 8, .slice (some ⟨w.heap.size, 0, none⟩) 1 1, .int .i64 0, .int .u32 0, .int .i64 0, .int .i64 0, .int .u32 0] 73)).heap.size 7 (ROp ((w.alloc (.cells #[.int .i64 0] 3)).alloc (.cells #[.int .i64 1, .slice none 0 0, .int .i64 0, .int .u32 0, .int .i64 0, .int .i64 0, .int .u32 0, .int .i64 8, .slice (some ⟨w.heap.size, 0, none⟩) 1 1, .int .i64 0, .int .u32 0, .int .i64 0, .int .i64 0, .int .u32 0] 73)).heap.size)
    ((w.alloc (.cells #[.int .i64 0] 3)).alloc (.cells #[.int .i64 1, .slice none 0 0, .int .i64 0, .int .u32 0, .int .i64 0, .int .i64 0, .int .u32 0, .int .i64 8, .slice (some ⟨w.heap.size, 0, none⟩) 1 1, .int .i64 0, .int .u32 0, .int .i64 0, .int .i64 0, .int .u32 0] 73)) (some ⟨w.heap.size + 1, 0, none⟩) 2 pkn := by
  have b1 := (Blk.new w #[.int .i64 0] 3).alloc (.cells #[.int .i64 1, .slice none 0 0, .int .i64 0, .int .u32 0, .int .i64 0, .int .i64 0, .int .u32 0, .int .i64 8, .slice (some ⟨w.heap.size, 0, none⟩) 1 1, .int .i64 0, .int .u32 0, .int .i64 0, .int .i64 0, .int .u32 0] 73)
  have b2 := Blk.new (w.alloc (.cells #[.int .i64 0] 3)) #[.int .i64 1, .slice none 0 0, .int .i64 0, .int .u32 0, .int .i64 0, .int .i64 0, .int .u32 0, .int .i64 8, .slice (some ⟨w.heap.size, 0, none⟩) 1 1, .int .i64 0, .int .u32 0, .int .i64 0, .int .i64 0, .int .u32 0] 73
  rw [World.size_alloc] at b2
  generalize (w.alloc (.cells #[.int .i64 0] 3)).alloc _ = W at b1 b2 ⊢
  have m1 : (1 : Nat) ≤ maxLen := by unfold maxLen; omega
  have l1 := b1.lt
  have l2 := b2.lt
  refine SlA.of_blk b2 l2 (by decide) (by unfold maxLen; omega) ?_
  intro i hi
  match i, hi with
  | 0, _ => exact ⟨[.int .i64 1, .slice none 0 0, .int .i64 0, .int .u32 0, .int .i64 0, .int .i64 0, .int .u32 0], rfl, fun j hj => (match j, hj with | 0, _ | 1, _ | 2, _ | 3, _ | 4, _ | 5, _ | 6, _ => rfl), none, 0, rfl, rfl, SlA.nil _ _ _ _, rfl, rfl, rfl, rfl, rfl⟩
  | 1, _ => exact ⟨[.int .i64 8, .slice (some ⟨w.heap.size, 0, none⟩) 1 1, .int .i64 0, .int .u32 0, .int .i64 0, .int .i64 0, .int .u32 0], rfl, fun j hj => (match j, hj with | 0, _ | 1, _ | 2, _ | 3, _ | 4, _ | 5, _ | 6, _ => rfl), _, 1, rfl, rfl,
      SlA.of_blk1 b1 l1 (Nat.le_refl 1) m1 (fun i hi => match i, hi with | 0, _ => ⟨rfl, rfl⟩), rfl, rfl, rfl, rfl, rfl⟩
def kst : TStamp := ⟨0, ⟨3, 0⟩⟩
def kc0 : TCount := ⟨kst, 1⟩
end Go.Proofs.YtjmbafcpbagpdaaGreat
