/- Graph: the rows of what leads where, in memory. -/
import Derived.Test.YtmoengfpbgpnfaaGm
import Derived.Test.YtmoengfpbgpnfaaBaseV
import Derived.Laws.OwnMore
namespace Go.Proofs.Ytmoengfpbgpnfaa
open Go.RowKit
set_option linter.unusedVariables false

def rowV (n : Nat) (g : Nat → Bool) : Array Value := ((List.range n).map fun c => Value.bool (g c)).toArray
theorem rowV_size (n : Nat) (g : Nat → Bool) : (rowV n g).size = n := by simp [rowV]
theorem rowV_at {n c : Nat} (g : Nat → Bool) (h : c < n) : (rowV n g)[c]? = some (.bool (g c)) := by simp [rowV, h]
theorem rowV_set {n c : Nat} (g : Nat → Bool) (b : Bool) (h : c < n) : (rowV n g).setIfInBounds c (.bool b) = rowV n (fun d => if d = c then b else g d) := by
  apply Array.ext_getElem?
  intro i
  rw [Array.getElem?_setIfInBounds]
  by_cases hi : i < n
  · rw [rowV_at _ hi]
    by_cases hc : c = i
    · subst hc
      rw [if_pos rfl, if_pos (by rw [rowV_size]; exact h), rowV_at _ h, if_pos rfl]
    · rw [if_neg hc, rowV_at _ hi, if_neg (Ne.symm hc)]
  · have h1 : c ≠ i := by omega
    rw [if_neg h1, Array.getElem?_eq_none (by rw [rowV_size]; omega), Array.getElem?_eq_none (by rw [rowV_size]; omega)]
theorem rowV_congr {n : Nat} {g k : Nat → Bool} (h : ∀ c, c < n → g c = k c) : rowV n g = rowV n k := by
  unfold rowV
  congr 1
  exact List.map_congr_left fun c hc => by rw [h c (List.mem_range.1 hc)]
theorem rowV_false (n : Nat) : rowV n (fun _ => false) = Array.replicate n (.bool false) := by
  apply Array.ext_getElem?
  intro i
  by_cases hi : i < n
  · rw [rowV_at _ hi]; simp [hi]
  · rw [Array.getElem?_eq_none (by rw [rowV_size]; omega), Array.getElem?_eq_none (by simp; omega)]

theorem madeCells_one (z : Value) (n : Nat) : madeCells #[z] n = Array.replicate n z := by
  apply Array.ext_getElem?
  intro i
  simp [madeCells]
  by_cases hi : i < n
  · simp [hi, Nat.mod_one]
  · simp [hi]

def hdrV (n i : Nat) (rs : List Nat) : Array Value := (List.replicate i (Value.slice none 0 0) ++ rs.map fun r => Value.slice (some ⟨r, 0, none⟩) n n).toArray
theorem hdrV_at {n i j : Nat} {rs : List Nat} (hj : j < rs.length) : (hdrV n i rs)[i + j]? = some (.slice (some ⟨rs[j], 0, none⟩) n n) := by
  unfold hdrV
  simp [hj]
theorem hdrV_set {n a : Nat} {rs : List Nat} (r : Nat) : (hdrV n (a + 1) rs).setIfInBounds a (.slice (some ⟨r, 0, none⟩) n n) = hdrV n a (r :: rs) := by
  unfold hdrV
  simp only [List.setIfInBounds_toArray]
  congr 1
  rw [List.replicate_succ']
  simp [List.append_assoc]

/-- Rows i.. are there, each a block of its own; the header names them. -/
structure RPart (w : World) (base hb n i : Nat) (rs : List Nat) (f : Nat → Nat → Bool) : Prop where
  hdr : Blk w hb (hdrV n i rs) 42
  len : i + rs.length = n
  hbase : base ≤ hb
  rows : ∀ (j : Nat) (h : j < rs.length), base ≤ rs[j] ∧ rs[j] ≠ hb ∧ Blk w rs[j] (rowV n (f (i + j))) 4
  nodup : rs.Nodup

namespace RPart
variable {w w' : World} {base hb n i : Nat} {rs : List Nat} {f : Nat → Nat → Bool}
theorem congr (h : RPart w base hb n i rs f) {g : Nat → Nat → Bool} (hfg : ∀ x c, i ≤ x → x < n → c < n → f x c = g x c) : RPart w base hb n i rs g :=
  ⟨h.hdr, h.len, h.hbase, fun j hj => by
    obtain ⟨h1, h2, h3⟩ := h.rows j hj
    have := h.len
    exact ⟨h1, h2, by rw [rowV_congr (fun c hc => (hfg (i + j) c (by omega) (by omega) hc).symm)]; exact h3⟩, h.nodup⟩
theorem chg {S : Nat → Prop} (h : RPart w base hb n i rs f) (k : Chg S w w') (hS : ∀ b, base ≤ b → b < w.heap.size → b = hb ∨ b ∈ rs → ¬ S b) : RPart w' base hb n i rs f :=
  ⟨h.hdr.chg k (hS _ h.hbase h.hdr.lt (.inl rfl)), h.len, h.hbase, fun j hj => by
    obtain ⟨h1, h2, h3⟩ := h.rows j hj
    exact ⟨h1, h2, h3.chg k (hS _ h1 h3.lt (.inr (List.getElem_mem hj)))⟩, h.nodup⟩
theorem below {B : Nat} (h : RPart w base hb n i rs f) (k : Below B w w') (hB : w.heap.size ≤ B) : RPart w' base hb n i rs f :=
  h.chg (Chg.of_below k) (fun b _ hb _ hs => by omega)
theorem hcell (h : RPart w base hb n i rs f) {x : Nat} (hx : i ≤ x) (hn : x < n) : ∃ r, rs[x - i]? = some r ∧ w.cell? ⟨hb, x, none⟩ = some (.slice (some ⟨r, 0, none⟩) n n) := by
  have hl := h.len
  have hj : x - i < rs.length := by omega
  refine ⟨rs[x - i], List.getElem?_eq_getElem hj, ?_⟩
  rw [h.hdr.cell x]
  have := hdrV_at (n := n) (i := i) hj
  rwa [show i + (x - i) = x by omega] at this
theorem rcell (h : RPart w base hb n i rs f) {x c r : Nat} (hx : i ≤ x) (hr : rs[x - i]? = some r) (hc : c < n) : w.cell? ⟨r, c, none⟩ = some (.bool (f x c)) := by
  obtain ⟨hj, rfl⟩ := List.getElem?_eq_some_iff.1 hr
  obtain ⟨_, _, h3⟩ := h.rows _ hj
  rw [h3.cell c, rowV_at _ hc, show i + (x - i) = x by omega]
theorem rblk (h : RPart w base hb n i rs f) {x r : Nat} (hx : i ≤ x) (hr : rs[x - i]? = some r) : Blk w r (rowV n (f x)) 4 ∧ base ≤ r ∧ r ≠ hb := by
  obtain ⟨hj, rfl⟩ := List.getElem?_eq_some_iff.1 hr
  obtain ⟨h1, h2, h3⟩ := h.rows _ hj
  rw [show i + (x - i) = x by omega] at h3
  exact ⟨h3, h1, h2⟩
/-- One cell of a row is set. -/
theorem set (h : RPart w base hb n i rs f) {x c r : Nat} (hx : i ≤ x) (hr : rs[x - i]? = some r) (hc : c < n) (b : Bool) : RPart (w.setCell ⟨r, c, none⟩ (.bool b)) base hb n i rs (fun y d => if y = x ∧ d = c then b else f y d) := by
  obtain ⟨hj, hrj⟩ := List.getElem?_eq_some_iff.1 hr
  refine ⟨h.hdr.set_other (p := ⟨r, c, none⟩) (Ne.symm (h.rblk hx hr).2.2) _, h.len, h.hbase, fun j hj' => ?_, h.nodup⟩
  obtain ⟨h1, h2, h3⟩ := h.rows j hj'
  refine ⟨h1, h2, ?_⟩
  by_cases hjx : j = x - i
  · subst hjx
    have h4 := h3.set c (.bool b)
    rw [rowV_set _ _ hc] at h4
    rw [hrj] at h4
    rw [hrj, rowV_congr (k := fun d => if d = c then b else f (i + (x - i)) d) (fun d hd => by simp [show i + (x - i) = x by omega])]
    exact h4
  · have hne : rs[j] ≠ r := by
      rw [← hrj]
      intro e
      exact hjx ((List.getElem_inj h.nodup).1 e)
    have h4 := h3.set_other (p := ⟨r, c, none⟩) hne (.bool b)
    rw [rowV_congr (k := f (i + j)) (fun d hd => by rw [if_neg (by omega)])]
    exact h4
/-- A new row comes ahead of the others. -/
theorem push (h : RPart w base hb n (i + 1) rs f) (hb' : base ≤ w.heap.size) : RPart ((w.alloc (.cells (Array.replicate n (.bool false)) 4)).setCell ⟨hb, i, none⟩ (.slice (some ⟨w.heap.size, 0, none⟩) n n)) base hb n i (w.heap.size :: rs) (fun y d => if y = i then false else f y d) := by
  have hlt : hb < w.heap.size := h.hdr.lt
  refine ⟨?_, by have := h.len; simp; omega, h.hbase, fun j hj => ?_, ?_⟩
  · have := (h.hdr.alloc (.cells (Array.replicate n (.bool false)) 4)).set i (.slice (some ⟨w.heap.size, 0, none⟩) n n)
    rwa [hdrV_set] at this
  · cases j with
    | zero =>
      simp only [List.getElem_cons_zero, Nat.add_zero]
      refine ⟨hb', by omega, ?_⟩
      rw [rowV_congr (k := fun _ => false) (fun d hd => by simp), rowV_false]
      exact (Blk.new w _ _).set_other (p := ⟨hb, i, none⟩) (by simp; omega) _
    | succ j =>
      simp only [List.getElem_cons_succ]
      obtain ⟨h1, h2, h3⟩ := h.rows j (by simpa using hj)
      refine ⟨h1, h2, ?_⟩
      rw [rowV_congr (k := f (i + 1 + j)) (fun d hd => by rw [if_neg (by omega), show i + (j + 1) = i + 1 + j by omega])]
      exact (h3.alloc _).set_other (p := ⟨hb, i, none⟩) h2 _
  · rw [List.nodup_cons]
    refine ⟨fun hm => ?_, h.nodup⟩
    obtain ⟨j, hj, e⟩ := List.getElem_of_mem hm
    have := (h.rows j hj).2.2.lt
    omega
end RPart

theorem RPart.base {w : World} {base base' hb n i : Nat} {rs : List Nat} {f : Nat → Nat → Bool} (h : RPart w base hb n i rs f) (hb' : base' ≤ base) : RPart w base' hb n i rs f :=
  ⟨h.hdr, h.len, Nat.le_trans hb' h.hbase, fun j hj => ⟨Nat.le_trans hb' (h.rows j hj).1, (h.rows j hj).2⟩, h.nodup⟩
theorem hdrV_nil {n a : Nat} {rs : List Nat} : (hdrV n (a + 1) rs)[a]? = some (.slice none 0 0) := by
  unfold hdrV
  simp [List.getElem?_append_left]
theorem blk_inj {w : World} {b : Nat} {cs ds : Array Value} {T U : TypeId} (h : Blk w b cs T) (k : Blk w b ds U) : cs = ds ∧ T = U := by
  unfold Blk at h k
  rw [h] at k
  cases k
  exact ⟨rfl, rfl⟩
theorem blk_ne {w : World} {b c : Nat} {cs ds : Array Value} {T U : TypeId} (h : Blk w b cs T) (k : Blk w c ds U) (hT : T ≠ U) : b ≠ c := fun e => by subst e; exact hT (blk_inj h k).2

theorem infoBool : (Try.prog.info? 4).map (fun i => (i.zero, i.size, i.bytes)) = some (some (.bool false), 1, 1) := by kernel_rfl
theorem infoBools : (Try.prog.info? 42).map (fun i => (i.zero, i.size, i.bytes)) = some (some (.slice none 0 0), 1, 24) := by kernel_rfl
theorem mk_bools (n : Nat) (hn : n ≤ 16) (w : World) : (Instr.makeSlice 42 (.int .i64 n) (.int .i64 n)).run Try.prog w = .ok (.slice (some ⟨w.heap.size, 0, none⟩) n n) (w.alloc (.cells (Array.replicate n (.bool false)) 4)) := by
  obtain ⟨i0, hi, hz0, hz1, hz2⟩ := info_parts infoBool
  have := run_make (P := Try.prog) w 42 4 i0 (.bool false) Try.underlying42 hi hz0 .i64 .i64 n n (by omega) (Int.le_refl _) (by rw [hz2]; omega) (by omega)
  rw [hz1, Int.toNat_natCast, Nat.mul_one, show Value.cells (.bool false) = #[.bool false] from rfl, madeCells_one] at this
  exact this
theorem mk_rows (n : Nat) (hn : n ≤ 16) (w : World) : (Instr.makeSlice 40 (.int .i64 n) (.int .i64 n)).run Try.prog w = .ok (.slice (some ⟨w.heap.size, 0, none⟩) n n) (w.alloc (.cells (Array.replicate n (.slice none 0 0)) 42)) := by
  obtain ⟨i0, hi, hz0, hz1, hz2⟩ := info_parts infoBools
  have := run_make (P := Try.prog) w 40 42 i0 (.slice none 0 0) Try.underlying40 hi hz0 .i64 .i64 n n (by omega) (Int.le_refl _) (by rw [hz2]; omega) (by omega)
  rw [hz1, Int.toNat_natCast, Nat.mul_one, show Value.cells (.slice none 0 0) = #[.slice none 0 0] from rfl, madeCells_one] at this
  exact this
theorem rpart_new (w : World) (n base : Nat) (f : Nat → Nat → Bool) (hb : base ≤ w.heap.size) : RPart (w.alloc (.cells (Array.replicate n (.slice none 0 0)) 42)) base w.heap.size n n [] f :=
  ⟨by have := Blk.new w (Array.replicate n (Value.slice none 0 0)) 42
      rw [show hdrV n n [] = Array.replicate n (.slice none 0 0) by unfold hdrV; simp]; exact this, by simp, hb, fun j hj => absurd hj (Nat.not_lt_zero _), List.nodup_nil⟩

/-- A slice of rows of bools, all new memory. -/
def RowsB (w : World) (base : Nat) (v : Value) (n : Nat) (f : Nat → Nat → Bool) : Prop := ∃ hb rs, v = .slice (some ⟨hb, 0, none⟩) n n ∧ RPart w base hb n 0 rs f
end Go.Proofs.Ytmoengfpbgpnfaa
