/- A row of the call's own as a list of elements; append of one element. -/
import Derived.Test.YtjigbkklgekjlaaBaseB
import Derived.Test.YtjigbkklgekjlaaBaseE
import Derived.OwnWalk
import Derived.Maps.AppendAt
namespace Go
open Go.RowKit

theorem bcell {W w1 : World} (hb : Below W.heap.size W w1) : (∀ b o, b < W.heap.size → w1.cell? ⟨b, o, none⟩ = W.cell? ⟨b, o, none⟩) ∧ (∀ b o, b < W.heap.size → w1.frozen? ⟨b, o, none⟩ = W.frozen? ⟨b, o, none⟩) :=
  ⟨fun b o h => hb.cell (p := ⟨b, o, none⟩) h, fun b o h => hb.frozen (p := ⟨b, o, none⟩) h⟩

/-- The world under a name. -/
theorem Code.wp_world {P : Program} {c : Code} {Q : Exit → Act → World → Prop} {a : Act} {W : World} (h : ∀ w1, w1 = W → c.wp P Q a w1) : c.wp P Q a W := h _ rfl

section
variable {α : Type} {enc : α → List Value} {size : Nat}

theorem flat_at (hk : ∀ x, (enc x).length = size) : ∀ (xs : List α) (i j : Nat) (hi : i < xs.length), j < size → (xs.flatMap enc)[i * size + j]? = (enc xs[i])[j]?
  | [], i, j, hi, _ => absurd hi (by simp)
  | x :: r, 0, j, _, hj => by
    rw [List.flatMap_cons, Nat.zero_mul, Nat.zero_add, List.getElem?_append_left (by rw [hk]; exact hj)]
    rfl
  | x :: r, i + 1, j, hi, hj => by
    rw [List.flatMap_cons, List.getElem?_append_right (by rw [hk, Nat.add_mul]; omega), hk, show (i + 1) * size + j - size = i * size + j by rw [Nat.add_mul]; omega]
    have := flat_at hk r i j (by simpa using hi) hj
    rw [this]
    rfl
theorem flat_len (hk : ∀ x, (enc x).length = size) (xs : List α) : (xs.flatMap enc).length = xs.length * size := by
  induction xs with
  | nil => simp
  | cons x r ih => rw [List.flatMap_cons, List.length_append, hk, ih, List.length_cons, Nat.add_mul]; omega
theorem flat_snoc (xs : List α) (x : α) : (xs ++ [x]).flatMap enc = xs.flatMap enc ++ enc x := by simp

/-- The slice value v is a row of the call's own, at or above block base, that holds the list xs. -/
def OwnL (enc : α → List Value) (w : World) (base : Nat) (e : TypeId) (size : Nat) (v : Value) (xs : List α) : Prop :=
  w.ownsRow base e size v xs.length (xs.flatMap enc)

variable {w w' : World} {base : Nat} {e : TypeId} {v : Value} {xs : List α}

theorem OwnL.nil (enc : α → List Value) (w : World) (base : Nat) (e : TypeId) (size : Nat) : OwnL enc w base e size (.slice none 0 0) [] := by
  unfold OwnL; exact World.ownsRow_nil w base e size
theorem OwnL.base_le {base' : Nat} (h : OwnL enc w base e size v xs) (hb : base' ≤ base) : OwnL enc w base' e size v xs := by
  refine ⟨h.1, ?_⟩
  rcases h.2 with h | ⟨g, cap, cur, h1, h2, h3⟩
  · exact .inl h
  · exact .inr ⟨g, cap, cur, h1, Nat.le_trans hb h2, h3⟩
/-- It stays while nothing below B changes, its block lying below B. -/
theorem OwnL.below {B : Nat} (h : OwnL enc w base e size v xs) (hb : Below B w w') (hB : w.heap.size ≤ B) : OwnL enc w' base e size v xs := by
  refine ⟨h.1, ?_⟩
  rcases h.2 with h | ⟨g, cap, cur, h1, h2, h3, h4⟩
  · exact .inl h
  · refine .inr ⟨g, cap, cur, h1, h2, ?_, h4⟩
    have : g < w.heap.size := (Array.getElem?_eq_some_iff.1 h3).1
    rw [hb.block g (by omega)]
    exact h3
theorem OwnL.chg {S : Nat → Prop} (h : OwnL enc w base e size v xs) (hb : Chg S w w') (hS : ∀ g, v.ownBlock = some g → ¬ S g) : OwnL enc w' base e size v xs := by
  refine ⟨h.1, ?_⟩
  rcases h.2 with h | ⟨g, cap, cur, h1, h2, h3, h4⟩
  · exact .inl h
  · refine .inr ⟨g, cap, cur, h1, h2, ?_, h4⟩
    have : g < w.heap.size := (Array.getElem?_eq_some_iff.1 h3).1
    rw [hb.block g (by omega) (hS g (by rw [h1]; rfl))]
    exact h3
theorem OwnL.drewN (h : OwnL enc w base e size v xs) (n : Nat) : OwnL enc (w.drewN n) base e size v xs := h
theorem OwnL.alloc (h : OwnL enc w base e size v xs) (o : Obj) : OwnL enc (w.alloc o) base e size v xs := World.ownsRow.alloc h o
/-- What it looks like. -/
theorem OwnL.form (h : OwnL enc w base e size v xs) : (v = .slice none 0 0 ∧ xs = []) ∨ ∃ g cap cells, v = .slice (some ⟨g, 0, none⟩) xs.length cap ∧ Blk w g cells e ∧ xs.length ≤ cap ∧ cap ≤ maxLen ∧ cells.size = cap * size ∧ base ≤ g ∧ g < w.heap.size ∧ cells.toList.take (xs.length * size) = xs.flatMap enc := by
  rcases h.2 with ⟨h1, h2⟩ | ⟨g, cap, cur, h1, h2, h3, h4, h5, h6, h7⟩
  · exact .inl ⟨h1, List.length_eq_zero_iff.1 h2⟩
  · exact .inr ⟨g, cap, cur, h1, h3, h4, h5, h6, h2, (Array.getElem?_eq_some_iff.1 h3).1, h7⟩
theorem OwnL.slice (h : OwnL enc w base e size v xs) : ∃ ao cap, v = .slice ao xs.length cap ∧ xs.length ≤ cap ∧ cap ≤ maxLen ∧ (∀ a, ao = some a → base ≤ a.block ∧ a.block < w.heap.size) := by
  rcases h.form with ⟨h1, rfl⟩ | ⟨g, cap, cells, h1, h2, h3, h4, h5, h6, h7, h8⟩
  · exact ⟨none, 0, h1, Nat.le_refl _, Nat.zero_le _, by simp⟩
  · exact ⟨_, cap, h1, h3, h4, by simp; exact ⟨h6, h7⟩⟩
/-- It reads as its list. -/
theorem OwnL.sla {E : World → List Value → α → Prop} (h : OwnL enc w base e size v xs) (hk : ∀ x, (enc x).length = size) (hE : ∀ x ∈ xs, E w (enc x) x) : ∃ ao cap, v = .slice ao xs.length cap ∧ SlA w.heap.size size E w ao cap xs := by
  rcases h.form with ⟨h1, rfl⟩ | ⟨g, cap, cells, h1, h2, h3, h4, h5, h6, h7, h8⟩
  · exact ⟨none, 0, h1, SlA.nil _ _ _ _⟩
  · refine ⟨_, cap, h1, SlA.of_blk h2 h7 h3 h4 fun i hi => ⟨enc xs[i], hk _, fun j hj => ?_, hE _ (List.getElem_mem hi)⟩⟩
    rw [← flat_at hk xs i j hi hj, ← h8, List.getElem?_take, if_pos]
    · simp
    · have := Nat.mul_le_mul_right size (show i + 1 ≤ xs.length by omega)
      rw [Nat.add_mul] at this
      omega

theorem wpList_app1 {P : Program} {W : World} {ops : Array Oper} {rest : List Oper} {o : Oper} {a : Act} {Q : Exit → Act → World → Prop} (hgd : o.guard = none) (s x : Operand) (t : TypeId)
    (ho : o.op = .call { callee := .builtin .append, args := #[s, x], argTypes := #[t, t] })
    {i : TypeInfo} {z : Value} {bytes : Nat} (ht : P.underlying t = some (.slice e)) (hi : P.info? e = some i) (hz : i.zero = some z)
    (hsize : i.size = size) (hby : i.bytes = bytes) (hzs : z.cells.size = size) (hsz : 0 < size)
    (y : α) {T : TypeId} (hs : a.eval s = v) (hown : OwnL enc W base e size v xs) (hx : a.eval x = .slice (some ⟨W.heap.size, 0, none⟩) 1 1)
    (hk : (enc y).length = size) (h1 : ∀ u ∈ enc y, u.oneCell' = true) (hbd : (xs.length + 1) * bytes ≤ 140737488355328) (hn : xs.length + 1 ≤ maxLen) (hbase : base ≤ W.heap.size)
    (h : ∀ ao cap w', OwnL enc w' base e size (.slice (some ao) (xs.length + 1) cap) (xs ++ [y]) → Below base W w' → W.grownBy w' v.ownBlock → wpList P ops Q rest (a.put o.dst (.slice (some ao) (xs.length + 1) cap)) w') :
    wpList P ops Q (o :: rest) a (W.alloc (.cells (enc y).toArray T)) := by
  refine wpList_append_own _ hgd s x t ho base e i z size bytes ht hi hz hsize hby hzs hsz v xs.length (xs.flatMap enc) hs (World.ownsRow.alloc hown _) ⟨W.heap.size, 0, none⟩ 1 1 (enc y) hx (by simpa using hk) ?_ h1 hn hbd (by simp; omega) ?_
  · intro j u hj
    have hb := Blk.new W (enc y).toArray T
    have : (⟨W.heap.size, 0, none⟩ : Addr).add j = ⟨W.heap.size, j, none⟩ := by unfold Addr.add; split <;> simp_all
    rw [this, hb.cell]
    simpa using hj
  · intro v' w' h2 h3 h4
    have hg : W.grownBy w' v.ownBlock := (World.grownBy_alloc W _ v.ownBlock).trans h3
    have hbel : Below base W w' := (Below.refl base W).grown hg hbase (fun k hk' => (World.ownsRow.lt hown k hk').1)
    have hne : v' ≠ .slice none 0 0 := fun hv => absurd (h4.1 hv).2 (by omega)
    have h5 : OwnL enc w' base e size v' (xs ++ [y]) := by
      unfold OwnL
      rw [flat_snoc, List.length_append]
      exact h2
    rcases h5.form with ⟨hv, _⟩ | ⟨g, cap, cells, hv, _⟩
    · exact absurd hv hne
    · rw [List.length_append, List.length_singleton] at hv
      rw [hv] at h5 ⊢
      exact h _ cap w' h5 hbel hg
end
end Go
