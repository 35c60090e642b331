/- Append of one element to an own row: how it grows, told as sharply as Go does (by a quarter). -/
import Derived.Test.YtbianedgogdeeaaL1
namespace Go
open Go.RowKit
set_option linter.unusedVariables false

theorem nextcap_quarter (old : Nat) : Builtin.nextslicecap (old + 1) old ≤ old + old / 4 + 512 := by
  unfold Builtin.nextslicecap
  split
  · omega
  · split
    · omega
    · rw [growBy_four]
      repeat' split
      all_goals omega

section
variable {P : Program}
theorem run_append1_q {w : World} (base : Nat) (t ty e : TypeId) {i : TypeInfo} {z : Value} {size bytes : Nat} (ht : P.underlying t = some (.slice e)) (hi : P.info? e = some i) (hz : i.zero = some z)
    (hsize : i.size = size) (hby : i.bytes = bytes) (hzs : z.cells.size = size)
    {v : Value} {n : Nat} {xs : List Value} (hown : w.ownsRow base e size v n xs) (a : Addr) (c : Nat) {news : List Value} (hl : news.length = size) (hnews : ∀ j u, news[j]? = some u → w.cell? (a.add j) = some u) (h1 : ∀ u ∈ news, u.oneCell' = true)
    (h63 : n + 1 ≤ maxLen) (hfit : (n + n / 4 + 512) * bytes ≤ 281474976710656) (hbase : base ≤ w.heap.size) :
    ∃ g cap w', (Builtin.append_ #[t, t] ty #[v, .slice (some a) 1 c]).run P w = .ok (.slice (some ⟨g, 0, none⟩) (n + 1) cap) w' ∧ w'.ownsRow base e size (.slice (some ⟨g, 0, none⟩) (n + 1) cap) (n + 1) (xs ++ news) ∧
      w.grownBy w' v.ownBlock ∧ (v.ownBlock = some g ∨ g = w.heap.size) := by
  subst hsize
  subst hby
  have hml : n + 1 ≤ 9223372036854775807 := by simp only [maxLen] at h63; omega
  have hl' : news.length = 1 * i.size := by omega
  have hlen : (xs ++ news).length = (n + 1) * i.size := by rw [List.length_append, hown.1, hl, Nat.succ_mul]
  have hnew : ∀ old : Nat, (w.drew.alloc (.cells (xs.toArray ++ news.toArray ++ Builtin.zeroCells z.cells (grownCap w (n + 1) old e - (n + 1))) e)).ownsRow base e i.size
        (.slice (some ⟨w.heap.size, 0, none⟩) (n + 1) (grownCap w (n + 1) old e)) (n + 1) (xs ++ news) := by
    intro old
    have hge := grownCap_ge w (n + 1) old e
    refine ⟨hlen, .inr ⟨w.heap.size, _, _, rfl, hbase, heap_alloc_new w.drew _, hge, grownCap_le_maxLen w (n + 1) old e h63, ?_, ?_⟩⟩
    · simp only [Array.size_append, List.size_toArray, size_zeroCells, hzs, hown.1, hl]
      rw [← Nat.succ_mul, ← Nat.add_mul]
      congr 1
      omega
    · simp only [Array.toList_append]
      rw [← hlen]
      exact List.take_left
  have hold : ∀ (old : Nat) (row : Option Nat), w.grownBy (w.drew.alloc (.cells (xs.toArray ++ news.toArray ++ Builtin.zeroCells z.cells (grownCap w (n + 1) old e - (n + 1))) e)) row :=
    fun old row => ⟨rfl, rfl, rfl, by simp, fun k hk _ => heap_alloc_old w.drew _ hk⟩
  rcases hown.2 with ⟨rfl, rfl⟩ | ⟨g, cap, cur, rfl, hbg, hg, hnc, hcm, hcs, htake⟩
  · obtain rfl : xs = [] := List.eq_nil_of_length_eq_zero (by simpa using hown.1)
    have hr := run_append_nil (P := P) w t ty e i z ht hi hz a 1 c news hl' hnews (by omega) (by omega) (by omega)
    have h2 := hnew 0
    have h3 := hold 0 (Value.ownBlock (.slice none 0 0))
    simp only [Nat.zero_add, List.nil_append, Array.empty_append] at h2 h3 ⊢
    exact ⟨_, _, _, hr, h2, h3, .inr rfl⟩
  · by_cases hroom : n + 1 ≤ cap
    · have hf : n * i.size + news.length ≤ cur.size := by rw [hl, hcs, ← Nat.succ_mul]; exact Nat.mul_le_mul_right _ hroom
      have hr := run_append_room (P := P) w t ty e i ht hi g n cap cur hg a 1 c news hl' hnews h1 hroom hf
      refine ⟨_, _, _, hr, ⟨hlen, .inr ⟨g, cap, _, rfl, hbg, setRow_heap w g cur _ e _ hg, hroom, hcm, ?_, ?_⟩⟩, ⟨rfl, rfl, rfl, by simp, fun k _ hk => setRow_other w g k _ (fun e => hk (by simp [Value.ownBlock, e]))⟩, .inl rfl⟩
      · simp only [List.size_toArray, List.length_append, List.length_take, List.length_drop, Array.length_toList]
        omega
      · rw [htake, ← hlen]
        exact List.take_left
    · obtain rfl : n = cap := by omega
      have holds : ∀ j u, xs[j]? = some u → w.cell? ((⟨g, 0, none⟩ : Addr).add j) = some u := hown.cells (g := g) rfl
      have hr := run_append_grow (P := P) w t ty e i z ht hi hz ⟨g, 0, none⟩ n n xs hown.1 holds a 1 c news hl' hnews (by omega) (by omega) (Nat.le_trans (Nat.mul_le_mul_right _ (nextcap_quarter n)) hfit)
      exact ⟨_, _, _, hr, hnew n, hold n _, .inr rfl⟩
end

section
variable {α : Type} {enc : α → List Value} {size : Nat} {base : Nat} {e : TypeId} {v : Value} {xs : List α}
theorem wpList_app1q {P : Program} {W : World} {ops : Array Oper} {rest : List Oper} {o : Oper} {a : Act} {Q : Exit → Act → World → Prop} (hgd : o.guard = none) (s x : Operand) (t : TypeId)
    (ho : o.op = .call { callee := .builtin .append, args := #[s, x], argTypes := #[t, t] })
    {i : TypeInfo} {z : Value} {bytes : Nat} (ht : P.underlying t = some (.slice e)) (hi : P.info? e = some i) (hz : i.zero = some z)
    (hsize : i.size = size) (hby : i.bytes = bytes) (hzs : z.cells.size = size)
    (y : α) {T : TypeId} (hs : a.eval s = v) (hown : OwnL enc W base e size v xs) (hx : a.eval x = .slice (some ⟨W.heap.size, 0, none⟩) 1 1)
    (hk : (enc y).length = size) (h1 : ∀ u ∈ enc y, u.oneCell' = true) (hfit : (xs.length + xs.length / 4 + 512) * bytes ≤ 281474976710656) (hn : xs.length + 1 ≤ maxLen) (hbase : base ≤ W.heap.size)
    (h : ∀ g cap w', OwnL enc w' base e size (.slice (some ⟨g, 0, none⟩) (xs.length + 1) cap) (xs ++ [y]) → Grew W v w' (.slice (some ⟨g, 0, none⟩) (xs.length + 1) cap) → wpList P ops Q rest (a.put o.dst (.slice (some ⟨g, 0, none⟩) (xs.length + 1) cap)) w') :
    wpList P ops Q (o :: rest) a (W.alloc (.cells (enc y).toArray T)) := by
  refine wpList_plain hgd fun K hK => ?_
  have hcell : ∀ j u, (enc y)[j]? = some u → (W.alloc (.cells (enc y).toArray T)).cell? ((⟨W.heap.size, 0, none⟩ : Addr).add j) = some u := by
    intro j u hj
    have hb := Blk.new W (enc y).toArray T
    have : (⟨W.heap.size, 0, none⟩ : Addr).add j = ⟨W.heap.size, j, none⟩ := by unfold Addr.add; split <;> simp_all
    rw [this, hb.cell]
    simpa using hj
  obtain ⟨g, cap, w', hr, h2, h3, h4⟩ := run_append1_q (P := P) base t o.type e ht hi hz hsize hby hzs (World.ownsRow.alloc hown (.cells (enc y).toArray T)) ⟨W.heap.size, 0, none⟩ 1 hk hcell h1 hn hfit (by simp; omega)
  unfold Oper.wp execOp
  simp only [ho, resolve, invoke, builtin, Sem.run_bind, Sem.run_pure, Result.andThen_ok, List.map_toArray, List.map_cons, List.map_nil, hs, hx, hr]
  refine hK _ _ (h g cap w' ?_ ⟨(World.grownBy_alloc W _ v.ownBlock).trans h3, ?_⟩)
  · unfold OwnL
    rw [flat_snoc, List.length_append]
    exact h2
  · rcases h4 with h4 | h4
    · exact .inl h4.symm
    · exact .inr ⟨g, rfl, by rw [h4]; simp⟩
end
end Go
