/- Gossip: rows of values that lie at an offset in their block: one appended, the first taken off; what lies in memory of a gossip. -/
import Derived.Test.YtjmbafcpbagpdaaTyGraph
namespace Go
open Go.RowKit
section
variable {P : Program} (w : World)
theorem run_append_room_at (t ty e : TypeId) (i : TypeInfo) (ht : P.underlying t = some (.slice e)) (hi : P.info? e = some i)
    (g k sLen sCap : Nat) (cur : Array Value) (hg : w.heap[g]? = some (.cells cur e (0, 0)))
    (a : Addr) (m c : Nat) (news : List Value) (hl : news.length = m * i.size) (hnews : ∀ j u, news[j]? = some u → w.cell? (a.add j) = some u) (h1 : ∀ u ∈ news, u.oneCell' = true)
    (hroom : sLen + m ≤ sCap) (hfit : k + sLen * i.size + news.length ≤ cur.size) :
    (Builtin.append_ #[t, t] ty #[.slice (some ⟨g, k, none⟩) sLen sCap, .slice (some a) m c]).run P w =
      .ok (.slice (some ⟨g, k, none⟩) (sLen + m) sCap) (w.setRow g (cur.toList.take (k + sLen * i.size) ++ news ++ cur.toList.drop (k + sLen * i.size + news.length)).toArray) := by
  have hf := run_firstCells_some (P := P) w i.size m a m c news hl hnews
  have hst := run_storeCells_at P g (k + sLen * i.size) e news 0 cur w hg (by simpa using hfit) h1
  simp only [Nat.add_zero] at hst
  simp [Builtin.append_, run_underlying ht, sizeOf, typeInfo, hi, Builtin.lenOf, hroom, hf, Addr.add_lit, hst]
end

/-- The slice v holds the values us, of one cell each; it may lie behind the start of its block. -/
def OffV (w : World) (base : Nat) (e : TypeId) (v : Value) (us : List Value) : Prop :=
  (v = .slice none 0 0 ∧ us = []) ∨ ∃ g k cap cells, v = .slice (some ⟨g, k, none⟩) us.length cap ∧ Blk w g cells e ∧ us.length ≤ cap ∧ cap ≤ maxLen ∧ k + cap ≤ cells.size ∧ base ≤ g ∧ ∀ j u, us[j]? = some u → cells[k + j]? = some u
namespace OffV
variable {w w' : World} {base : Nat} {e : TypeId} {v : Value} {us : List Value}
theorem nil (w : World) (base : Nat) (e : TypeId) : OffV w base e (.slice none 0 0) [] := .inl ⟨rfl, rfl⟩
theorem chg {S : Nat → Prop} (h : OffV w base e v us) (hc : Chg S w w') (hS : ∀ g, v.ownBlock = some g → ¬ S g) : OffV w' base e v us := by
  rcases h with h | ⟨g, k, cap, cells, rfl, h2, h3, h4, h5, h6, h7⟩
  · exact .inl h
  · exact .inr ⟨g, k, cap, cells, rfl, h2.chg hc (hS g rfl), h3, h4, h5, h6, h7⟩
theorem lt (h : OffV w base e v us) : ∀ g, v.ownBlock = some g → base ≤ g ∧ g < w.heap.size := by
  rintro g hg
  rcases h with ⟨rfl, _⟩ | ⟨g', k, cap, cells, rfl, h2, h3, h4, h5, h6, h7⟩
  · simp [Value.ownBlock] at hg
  · simp [Value.ownBlock] at hg
    subst hg
    exact ⟨h6, h2.lt⟩
theorem ne_blk {b : Nat} {cs : Array Value} {T : TypeId} (h : OffV w base e v us) (hb : Blk w b cs T) (hT : e ≠ T) : v.ownBlock ≠ some b := by
  rcases h with ⟨rfl, _⟩ | ⟨g', k, cap, cells, rfl, h2, h3, h4, h5, h6, h7⟩
  · simp [Value.ownBlock]
  · intro he
    simp only [Value.ownBlock, Option.some.injEq] at he
    subst he
    unfold Blk at h2 hb
    rw [h2] at hb
    simp only [Option.some.injEq, Obj.cells.injEq] at hb
    exact hT hb.2.1
theorem slice (h : OffV w base e v us) : ∃ ao cap, v = .slice ao us.length cap ∧ us.length ≤ cap ∧ cap ≤ maxLen := by
  rcases h with ⟨rfl, rfl⟩ | ⟨g', k, cap, cells, rfl, h2, h3, h4, h5, h6, h7⟩
  · exact ⟨none, 0, rfl, Nat.le_refl _, Nat.zero_le _⟩
  · exact ⟨_, cap, rfl, h3, h4⟩
/-- The first is there, and what is behind it. -/
theorem first {u : Value} {r : List Value} (h : OffV w base e v (u :: r)) : ∃ g k cap, v = .slice (some ⟨g, k, none⟩) (r.length + 1) cap ∧ r.length + 1 ≤ cap ∧ cap ≤ maxLen ∧ base ≤ g ∧ g < w.heap.size ∧ w.cell? ⟨g, k, none⟩ = some u ∧
    ∀ x : Option Addr, x = (if cap = 1 then some ⟨g, k, none⟩ else some ⟨g, k + 1, none⟩) → OffV w base e (.slice x r.length (cap - 1)) r := by
  rcases h with ⟨rfl, h⟩ | ⟨g, k, cap, cells, rfl, h2, h3, h4, h5, h6, h7⟩
  · cases h
  · refine ⟨g, k, cap, by rw [List.length_cons], by simpa using h3, h4, h6, h2.lt, h2.cellAt (h7 0 u rfl), fun x hx => ?_⟩
    rw [List.length_cons] at h3
    by_cases hc : cap = 1
    · rw [if_pos hc] at hx
      have hr : r = [] := List.length_eq_zero_iff.1 (by omega)
      subst hr
      exact .inr ⟨g, k, cap - 1, cells, by rw [hx], h2, Nat.zero_le _, by omega, by omega, h6, fun j u' hj => by simp at hj⟩
    · rw [if_neg hc] at hx
      refine .inr ⟨g, k + 1, cap - 1, cells, by rw [hx], h2, by omega, by omega, by omega, h6, fun j u' hj => ?_⟩
      rw [show k + 1 + j = k + (j + 1) by omega]
      exact h7 (j + 1) u' (by simpa using hj)
theorem alloc (h : OffV w base e v us) (o : Obj) : OffV (w.alloc o) base e v us := h.chg ((Chg.refl (fun _ => False) w).alloc o) (fun _ _ h => h)
end OffV
section
variable {P : Program} (w : World)
theorem add_at (g k j : Nat) : (⟨g, k, none⟩ : Addr).add j = ⟨g, k + j, none⟩ := by unfold Addr.add; split <;> simp_all
theorem run_append_off (base : Nat) (t ty e : TypeId) (i : TypeInfo) (z : Value) (bytes : Nat) (ht : P.underlying t = some (.slice e)) (hi : P.info? e = some i) (hz : i.zero = some z)
    (hsize : i.size = 1) (hby : i.bytes = bytes) (hzs : z.cells.size = 1) {v : Value} {us : List Value} (h : OffV w base e v us) (a : Addr) (c : Nat) (u : Value) (hu : w.cell? a = some u) (h1 : u.oneCell' = true)
    (h63 : us.length + 1 ≤ maxLen) (hbytes : (us.length + 1) * bytes ≤ 140737488355328) (hbase : base ≤ w.heap.size) :
    ∃ g k cap w', (Builtin.append_ #[t, t] ty #[v, .slice (some a) 1 c]).run P w = .ok (.slice (some ⟨g, k, none⟩) (us.length + 1) cap) w' ∧ OffV w' base e (.slice (some ⟨g, k, none⟩) (us.length + 1) cap) (us ++ [u]) ∧ w.grownBy w' v.ownBlock ∧ (v.ownBlock = some g ∨ g = w.heap.size) := by
  subst hby
  have hsmall : us.length + 1 ≤ 9223372036854775807 := by simp only [maxLen] at h63; omega
  have hnews : ∀ j x, ([u] : List Value)[j]? = some x → w.cell? (a.add j) = some x := fun j x hx => by
    cases j with
    | zero =>
      simp at hx
      subst hx
      rw [show a.add 0 = a by unfold Addr.add; cases a with | mk b o s => cases s <;> simp]
      exact hu
    | succ j => simp at hx
  have h1' : ∀ x ∈ ([u] : List Value), x.oneCell' = true := fun x hx => by
    rw [List.mem_singleton.1 hx]; exact h1
  have hnew : ∀ (olds : List Value) (old : Nat), olds.length = us.length → olds = us → 
      OffV (w.drew.alloc (.cells (olds.toArray ++ ([u] : List Value).toArray ++ Builtin.zeroCells z.cells (grownCap w (us.length + 1) old e - (us.length + 1))) e)) base e (.slice (some ⟨w.heap.size, 0, none⟩) (us.length + 1) (grownCap w (us.length + 1) old e)) (us ++ [u]) ∧
      (∀ row, w.grownBy (w.drew.alloc (.cells (olds.toArray ++ ([u] : List Value).toArray ++ Builtin.zeroCells z.cells (grownCap w (us.length + 1) old e - (us.length + 1))) e)) row) := by
    rintro olds old _ rfl
    have hge := grownCap_ge w (olds.length + 1) old e
    have hcm := grownCap_le_maxLen w (olds.length + 1) old e h63
    refine ⟨.inr ⟨w.heap.size, 0, _, _, by rw [List.length_append]; rfl, Blk.new w.drew _ e, by rw [List.length_append]; exact hge, hcm, ?_, hbase, fun j x hx => ?_⟩, fun row => ⟨rfl, rfl, rfl, by simp, fun k hk _ => Below.heap_alloc w.drew _ k hk⟩⟩
    · simp only [Array.size_append, List.size_toArray, size_zeroCells, hzs, List.length_singleton]
      omega
    · rw [Nat.zero_add]
      have hj : j < (olds ++ [u]).length := (List.getElem?_eq_some_iff.1 hx).1
      rw [Array.getElem?_append_left (by simpa using hj)]
      simpa using hx
  rcases h with ⟨rfl, rfl⟩ | ⟨g, k, cap, cells, rfl, h2, h3, h4, h5, h6, h7⟩
  · have hr := run_append_nil (P := P) w t ty e i z ht hi hz a 1 c [u] (by simp [hsize]) hnews (by omega) (by omega) (by simp at hbytes; omega)
    obtain ⟨n1, n2⟩ := hnew [] 0 rfl rfl
    simp only [List.length_nil, Nat.zero_add, List.nil_append, Array.empty_append] at n1 n2 ⊢
    exact ⟨w.heap.size, 0, _, _, hr, n1, n2 _, .inr rfl⟩
  · by_cases hroom : us.length + 1 ≤ cap
    · have hr := run_append_room_at (P := P) w t ty e i ht hi g k us.length cap cells h2 a 1 c [u] (by simp [hsize]) hnews h1' hroom (by rw [hsize]; simp; omega)
      rw [hsize] at hr
      refine ⟨g, k, cap, _, hr, .inr ⟨g, k, cap, _, by rw [List.length_append]; rfl, setRow_heap w g cells _ e _ h2, by rw [List.length_append]; exact hroom, h4, ?_, h6, fun j x hx => ?_⟩, ⟨rfl, rfl, rfl, by simp, fun b _ hb => setRow_other w g b _ (fun e => hb (by simp [Value.ownBlock, e]))⟩, .inl rfl⟩
      · simp
        omega
      · have hj : j < (us ++ [u]).length := (List.getElem?_eq_some_iff.1 hx).1
        rw [List.length_append, List.length_singleton] at hj
        simp only [List.getElem?_toArray, Nat.mul_one]
        by_cases hju : j < us.length
        · rw [List.getElem?_append_left (by simp; omega), List.getElem?_append_left (by simp; omega), List.getElem?_take, if_pos (by omega)]
          rw [List.getElem?_append_left hju] at hx
          have := h7 j x hx
          simpa using this
        · obtain rfl : j = us.length := by omega
          have hk : k + us.length ≤ cells.toList.length := by simp; omega
          rw [List.getElem?_append_left (by simp; omega), List.getElem?_append_right (by rw [List.length_take, Array.length_toList]; exact Nat.min_le_left _ _)]
          rw [List.getElem?_append_right (Nat.le_refl _)] at hx
          simp only [List.length_take, Array.length_toList] at *
          rw [show k + us.length - min (k + us.length) cells.size = us.length - us.length by omega]
          exact hx
    · have holds : ∀ j x, us[j]? = some x → w.cell? ((⟨g, k, none⟩ : Addr).add j) = some x := fun j x hx => by rw [add_at]; exact h2.cellAt (h7 j x hx)
      have hr := run_append_grow (P := P) w t ty e i z ht hi hz ⟨g, k, none⟩ us.length cap us (by simp [hsize]) holds a 1 c [u] (by simp [hsize]) hnews (by omega) (by omega) (growslice_fits (by omega) hbytes)
      obtain ⟨n1, n2⟩ := hnew us cap rfl rfl
      exact ⟨w.heap.size, 0, _, _, hr, n1, n2 _, .inr rfl⟩
end
section
variable {P : Program}
/-- append of one value onto such a row, at an operation of a drawn region. -/
theorem step_off {w : World} {ops : Array Oper} {o : Oper} {a : Act} {K : Act → World → Prop} {Q : Exit → Act → World → Prop} {E : Prop} (hgd : o.guard = none) (s x : Operand) (t : TypeId)
    (ho : o.op = .call { callee := .builtin .append, args := #[s, x], argTypes := #[t, t] })
    {base : Nat} {e : TypeId} {i : TypeInfo} {z : Value} {bytes : Nat} (ht : P.underlying t = some (.slice e)) (hi : P.info? e = some i) (hz : i.zero = some z)
    (hsize : i.size = 1) (hby : i.bytes = bytes) (hzs : z.cells.size = 1) {v : Value} {us : List Value} (hs : a.eval s = v) (hv : OffV w base e v us) (ad : Addr) (c : Nat) (u : Value) (hx : a.eval x = .slice (some ad) 1 c) (hu : w.cell? ad = some u) (h1 : u.oneCell' = true)
    (h63 : us.length + 1 ≤ maxLen) (hbytes : (us.length + 1) * bytes ≤ 140737488355328) (hbase : base ≤ w.heap.size)
    (h : ∀ g k cap w', OffV w' base e (.slice (some ⟨g, k, none⟩) (us.length + 1) cap) (us ++ [u]) → w.grownBy w' v.ownBlock → (v.ownBlock = some g ∨ g = w.heap.size) → K (a.put o.dst (.slice (some ⟨g, k, none⟩) (us.length + 1) cap)) w') :
    if Region.wanted o (yielded ops a.tmps) = true then Oper.wp P o a w K Q else E := by
  have hw : Region.wanted o (yielded ops a.tmps) = true := by simp [Region.wanted, hgd]
  rw [if_pos hw]
  obtain ⟨g, k, cap, w', hr, h2, h3, h4⟩ := run_append_off (P := P) w base t o.type e i z bytes ht hi hz hsize hby hzs hv ad c u hu h1 h63 hbytes hbase
  unfold Oper.wp execOp
  simp only [ho, resolve, invoke, builtin, Sem.run_bind, Sem.run_pure, Result.andThen_ok, List.map_toArray, List.map_cons, List.map_nil, hs, hx, hr]
  exact h g k cap w' h2 h3 h4
end
end Go
