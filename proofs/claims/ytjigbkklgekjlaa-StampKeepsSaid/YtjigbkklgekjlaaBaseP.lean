/- append(b, r...): a slice that came in (read as a list), behind a row of the call's own. -/
import Derived.Test.YtjigbkklgekjlaaBaseO
namespace Go
open Go.RowKit
section
variable {P : Program} {α : Type} {enc : α → List Value} {size : Nat} {base : Nat} {e : TypeId}

theorem run_append_sla (w : World) (t ty : TypeId) {i : TypeInfo} {z : Value} {bytes : Nat} (ht : P.underlying t = some (.slice e)) (hi : P.info? e = some i) (hz : i.zero = some z)
    (hsize : i.size = size) (hby : i.bytes = bytes) (hzs : z.cells.size = size) (hsz : 0 < size)
    {v : Value} {xs ys : List α} {B cap : Nat} {ao : Option Addr} (hown : OwnL enc w base e size v xs) (hu : SlA B size (fun _ cs x => cs = enc x) w ao cap ys) (hk : ∀ x, (enc x).length = size) (h1 : ∀ x, ∀ c ∈ enc x, c.oneCell' = true)
    (h63 : xs.length + ys.length ≤ maxLen) (hbytes : (xs.length + ys.length) * bytes ≤ 140737488355328) (hbase : base ≤ w.heap.size) :
    ∃ v' w', (Builtin.append_ #[t, t] ty #[v, .slice ao ys.length cap]).run P w = .ok v' w' ∧ OwnL enc w' base e size v' (xs ++ ys) ∧ w.grownBy w' v.ownBlock := by
  cases ao with
  | none =>
    obtain rfl : cap = 0 := hu.2.2.1 rfl
    obtain rfl : ys = [] := List.length_eq_zero_iff.1 (by have := hu.1; omega)
    have hr := run_append_owned_none (P := P) (w := w) base t ty e i size ht hi v xs.length (xs.flatMap enc) hown
    exact ⟨v, w, hr, by rw [List.append_nil]; exact hown, ⟨rfl, rfl, rfl, Nat.le_refl _, fun _ _ _ => rfl⟩⟩
  | some ad =>
    have hcells : ∀ j x, (ys.flatMap enc)[j]? = some x → w.cell? (ad.add j) = some x := by
      intro j x hj
      have hjl : j < ys.length * size := by
        rw [← flat_len hk ys]
        exact (List.getElem?_eq_some_iff.1 hj).1
      have hq : j / size < ys.length := (Nat.div_lt_iff_lt_mul hsz).2 hjl
      obtain ⟨b, off, e1, _, h5⟩ := hu.2.2.2 (fun h => by simp [h] at hq)
      cases e1
      have hadd : (⟨b, off, none⟩ : Addr).add j = ⟨b, off + (j / size * size + j % size), none⟩ := by
        rw [show j / size * size + j % size = j by rw [Nat.mul_comm]; exact Nat.div_add_mod j size]
        unfold Addr.add; split <;> simp_all
      obtain ⟨cs, h6, h7, h8⟩ := h5 (j / size) hq
      rw [hadd, h7 _ (Nat.mod_lt _ hsz), h8, ← flat_at hk ys (j / size) (j % size) hq (Nat.mod_lt _ hsz), show j / size * size + j % size = j by rw [Nat.mul_comm]; exact Nat.div_add_mod j size]
      exact hj
    have hone : ∀ c ∈ ys.flatMap enc, c.oneCell' = true := by
      intro c hc
      obtain ⟨x, _, hx⟩ := List.mem_flatMap.1 hc
      exact h1 x c hx
    obtain ⟨v', w', hr, h2, h3, _⟩ := run_append_own_at (P := P) w base t ty e i z size bytes ht hi hz hsize hby hzs hsz v xs.length (xs.flatMap enc) hown ad ys.length cap (ys.flatMap enc) (flat_len hk ys) hcells hone h63 hbytes hbase
    refine ⟨v', w', hr, ?_, h3⟩
    unfold OwnL
    rw [List.flatMap_append, List.length_append]
    exact h2

theorem step_app_sla (w : World) {ops : Array Oper} {o : Oper} {a : Act} {K : Act → World → Prop} {Q : Exit → Act → World → Prop} {E : Prop} (hgd : o.guard = none) (s x : Operand) (t : TypeId)
    (ho : o.op = .call { callee := .builtin .append, args := #[s, x], argTypes := #[t, t] })
    {i : TypeInfo} {z : Value} {bytes : Nat} (ht : P.underlying t = some (.slice e)) (hi : P.info? e = some i) (hz : i.zero = some z)
    (hsize : i.size = size) (hby : i.bytes = bytes) (hzs : z.cells.size = size) (hsz : 0 < size)
    {v : Value} {xs ys : List α} {B cap : Nat} {ao : Option Addr} (hs : a.eval s = v) (hown : OwnL enc w base e size v xs) (hx : a.eval x = .slice ao ys.length cap) (hu : SlA B size (fun _ cs x => cs = enc x) w ao cap ys) (hk : ∀ x, (enc x).length = size) (h1 : ∀ x, ∀ c ∈ enc x, c.oneCell' = true)
    (h63 : xs.length + ys.length ≤ maxLen) (hbytes : (xs.length + ys.length) * bytes ≤ 140737488355328) (hbase : base ≤ w.heap.size)
    (h : ∀ v' w', OwnL enc w' base e size v' (xs ++ ys) → w.grownBy w' v.ownBlock → K (a.put o.dst v') w') :
    if Region.wanted o (yielded ops a.tmps) = true then Oper.wp P o a w K Q else E := by
  have hw : Region.wanted o (yielded ops a.tmps) = true := by simp [Region.wanted, hgd]
  rw [if_pos hw]
  obtain ⟨v', w', hr, h2, h3⟩ := run_append_sla (P := P) w t o.type ht hi hz hsize hby hzs hsz hown hu hk h1 h63 hbytes hbase
  exact Lib.wp_append_run w s x t t ho v _ hs hx v' w' hr (h v' w' h2 h3)

theorem wpList_app_sla (w : World) {ops : Array Oper} {rest : List Oper} {o : Oper} {a : Act} {Q : Exit → Act → World → Prop} (hgd : o.guard = none) (s x : Operand) (t : TypeId)
    (ho : o.op = .call { callee := .builtin .append, args := #[s, x], argTypes := #[t, t] })
    {i : TypeInfo} {z : Value} {bytes : Nat} (ht : P.underlying t = some (.slice e)) (hi : P.info? e = some i) (hz : i.zero = some z)
    (hsize : i.size = size) (hby : i.bytes = bytes) (hzs : z.cells.size = size) (hsz : 0 < size)
    {v : Value} {xs ys : List α} {B cap : Nat} {ao : Option Addr} (hs : a.eval s = v) (hown : OwnL enc w base e size v xs) (hx : a.eval x = .slice ao ys.length cap) (hu : SlA B size (fun _ cs x => cs = enc x) w ao cap ys) (hk : ∀ x, (enc x).length = size) (h1 : ∀ x, ∀ c ∈ enc x, c.oneCell' = true)
    (h63 : xs.length + ys.length ≤ maxLen) (hbytes : (xs.length + ys.length) * bytes ≤ 140737488355328) (hbase : base ≤ w.heap.size)
    (h : ∀ v' w', OwnL enc w' base e size v' (xs ++ ys) → w.grownBy w' v.ownBlock → wpList P ops Q rest (a.put o.dst v') w') : wpList P ops Q (o :: rest) a w := by
  obtain ⟨v', w', hr, h2, h3⟩ := run_append_sla (P := P) w t o.type ht hi hz hsize hby hzs hsz hown hu hk h1 h63 hbytes hbase
  exact Lib.wpList_append_run w hgd s x t t ho v _ hs hx v' w' hr (h v' w' h2 h3)
end
end Go
