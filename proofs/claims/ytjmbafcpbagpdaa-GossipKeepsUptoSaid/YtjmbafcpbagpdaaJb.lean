/- Gossip: Deliver, Waiting, Done, Front. -/
import Derived.Test.YtjmbafcpbagpdaaJ6
import Derived.Test.YtjmbafcpbagpdaaJs
namespace Go.Proofs.Ytjmbafcpbagpdaa
open Go.RowKit Go.Shelf Go.Maps
set_option linter.unusedVariables false
set_option linter.unusedSimpArgs false

namespace Gos
variable {w w' : World} {A U gb N M : Nat} {X : Nat → Prop} {p : GP} {ops : List TOp} {m : GM}
theorem gcell2 (h : Gos w A U X gb p ops m N M) : w.cell? ⟨gb, 2, none⟩ = some (.slice (some ⟨p.vb, 0, none⟩) m.n p.vc) := by
  obtain ⟨ws, b1, _⟩ := h.blk
  exact b1.cellAt rfl
theorem wcell (h : Gos w A U X gb p ops m N M) {i : Nat} (hi : i < 64) : ∃ ao cap, w.cell? ⟨gb, 3 + i, none⟩ = some (.slice ao (m.wy i).length cap) := by
  obtain ⟨ws, hB, hW⟩ := h.blk
  obtain ⟨v, hv⟩ : ∃ v, ws[i]? = some v := ⟨_, List.getElem?_eq_getElem (by rw [hW.len]; exact hi)⟩
  obtain ⟨a2, c2, e, _⟩ := (hW.at' i v hv).slice
  exact ⟨a2, c2, by rw [← e]; exact hB.cellAt ((gcells_at p m.n ws i).trans hv)⟩
theorem vcell (h : Gos w A U X gb p ops m N M) {j : Nat} (hj : j < m.n) : w.cell? ⟨p.vb, j, none⟩ = some (.pointer (some ⟨(p.tp (j + 1)).tb, 0, none⟩)) := by
  obtain ⟨cs, v1, _, _, v2⟩ := h.vws
  exact v1.cellAt (v2 j hj)
theorem there (h : Gos w A U X gb p ops m N M) (k : Int) : Calls Try.prog 25 #[.pointer (some ⟨gb, 0, none⟩), .int .i64 k] w fun e w' => e = .returned (.bool (decide (0 ≤ k ∧ k < m.n))) ∧ w' = w := there_any k gb p.vb m.n p.vc w h.gcell2
end Gos
theorem wait_no (k j : Int) (gb : Nat) (w : World) (b1 b2 : Bool) (hb : b1 = false ∨ b2 = false) (h1 : Calls Try.prog 25 #[.pointer (some ⟨gb, 0, none⟩), .int .i64 k] w fun e w' => e = .returned (.bool b1) ∧ w' = w) (h2 : Calls Try.prog 25 #[.pointer (some ⟨gb, 0, none⟩), .int .i64 j] w fun e w' => e = .returned (.bool b2) ∧ w' = w) :
    Calls Try.prog 14 #[.pointer (some ⟨gb, 0, none⟩), .int .i64 k, .int .i64 j] w fun e w' => e = .returned (.int .i64 0) ∧ w' = w := by
  replace h1 := Lib.hid h1
  replace h2 := Lib.hid h2
  go_enter Try.func14, Try.ntmps14
  go_wp2_with fail
  refine h1.out.mono ?_
  rintro e w' ⟨rfl, hww⟩
  rw [hww]
  clear hww w'
  cases b1 with
  | false =>
    dsimp only
    go_wp2_with fail
    go_ret
    exact ⟨rfl, rfl⟩
  | true =>
    obtain rfl : b2 = false := hb.resolve_left (by simp)
    dsimp only
    go_wp2_with fail
    refine h2.out.mono ?_
    rintro e w' ⟨rfl, hww⟩
    rw [hww]
    clear hww w'
    dsimp only
    go_wp2_with fail
    go_ret
    exact ⟨rfl, rfl⟩
theorem wait_any (a b : Int) {w : World} {A U gb N M : Nat} {X : Nat → Prop} {p : GP} {ops : List TOp} {m : GM} (h : Gos w A U X gb p ops m N M) :
    Calls Try.prog 14 #[.pointer (some ⟨gb, 0, none⟩), .int .i64 a, .int .i64 b] w fun e w' => e = .returned (.int .i64 (waitN m a b)) ∧ w' = w := by
  have h8 := h.n8
  by_cases hab : (0 ≤ a ∧ a < m.n) ∧ (0 ≤ b ∧ b < m.n)
  · obtain ⟨k, rfl⟩ : ∃ k : Nat, a = k := ⟨a.toNat, by omega⟩
    obtain ⟨j, rfl⟩ : ∃ j : Nat, b = j := ⟨b.toNat, by omega⟩
    have e : waitN m k j = (m.wy (k * 8 + j)).length := by unfold waitN; rw [if_pos hab, Int.toNat_natCast, Int.toNat_natCast]
    rw [e]
    obtain ⟨ao, cap, hc⟩ := h.wcell (i := k * 8 + j) (by omega)
    refine wait_walk k j gb (by omega) (by omega) w ao _ cap (fun i hi => ?_) (by rw [Nat.add_assoc]; exact hc)
    have := h.there i
    rw [decide_eq_true (by rcases hi with rfl | rfl <;> omega)] at this
    exact this
  · have e : waitN m a b = 0 := by unfold waitN; rw [if_neg hab]
    rw [e]
    refine wait_no a b gb w _ _ ?_ (h.there a) (h.there b)
    by_cases ha : 0 ≤ a ∧ a < m.n
    · exact .inr (decide_eq_false (fun hb => hab ⟨ha, hb⟩))
    · exact .inl (decide_eq_false ha)
theorem wait_nil (a b : Int) (w : World) : Calls Try.prog 14 #[.pointer none, .int .i64 a, .int .i64 b] w fun e w' => e = .returned (.int .i64 0) ∧ w' = w := by
  have h1 := there_nil a w
  go_enter Try.func14, Try.ntmps14
  go_wp2_with fail
  refine h1.mono ?_
  rintro e w' ⟨rfl, hww⟩
  rw [hww]
  clear hww w'
  dsimp only
  go_wp2_with fail
  go_ret
  exact ⟨rfl, rfl⟩
theorem do_nil (k : Int) (v : Value) (w : World) : Calls Try.prog 10 #[.pointer none, .int .i64 k, v] w fun e w' => e = .returned (.int .i64 9) ∧ w' = w := by
  go_enter Try.func10, Try.ntmps10
  go_wp2_with fail
  go_ret
  exact ⟨rfl, rfl⟩
theorem dlv_nil (a b : Int) (w : World) : Calls Try.prog 8 #[.pointer none, .int .i64 a, .int .i64 b] w fun e w' => e = .returned (.int .i64 9) ∧ w' = w := by
  go_enter Try.func8, Try.ntmps8
  go_wp2_with fail
  go_ret
  exact ⟨rfl, rfl⟩
theorem true_nil (w : World) : Calls Try.prog 11 #[.pointer none] w fun e w' => e = .returned (.pointer none) ∧ w' = w := by
  go_enter Try.func11, Try.ntmps11
  go_wp2_with fail
  go_ret
  exact ⟨rfl, rfl⟩
theorem gfront_nil (k loc : Int) (w : World) : Calls Try.prog 16 #[.pointer none, .int .i64 k, .int .i64 loc] w fun e w' => e = .returned (.slice none 0 0) ∧ w' = w := by
  have h1 := there_nil k w
  go_enter Try.func16, Try.ntmps16
  go_wp2_with fail
  refine h1.mono ?_
  rintro e w' ⟨rfl, hww⟩
  rw [hww]
  clear hww w'
  dsimp only
  go_wp2_with fail
  go_ret
  exact ⟨rfl, rfl⟩
/-- The front of a worker's view. -/
theorem gfront_any (k loc : Int) {w : World} {A U gb N M : Nat} {X : Nat → Prop} {p : GP} {ops : List TOp} {m : GM} (h : Gos w A U X gb p ops m N M) (hN : (N + 1) * 24 ≤ 140737488355328) :
    Calls Try.prog 16 #[.pointer (some ⟨gb, 0, none⟩), .int .i64 k, .int .i64 loc] w fun e w' => Below w.heap.size w w' ∧
      ((0 ≤ k ∧ k < m.n) → ∃ cs v f, e = .returned v ∧ cntC cs = m.c (k.toNat + 1) ∧ (cs.map Prod.fst).Nodup ∧ OwnT w' w.heap.size v f ∧ IsFront (timesS ops loc (aliveC cs)) f) ∧ (¬ (0 ≤ k ∧ k < m.n) → e = .returned (.slice none 0 0)) := by
  have hth := h.there k
  have c2 := h.gcell2
  have h8 := h.n8
  by_cases hk : 0 ≤ k ∧ k < m.n
  · rw [decide_eq_true hk] at hth
    obtain ⟨j, rfl⟩ : ∃ j : Nat, k = j := ⟨k.toNat, by omega⟩
    have hj : j < m.n := by omega
    have cv := h.vcell hj
    obtain ⟨⟨cs, hT, hcs, hcl⟩, _, _⟩ := h.trs (j + 1) (by omega)
    have hf := tfront_any loc w hT (by omega)
    have hnd := hT.nodup
    obtain ⟨n, hn⟩ : ∃ n, n = m.n := ⟨_, rfl⟩
    obtain ⟨tb, htb⟩ : ∃ tb, tb = (p.tp (j + 1)).tb := ⟨_, rfl⟩
    obtain ⟨vb, hvb⟩ : ∃ vb, vb = p.vb := ⟨_, rfl⟩
    rw [← hn] at c2 hj h8
    rw [← htb] at cv hf
    rw [← hvb] at cv c2
    have hfin : ∀ (v : Value) (f : List TTime) (w' : World), Below w.heap.size w w' → OwnT w' w.heap.size v f → IsFront (timesS ops loc (aliveC cs)) f → (Below w.heap.size w w' ∧
      ((0 ≤ (j : Int) ∧ (j : Int) < m.n) → ∃ cs v' f, Ending.returned v = .returned v' ∧ cntC cs = m.c ((j : Int).toNat + 1) ∧ (cs.map Prod.fst).Nodup ∧ OwnT w' w.heap.size v' f ∧ IsFront (timesS ops loc (aliveC cs)) f) ∧ (¬ (0 ≤ (j : Int) ∧ (j : Int) < m.n) → Ending.returned v = .returned (.slice none 0 0))) := fun v f w' h1 h2 h3 =>
      ⟨h1, fun _ => ⟨cs, v, f, rfl, by rw [Int.toNat_natCast]; exact hcs, hnd, h2, h3⟩, fun h => absurd hk h⟩
    replace hfin := Lib.hid hfin
    replace hth := Lib.hid hth
    replace hf := Lib.hid hf
    clear h hT hcs hk hn htb hvb hnd
    go_enter Try.func16, Try.ntmps16
    go_wp2_with fail
    refine hth.out.mono ?_
    rintro e w' ⟨rfl, hww⟩
    rw [hww]
    clear hww w'
    dsimp only
    go_wp2_with fail
    refine hf.out.mono ?_
    rintro e w' ⟨v, f, rfl, h1, h2, h3⟩
    dsimp only
    go_wp2_with fail
    go_ret
    exact hfin.out v f _ h3 h1 h2
  · rw [decide_eq_false hk] at hth
    replace hk := Lib.hid hk
    replace hth := Lib.hid hth
    clear h c2 h8
    go_enter Try.func16, Try.ntmps16
    go_wp2_with fail
    refine hth.out.mono ?_
    rintro e w' ⟨rfl, hww⟩
    rw [hww]
    clear hww w'
    dsimp only
    go_wp2_with fail
    go_ret
    exact ⟨Below.refl _ _, fun h => absurd h hk.out, fun _ => rfl⟩

theorem dlvBad {w w' : World} {A U gb N M : Nat} {X : Nat → Prop} {p : GP} {ops : List TOp} {m : GM} {a b e : Int} (hG : Gos w A U X gb p ops m N M) (hb : Below w.heap.size w w') (hE : dlvE m a b = e) (he : e ≠ 0) :
    Ending.returned (.int .i64 e) = Ending.returned (.int .i64 (dlvE m a b)) ∧ Chg (Foot A U X) w w' ∧ Gos w' A U X gb p ops (dlvM ops m a b) (N + M) M := by
  refine ⟨by rw [hE], (Chg.of_below hb).mono (fun k hk e => absurd hk (by omega)), ?_⟩
  unfold dlvM
  rw [if_neg (by rw [hE]; exact he)]
  exact (hG.below hb).mono (Nat.le_add_right _ _)
/-- The first list of a way, and what the way is without it. -/
theorem Gos.first {w : World} {A U gb N M : Nat} {X : Nat → Prop} {p : GP} {ops : List TOp} {m : GM} (hG : Gos w A U X gb p ops m N M) {i : Nat} (hi : i < 64) {l : List TCount} {r : List (List TCount)} (hw : m.wy i = l :: r) :
    ∃ g k cap u, w.cell? ⟨gb, 3 + i, none⟩ = some (.slice (some ⟨g, k, none⟩) (r.length + 1) cap) ∧ r.length + 1 ≤ cap ∧ cap ≤ maxLen ∧ g < w.heap.size ∧ w.cell? ⟨g, k, none⟩ = some u ∧ LiK w U X u l M ∧
      ∀ x : Option Addr, x = (if cap = 1 then some ⟨g, k, none⟩ else some ⟨g, k + 1, none⟩) → Gos (w.setCell ⟨gb, 3 + i, none⟩ (.slice x r.length (cap - 1))) A U X gb p ops ⟨m.n, m.c, fun j => if j = i then r else m.wy j⟩ N M := by
  obtain ⟨ws, hB, hW⟩ := hG.blk
  obtain ⟨v, hv⟩ : ∃ v, ws[i]? = some v := ⟨_, List.getElem?_eq_getElem (by rw [hW.len]; exact hi)⟩
  obtain ⟨h0, ps, h1, h2, h3⟩ := hW.at' i v hv
  rw [hw] at h2
  obtain ⟨q, ps', rfl⟩ : ∃ q ps', ps = q :: ps' := by
    cases ps with
    | nil => simp at h2
    | cons q ps' => exact ⟨q, ps', rfl⟩
  rw [List.map_cons, List.cons.injEq] at h2
  rw [List.map_cons] at h1
  obtain ⟨g, k, cap, e, h4, h5, h6, h7, h8, h9⟩ := h1.first
  have hrl : (ps'.map Prod.fst).length = r.length := by rw [← h2.2, List.length_map, List.length_map]
  rw [hrl] at e h4 h9
  refine ⟨g, k, cap, q.1, by rw [← e]; exact hB.cellAt ((gcells_at p m.n ws i).trans hv), h4, h5, h7, h8, by rw [← h2.1]; exact h3 q (by simp), fun x hx => ?_⟩
  have hblk : ∀ b, (Value.slice x r.length (cap - 1)).ownBlock = some b → v.ownBlock = some b := fun b hb => by
    rw [e]
    rw [hx] at hb
    split at hb <;> simpa [Value.ownBlock] using hb
  exact hG.setWay hB hW hi hv (S := fun _ => False) (Chg.refl _ _) (fun _ h => h.elim) (fun _ h => h) (fun _ h => .inl h) ⟨fun b hb => h0 b (hblk b hb), ps', h9 x hx, h2.2, fun q' hq => h3 q' (by simp [hq])⟩ (fun b hb => .inl (hblk b hb))

set_option maxRecDepth 100000 in
set_option maxHeartbeats 4000000 in
theorem dlv_any (a b : Int) {w : World} {A U gb N M : Nat} {X : Nat → Prop} {p : GP} {ops : List TOp} {m : GM} (hG : Gos w A U X gb p ops m N M) (hM : M * 32 ≤ 140737488355328) (hNM : N + M ≤ 70368744177664) :
    Calls Try.prog 8 #[.pointer (some ⟨gb, 0, none⟩), .int .i64 a, .int .i64 b] w fun e w' => e = .returned (.int .i64 (dlvE m a b)) ∧ Chg (Foot A U X) w w' ∧ Gos w' A U X gb p ops (dlvM ops m a b) (N + M) M := by
  have h1 := hG.there a
  have h2 := hG.there b
  have h8 := hG.n8
  have c2 := hG.gcell2
  have hfin : ∀ (e : Int) (w' : World), dlvE m a b = e → e ≠ 0 → Below w.heap.size w w' → (Ending.returned (.int .i64 e) = Ending.returned (.int .i64 (dlvE m a b)) ∧ Chg (Foot A U X) w w' ∧ Gos w' A U X gb p ops (dlvM ops m a b) (N + M) M) := fun e w' h1 h2 h3 => dlvBad hG h3 h1 h2
  replace hfin := Lib.hid hfin
  by_cases ha : 0 ≤ a ∧ a < m.n
  rotate_left
  · have hE : dlvE m a b = 1 := by unfold dlvE; rw [if_pos (fun h => ha h.1)]
    rw [decide_eq_false ha] at h1
    replace h1 := Lib.hid h1
    replace hE := Lib.hid hE
    clear h2 hG ha c2
    go_enter Try.func8, Try.ntmps8
    go_wp2_with fail
    refine h1.out.mono ?_
    rintro e w' ⟨rfl, hww⟩
    rw [hww]
    clear hww w'
    dsimp only
    go_wp2_with fail
    go_ret
    exact hfin.out _ _ hE.out (by decide) (Below.refl _ _)
  rw [decide_eq_true ha] at h1
  by_cases hb : 0 ≤ b ∧ b < m.n
  rotate_left
  · have hE : dlvE m a b = 1 := by unfold dlvE; rw [if_pos (fun h => hb h.2)]
    rw [decide_eq_false hb] at h2
    replace h1 := Lib.hid h1
    replace h2 := Lib.hid h2
    replace hE := Lib.hid hE
    clear hG ha hb c2
    go_enter Try.func8, Try.ntmps8
    go_wp2_with fail
    refine h1.out.mono ?_
    rintro e w' ⟨rfl, hww⟩
    rw [hww]
    clear hww w'
    dsimp only
    go_wp2_with fail
    refine h2.out.mono ?_
    rintro e w' ⟨rfl, hww⟩
    rw [hww]
    clear hww w'
    dsimp only
    go_wp2_with fail
    go_ret
    exact hfin.out _ _ hE.out (by decide) (Below.refl _ _)
  rw [decide_eq_true hb] at h2
  obtain ⟨k, rfl⟩ : ∃ k : Nat, a = k := ⟨a.toNat, by omega⟩
  obtain ⟨j, rfl⟩ : ∃ j : Nat, b = j := ⟨b.toNat, by omega⟩
  have hk : k < 8 := by omega
  have hj : j < 8 := by omega
  have hjn : j < m.n := by omega
  have hE0 : dlvE m k j = if m.wy (k * 8 + j) = [] then 7 else 0 := by unfold dlvE; rw [if_neg (fun h => h ⟨ha, hb⟩), Int.toNat_natCast, Int.toNat_natCast]
  replace h1 := Lib.hid h1
  replace h2 := Lib.hid h2
  clear ha hb
  cases hw : m.wy (k * 8 + j) with
  | nil =>
    rw [hw, if_pos rfl] at hE0
    obtain ⟨ao, cap, hc⟩ := hG.wcell (i := k * 8 + j) (by omega)
    rw [hw, List.length_nil, ← Nat.add_assoc] at hc
    replace hE0 := Lib.hid hE0
    clear hG c2 hw
    go_enter Try.func8, Try.ntmps8
    go_wp2_with fail
    refine h1.out.mono ?_
    rintro e w' ⟨rfl, hww⟩
    rw [hww]
    clear hww w'
    dsimp only
    go_wp2_with fail
    refine h2.out.mono ?_
    rintro e w' ⟨rfl, hww⟩
    rw [hww]
    clear hww w'
    dsimp only
    go_wp2_with fail
    go_ret
    exact hfin.out _ _ hE0.out (by decide) (Below.refl _ _)
  | cons l r =>
    rw [hw, if_neg (by simp)] at hE0
    obtain ⟨g, kk, cap, u, d0, hrc, hcm, hgw, d1, hLi, hset⟩ := hG.first (i := k * 8 + j) (by omega) hw
    obtain ⟨lu, lc, rfl, hsl⟩ := hLi.sla
    have hlM := hLi.len
    have hLb : ∀ ad, lu = some ad → U ≤ ad.block := fun ad e => (hG.xU _ (hLi.inX ad.block (by rw [e]; rfl))).1
    obtain ⟨rl, hrl⟩ : ∃ rl, rl = r.length := ⟨_, rfl⟩
    rw [← hrl] at d0 hrc hset
    rw [← Nat.add_assoc] at d0
    have hgU := hG.inG.1.2
    have hgl : gb < w.heap.size := Nat.lt_of_lt_of_le hgU hG.uw
    have cv := hG.vcell hjn
    obtain ⟨vb, hvb⟩ : ∃ vb, vb = p.vb := ⟨_, rfl⟩
    have hvg : vb ≠ gb := by rw [hvb]; exact fun e => hG.dgr.2.2 e.symm
    obtain ⟨n, hn⟩ : ∃ n, n = m.n := ⟨_, rfl⟩
    rw [← hvb, ← hn] at c2
    rw [← hvb] at cv
    rw [← hn] at hjn h8
    have hmax : cap ≤ 9223372036854775807 := by unfold maxLen at hcm; omega
    obtain ⟨ql, hql⟩ : ∃ ql, ql = l.length := ⟨_, rfl⟩
    rw [← hql] at d1
    have ff : w.frozen? ⟨gb, 3 + k * 8 + j, none⟩ = false := by
      obtain ⟨ws, hB, _⟩ := hG.blk
      exact hB.frozen _
    have hdM : dlvM ops m k j = ⟨m.n, fun i => if i = j + 1 then nextF ops (m.c i) l else m.c i, fun i => if i = k * 8 + j then r else m.wy i⟩ := by
      unfold dlvM
      rw [if_pos hE0, Int.toNat_natCast, Int.toNat_natCast, hw]
      congr 1
      funext i
      by_cases h : i = k * 8 + j
      · subst h; rw [if_pos rfl, if_pos rfl, hw]; rfl
      · rw [if_neg h, if_neg h]
    replace hE0 := Lib.hid hE0
    replace hdM := Lib.hid hdM
    replace hrl := Lib.hid hrl
    replace hql := Lib.hid hql
    replace hvb := Lib.hid hvb
    replace hn := Lib.hid hn
    replace hset := Lib.hid hset
    have dl : decide ((rl : Int) + 1 = 0) = false := by simp; omega
    have dl2 : ((rl : Int) + 1 == 0) = false := by rw [beq_eq_false_iff_ne]; omega
    clear hw
    go_enter Try.func8, Try.ntmps8
    go_wp2_with fail
    refine h1.out.mono ?_
    rintro e w' ⟨rfl, hww⟩
    rw [hww]
    clear hww w'
    dsimp only
    go_wp2_with fail
    refine h2.out.mono ?_
    rintro e w' ⟨rfl, hww⟩
    rw [hww]
    clear hww w'
    dsimp only
    go_upto_region 8 with fail
    obtain ⟨xo, hxo⟩ : ∃ xo : Option Addr, xo = (if cap = 1 then some ⟨g, kk, none⟩ else some ⟨g, kk + 1, none⟩) := ⟨_, rfl⟩
    replace hxo := Lib.hid hxo
    refine wp_region_tree (fun wx => wx.cell? ⟨gb, 3 + k * 8 + j, none⟩ = some (.slice (some ⟨g, kk, none⟩) (rl + 1) cap)) 15 17 (by kernel_rfl) rfl (by kernel_rfl) (fun d _ _ _ _ h => by cases d <;> exact h) (d0) (fun opz T hOps hT hTok hHeld => ?_)
    (refine wpTree_q 0 hTok hOps (by kernel_rfl) rfl rfl ⟨?_, ?_, ?_⟩; rotate_left; (focus (intro wx hSx; (try dsimp only at hSx); go_simp; (try with_reducible rfl))); (simp only [Act.put, List.setIfInBounds_toArray, List.set_cons_zero, List.set_cons_succ]))
    (refine wpTree_q 1 hTok hOps (by kernel_rfl) rfl rfl ⟨?_, ?_, ?_⟩; rotate_left; (focus (intro wx hSx; (try dsimp only at hSx); go_simp; (try with_reducible rfl))); (simp only [Act.put, List.setIfInBounds_toArray, List.set_cons_zero, List.set_cons_succ]))
    (refine wpTree_q 2 hTok hOps (by kernel_rfl) rfl rfl ⟨?_, ?_, ?_⟩; rotate_left; (focus (intro wx hSx; (try dsimp only at hSx); go_simp; (try with_reducible rfl))); (simp only [Act.put, List.setIfInBounds_toArray, List.set_cons_zero, List.set_cons_succ]))
    (refine wpTree_q 3 hTok hOps (by kernel_rfl) rfl rfl ⟨?_, ?_, ?_⟩; rotate_left; (focus (intro wx hSx; (try dsimp only at hSx); go_simp; (try with_reducible rfl))); (simp only [Act.put, List.setIfInBounds_toArray, List.set_cons_zero, List.set_cons_succ]))
    (refine wpTree_q 4 hTok hOps (by kernel_rfl) rfl rfl ⟨?_, ?_, ?_⟩; rotate_left; (focus (intro wx hSx; (try dsimp only at hSx); go_simp; (try with_reducible rfl))); (simp only [Act.put, List.setIfInBounds_toArray, List.set_cons_zero, List.set_cons_succ]))
    (refine wpTree_q 5 hTok hOps (by kernel_rfl) rfl rfl ⟨?_, ?_, ?_⟩; rotate_left; (focus (intro wx hSx; (try dsimp only at hSx); go_simp; (try with_reducible rfl))); (simp only [Act.put, List.setIfInBounds_toArray, List.set_cons_zero, List.set_cons_succ]))
    (refine wpTree_q 6 hTok hOps (by kernel_rfl) rfl rfl ⟨?_, ?_, ?_⟩; rotate_left; (focus (intro wx hSx; (try dsimp only at hSx); go_simp; (try with_reducible rfl))); (simp only [Act.put, List.setIfInBounds_toArray, List.set_cons_zero, List.set_cons_succ]))
    (refine wpTree_q 7 hTok hOps (by kernel_rfl) rfl rfl ⟨?_, ?_, ?_⟩; rotate_left; (focus (intro wx hSx; (try dsimp only at hSx); go_simp; (try with_reducible rfl))); (simp only [Act.put, List.setIfInBounds_toArray, List.set_cons_zero, List.set_cons_succ]))
    (refine wpTree_qg 8 hTok hOps (by kernel_rfl) rfl rfl ⟨?_, ?_, ?_⟩; rotate_left; (focus (intro wx hSx; (try dsimp only at hSx); go_simp; rw [if_pos (by omega)])); (simp only [Act.put, List.setIfInBounds_toArray, List.set_cons_zero, List.set_cons_succ]))
    (refine wpTree_qg 9 hTok hOps (by kernel_rfl) rfl rfl ⟨?_, ?_, ?_⟩; rotate_left; (focus (intro wx hSx; (try dsimp only at hSx); go_simp; rw [if_pos (by omega)])); (simp only [Act.put, List.setIfInBounds_toArray, List.set_cons_zero, List.set_cons_succ]))
    (refine wpTree_q 10 hTok hOps (by kernel_rfl) rfl rfl ⟨?_, ?_, ?_⟩; rotate_left; (focus (intro wx hSx; (try dsimp only at hSx); go_simp; (try with_reducible rfl))); (simp only [Act.put, List.setIfInBounds_toArray, List.set_cons_zero, List.set_cons_succ]))
    (refine wpTree_qg 11 hTok hOps (by kernel_rfl) rfl rfl ⟨?_, ?_, ?_⟩; rotate_left; (focus (intro wx hSx; (try dsimp only at hSx); go_simp; rw [if_pos (by omega), ← hxo.out])); (simp only [Act.put, List.setIfInBounds_toArray, List.set_cons_zero, List.set_cons_succ]))
    (refine wpTree_q 12 hTok hOps (by kernel_rfl) rfl rfl ⟨?_, ?_, ?_⟩; rotate_left; (focus (intro wx hSx; (try dsimp only at hSx); go_simp; (try with_reducible rfl))); (simp only [Act.put, List.setIfInBounds_toArray, List.set_cons_zero, List.set_cons_succ]))
    (refine wpTree_q 13 hTok hOps (by kernel_rfl) rfl rfl ⟨?_, ?_, ?_⟩; rotate_left; (focus (intro wx hSx; (try dsimp only at hSx); go_simp; (try with_reducible rfl))); (simp only [Act.put, List.setIfInBounds_toArray, List.set_cons_zero, List.set_cons_succ]))
    (refine wpTree_qg 14 hTok hOps (by kernel_rfl) rfl rfl ⟨?_, ?_, ?_⟩; rotate_left; (focus (intro wx hSx; (try dsimp only at hSx); go_simp; rw [if_pos (by omega)])); (simp only [Act.put, List.setIfInBounds_toArray, List.set_cons_zero, List.set_cons_succ]))
    refine wpTree_nil hOps (by kernel_rfl) ?_
    refine hT.out _ _ ?_
    simp only [List.drop_succ_cons, List.drop_zero]
    clear hOps hT hTok
    try clear hHeld
    go_upto_region 9 with fail
    refine Code.wp_world ?_
    intro w2 hw2
    have hG2 : Gos w2 A U X gb p ops ⟨m.n, m.c, fun i => if i = k * 8 + j then r else m.wy i⟩ N M := by
      have h := (hset.out xo hxo.out).below ((Below.refl _ _).drew)
      rw [← Nat.add_assoc] at h
      rw [hw2]
      exact h
    have hc2 : Chg (fun i => i = gb) w w2 := by
      rw [hw2]
      exact ((Chg.refl (fun i => i = gb) w).drew).setCell ⟨gb, 3 + k * 8 + j, none⟩ _ (fun _ => rfl)
    have hcF : Chg (Foot A U X) w w2 := hc2.mono (fun i _ e => .inl (by rw [e]; exact hG.inG.1))
    have hs2 := hc2.size
    have hsl2 : SlA w2.heap.size 4 (RCount w2.heap.size) w2 lu lc l := (slaChgJ (E' := RCount w.heap.size) hsl hc2 (Nat.le_refl _) (fun _ ad e e2 => by have := hLb ad e; omega) (fun _ _ _ h => h)).imp (Below.refl _ _) hs2 (fun _ _ _ h => h.imp (Below.refl _ _) hs2)
    obtain ⟨⟨cs, hT, hcs, hcl⟩, _, _⟩ := hG2.trs (j + 1) (by rw [← hn.out] at *; exact hjn)
    have hup := update_any l lu lc w2 hT hsl2 (by omega) (by omega)
    have cv2 := hG2.vcell (j := j) (by rw [hn.out] at hjn; exact hjn)
    have cg2 := hG2.gcell2
    rw [← hvb.out] at cv2 cg2
    have hng : (⟨m.n, m.c, fun i => if i = k * 8 + j then r else m.wy i⟩ : GM).n = n := hn.out.symm
    rw [hng] at cg2
    rw [← hql.out] at hup
    obtain ⟨tb, htb⟩ : ∃ tb, tb = (p.tp (j + 1)).tb := ⟨_, rfl⟩
    rw [← htb] at cv2 hup
    have hres : ∀ w3 ue, (Chg (fun k => k = (p.tp (j + 1)).x.mb) w2 w3 ∧ ue = updE ops cs l ∧ (updE ops cs l ≠ 0 → Below w2.heap.size w2 w3) ∧ (updE ops cs l = 0 → ∃ cs', Tr w3 (p.tp (j + 1)).base tb (p.tp (j + 1)).x ops cs' ∧ (∀ s, cntC cs' s = wrap64 (cntC cs s + totC l s)) ∧ cs'.length ≤ cs.length + ql)) →
        Ending.returned (.int .i64 0) = Ending.returned (.int .i64 (dlvE m k j)) ∧ Chg (Foot A U X) w w3 ∧ Gos w3 A U X gb p ops (dlvM ops m k j) (N + M) M := by
      rintro w3 ue ⟨hc3, _, hbad, hgood⟩
      rw [hdM.out, hE0.out]
      have hm := hT.bmb
      have hiT := hG2.inT (j + 1) (by rw [hng]; exact hjn)
      have hmU : (p.tp (j + 1)).x.mb < U := by
        have := (hG2.trs (j + 1) (by rw [hng]; exact hjn)).2.2
        omega
      refine ⟨rfl, hcF.trans (hc3.mono (fun i _ e => .inl (by rw [e]; exact ⟨by omega, hmU⟩))), ?_⟩
      have hF := updF_cs ops cs l
      rw [hcs] at hF
      by_cases hu : updE ops cs l = 0
      · obtain ⟨cs', h1, h2, h3⟩ := hgood hu
        have h := hG2.upd (i := j + 1) (by rw [hng]; exact hjn) hc3 (cs := cs) (cs' := cs') (l := l) (N' := N + M) hcs (Nat.le_add_right _ _) (by rw [← htb]; exact h1) h2 (by have := hql.out; omega)
        have e : (⟨m.n, fun i => if i = j + 1 then nextF ops (m.c i) l else m.c i, fun i => if i = k * 8 + j then r else m.wy i⟩ : GM) = ⟨m.n, fun i => if i = j + 1 then addF (m.c (j + 1)) l else m.c i, fun i => if i = k * 8 + j then r else m.wy i⟩ := by
          congr 1
          funext i
          by_cases hi : i = j + 1
          · subst hi
            rw [if_pos rfl, if_pos rfl]
            unfold nextF
            rw [if_pos (by rw [← hu]; exact hF.symm)]
          · rw [if_neg hi, if_neg hi]
        rw [e]
        exact h
      · have e : (⟨m.n, fun i => if i = j + 1 then nextF ops (m.c i) l else m.c i, fun i => if i = k * 8 + j then r else m.wy i⟩ : GM) = ⟨m.n, m.c, fun i => if i = k * 8 + j then r else m.wy i⟩ := by
          congr 1
          funext i
          by_cases hi : i = j + 1
          · subst hi
            rw [if_pos rfl]
            unfold nextF
            rw [if_neg (by rw [← hF]; exact hu)]
          · rw [if_neg hi]
        rw [e]
        exact (hG2.below (hbad hu)).mono (Nat.le_add_right _ _)
    replace hres := Lib.hid hres
    replace hup := Lib.hid hup
    clear hw2 hG2 hc2 hcF hsl2 hT hcs hcl hng htb hset hxo hG hLi hsl hLb d0 d1 ff hdM
    go_wp2_with fail
    refine hup.out.mono ?_
    rintro e w3 ⟨rfl, q1, q2, q3⟩
    have hfinal := hres.out w3 _ ⟨q1, rfl, q2, q3⟩
    replace hfinal := Lib.hid hfinal
    clear hup hres q1 q2 q3
    dsimp only
    go_wp2_with fail
    go_ret
    exact hfinal.out
end Go.Proofs.Ytjmbafcpbagpdaa
