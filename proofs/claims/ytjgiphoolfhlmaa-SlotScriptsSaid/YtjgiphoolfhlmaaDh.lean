/- Disk: Sync. -/
import Derived.Test.YtjgiphoolfhlmaaDg
namespace Go
open Go.RowKit
theorem flatSet {α : Type} {enc : α → List Value} {size : Nat} (hk : ∀ x, (enc x).length = size) {x' : α} {c : Value} {j : Nat} (hj : j < size) : ∀ (xs : List α) (i : Nat) (hi : i < xs.length), enc x' = (enc xs[i]).set j c →
    (xs.set i x').flatMap enc = (xs.flatMap enc).set (i * size + j) c
  | x :: r, 0, _, hx => by
    simp only [List.set_cons_zero, List.flatMap_cons, List.getElem_cons_zero] at hx ⊢
    rw [hx, List.set_append_left _ _ (by rw [hk]; omega), Nat.zero_mul, Nat.zero_add]
  | x :: r, i + 1, hi, hx => by
    simp only [List.set_cons_succ, List.flatMap_cons, List.getElem_cons_succ] at hx ⊢
    have hm : (i + 1) * size = i * size + size := Nat.succ_mul i size
    rw [flatSet hk hj r i (by simpa using hi) hx, List.set_append_right _ _ (by rw [hk]; omega), hk]
    congr 2
    omega
theorem ownSet {α : Type} {enc : α → List Value} {size base g n cap : Nat} {e : TypeId} {w : World} {xs : List α} (h : OwnL enc w base e size (.slice (some ⟨g, 0, none⟩) n cap) xs) (hk : ∀ x, (enc x).length = size) {i j : Nat} (hi : i < xs.length) (hj : j < size) {x' : α} {c : Value} (hx : enc x' = (enc xs[i]).set j c) :
    OwnL enc (w.setCell ⟨g, i * size + j, none⟩ c) base e size (.slice (some ⟨g, 0, none⟩) n cap) (xs.set i x') := by
  rcases h.form with ⟨h1, _⟩ | ⟨g', cap', cells, h1, h2, h3, h4, h5, h6, h7, h8⟩
  · cases h1
  · simp only [Value.slice.injEq, Option.some.injEq, Addr.mk.injEq] at h1
    obtain ⟨⟨rfl, _⟩, rfl, rfl⟩ := h1
    have := ownBlk (enc := enc) (xs := xs.set i x') (h2.set (i * size + j) c) h6 (by rw [List.length_set]; exact h3) h4 (by simpa using h5) (by rw [List.length_set, flatSet hk hj xs i hi hx, ← h8, Array.toList_setIfInBounds, List.take_set]) (by rw [flat_len hk])
    rwa [List.length_set] at this
theorem ownCell {α : Type} {enc : α → List Value} {size base g n cap : Nat} {e : TypeId} {w : World} {xs : List α} (h : OwnL enc w base e size (.slice (some ⟨g, 0, none⟩) n cap) xs) (hk : ∀ x, (enc x).length = size) {i j : Nat} (hi : i < xs.length) (hj : j < size) : w.cell? ⟨g, i * size + j, none⟩ = (enc xs[i])[j]? ∧ ∀ k, w.frozen? ⟨g, k, none⟩ = false := by
  rcases h.form with ⟨h1, _⟩ | ⟨g', cap', cells, h1, h2, h3, h4, h5, h6, h7, h8⟩
  · cases h1
  · simp only [Value.slice.injEq, Option.some.injEq, Addr.mk.injEq] at h1
    obtain ⟨⟨rfl, _⟩, rfl, rfl⟩ := h1
    refine ⟨?_, fun k => h2.frozen k⟩
    have hm1 : (i + 1) * size ≤ xs.length * size := Nat.mul_le_mul_right size hi
    have hm2 : (i + 1) * size = i * size + size := Nat.succ_mul i size
    have hm3 : i * size + j < xs.length * size := by omega
    rw [h2.cell, ← flat_at hk xs i j hi hj, ← h8, List.getElem?_take, if_pos hm3]
    simp
/-- clear(s[i:]) of a row. -/
theorem run_clear_row {P : Program} {g o n cap : Nat} {cells : Array Value} {T e t : TypeId} {z : Value} {w : World} (hu : P.underlying t = some (.slice e)) (hz : (zeroValue e).run P w = .ok z w) (hzc : 0 < z.cells.size) (h1 : ∀ v ∈ z.cells.toList, v.oneCell' = true) (hb : Blk w g cells T) (hfit : o + n * z.cells.size ≤ cells.size) :
    ∃ w' cells', (∀ ty, (Builtin.clear_ #[t] ty #[.slice (some ⟨g, o, none⟩) n cap]).run P w = .ok (.tuple #[]) w') ∧ Blk w' g cells' T ∧ cells'.size = cells.size ∧ cells'.toList.take o = cells.toList.take o ∧ Chg (fun k => k = g) w w' := by
  cases n with
  | zero => exact ⟨w, cells, fun ty => by simp [Builtin.clear_, run_underlying hu], hb, rfl, rfl, Chg.refl _ _⟩
  | succ n =>
    have hl : (Builtin.zeroCells z.cells (n + 1)).toList.length = (n + 1) * z.cells.size := by simp [Builtin.zeroCells]
    have hst := run_storeCells_at P g o T (Builtin.zeroCells z.cells (n + 1)).toList 0 cells w hb (by rw [hl]; omega) (fun v hv => by
      unfold Builtin.zeroCells at hv
      simp only [Array.toList_map, List.mem_map] at hv
      obtain ⟨i, _, rfl⟩ := hv
      have hi : i % z.cells.size < z.cells.size := Nat.mod_lt _ hzc
      rw [getElem!_pos z.cells _ hi]
      exact h1 _ (by simp))
    refine ⟨w.setRow g (cells.toList.take (o + 0) ++ (Builtin.zeroCells z.cells (n + 1)).toList ++ cells.toList.drop (o + 0 + (Builtin.zeroCells z.cells (n + 1)).toList.length)).toArray, _, fun ty => by simp [Builtin.clear_, run_underlying hu, hz, hst], setRow_heap w g cells _ T _ hb, ?_, ?_, ⟨rfl, rfl, rfl, by simp [World.setRow], fun k hk hS => setRow_other w g k _ hS⟩⟩
    · have := hl; simp only [List.size_toArray, List.length_append, List.length_take, List.length_drop, hl]; simp; omega
    · simp only [Nat.add_zero, List.append_assoc]
      rw [List.take_append_of_le_length (by simp; omega), List.take_take, Nat.min_self]
end Go
namespace Go.Proofs.Ytjgiphoolfhlmaa
open Go.RowKit Go.Maps
attribute [local go_sem] Oper.semAt_some
set_option linter.unusedVariables false
set_option linter.unusedSimpArgs false

/-- The closure: has the change this name? -/
theorem named_any (c : CH) (s : ByteArray) (nb : Nat) (w : World) (hc : w.cell? ⟨nb, 0, none⟩ = some (.string s)) :
    Calls Try.prog 42 #[.agg #[.int .i64 c.kind, .string c.name, .int .i64 c.pos, c.d.v], .pointer (some ⟨nb, 0, none⟩)] w fun e w' => e = .returned (.bool (decide (c.name = s))) ∧ Below w.heap.size w w' := by
  have hnb := World.lt_of_cell hc
  dsimp only at hnb
  rw [← str_eq]
  unfold FV.v
  go_enter Try.func42, Try.ntmps42
  go_wp2_with fail
  go_ret
  exact ⟨rfl, (by repeat (first | exact Below.refl _ _ | refine below_drewN ?_ _ | refine Below.drew ?_ | (refine Below.alloc ?_ (by simp; try omega) _)))⟩

def leftH (l : List CH) (s : ByteArray) : List CH := l.filter (fun c => !decide (c.name = s))
theorem leftH_abs (l : List CH) (s : ByteArray) : (leftH l s).map CH.abs = leftC (l.map CH.abs) s := by
  unfold leftH leftC
  rw [List.filter_map]
  rfl

set_option maxRecDepth 100000 in
set_option maxHeartbeats 2000000 in
/-- The first change of that name. -/
theorem index_any (s : ByteArray) (nb base : Nat) (v : Value) (l : List CH) (w : World) (hc : w.cell? ⟨nb, 0, none⟩ = some (.string s)) (h : OwnL encC w base 73 4 v l) (hl : l.length ≤ 1000000) :
    Calls Try.prog 60 #[v, .func (.func 42) #[] #[.pointer (some ⟨nb, 0, none⟩)]] w fun e w' =>
      ((e = .returned (.int .i64 (-1)) ∧ leftH l s = l) ∨ ∃ i : Nat, e = .returned (.int .i64 i) ∧ i < l.length ∧ (∃ c, l[i]? = some c ∧ c.name = s) ∧ leftH (l.take i) s = l.take i) ∧ Below w.heap.size w w' := by
  obtain ⟨ao, cap, rfl, hsl⟩ := h.sla (E := fun _ cs x => cs = encC x) encC_len (fun _ _ => rfl)
  have hnb := World.lt_of_cell hc
  dsimp only at hnb
  obtain ⟨n, hn⟩ : ∃ n, n = l.length := ⟨_, rfl⟩
  rw [← hn] at hl ⊢
  replace hn := Lib.hid hn
  clear h
  go_enter Try.func60, Try.ntmps60
  go_wp2_with fail
  go_loopw [8] (fun x8 wr => ∃ i : Nat, i ≤ n ∧ x8 = .int .i64 i ∧ leftH (l.take i) s = l.take i ∧ Below w.heap.size w wr) (fun x8 _ => n - (intOf x8).toNat)
  case atStart => exact ⟨0, Nat.zero_le _, rfl, rfl, Below.refl _ _⟩
  case round =>
    obtain ⟨i, hi, rfl, hlf, hbr⟩ := hrel
    replace hlf := Lib.hid hlf
    by_cases hlt : i < n
    · have hil : i < l.length := by rw [← hn.out]; exact hlt
      obtain ⟨b1, o1, rfl, hb1, _⟩ := hsl.addr (by omega)
      obtain ⟨c, hce⟩ : ∃ c, l[i] = c := ⟨_, rfl⟩
      obtain ⟨cs, hcl, h6, h7⟩ := hsl.get i hil
      rw [hce] at h7
      subst h7
      have e0 : wr.cell? ⟨b1, o1 + i * 4, none⟩ = some (.int .i64 c.kind) := by rw [hbr.cell (p := ⟨b1, o1 + i * 4, none⟩) hb1]; exact h6 0 (by omega)
      have e1 : wr.cell? ⟨b1, o1 + i * 4 + 1, none⟩ = some (.string c.name) := by rw [hbr.cell (p := ⟨b1, o1 + i * 4 + 1, none⟩) hb1]; exact h6 1 (by omega)
      have e2 : wr.cell? ⟨b1, o1 + i * 4 + 2, none⟩ = some (.int .i64 c.pos) := by rw [hbr.cell (p := ⟨b1, o1 + i * 4 + 2, none⟩) hb1]; exact h6 2 (by omega)
      have e3 : wr.cell? ⟨b1, o1 + i * 4 + 3, none⟩ = some c.d.v := by rw [hbr.cell (p := ⟨b1, o1 + i * 4 + 3, none⟩) hb1]; exact h6 3 (by omega)
      have hcw := (hbr.cell (p := ⟨nb, 0, none⟩) hnb).trans hc
      have hcall := named_any c s nb wr hcw
      clear h6 hcl
      replace hce := Lib.hid hce
      go_wp2_with fail
      refine hcall.mono ?_
      rintro e w2 ⟨rfl, hb2⟩
      have hbw := hbr.trans (hb2.mono hbr.size)
      dsimp only
      by_cases hq : c.name = s
      · rw [decide_eq_true hq]
        have hfin : ∃ c, l[i]? = some c ∧ c.name = s := ⟨c, by rw [List.getElem?_eq_getElem hil, hce.out], hq⟩
        have hlf2 := hlf.out
        clear hcall hq hce e0 e1 e2 e3 hcw
        replace hfin := Lib.hid hfin
        replace hlf2 := Lib.hid hlf2
        go_wp2_with fail
        go_ret
        exact ⟨.inr ⟨i, rfl, hlt, hfin.out, hlf2.out⟩, hbw⟩
      · rw [decide_eq_false hq]
        have hlf2 : leftH (l.take (i + 1)) s = l.take (i + 1) := by
          rw [List.take_succ_eq_append_getElem hil]
          unfold leftH
          rw [List.filter_append]
          have := hlf.out
          unfold leftH at this
          rw [this, hce.out]
          simp [hq]
        clear hcall hq hce e0 e1 e2 e3 hcw
        replace hlf2 := Lib.hid hlf2
        go_wp2_with fail
        go_roundw
        case rel => exact ⟨i + 1, by omega, by go_num, hlf2.out, hbw⟩
        case measure => simp [intOf]; omega
    · obtain rfl : i = n := by omega
      have hall := hlf.out
      rw [List.take_of_length_le (by rw [← hn.out]; exact Nat.le_refl _)] at hall
      have d9 : decide ((i : Int) < (i : Int)) = false := by simp
      go_wp2_with fail
      go_ret
      exact ⟨.inl ⟨rfl, hall⟩, hbr⟩

theorem leftH_len {l : List CH} {s : ByteArray} : (leftH l s).length = l.length ↔ leftH l s = l := by
  constructor
  · intro h
    exact List.Sublist.eq_of_length List.filter_sublist h
  · intro h; rw [h]
theorem leftH_hit {l : List CH} {s : ByteArray} {i : Nat} {c : CH} (h : l[i]? = some c) (hc : c.name = s) : leftH l s ≠ l := by
  intro e
  have hm : c ∈ leftH l s := by rw [e]; exact List.mem_of_getElem? h
  have := (List.mem_filter.1 hm).2
  simp [hc] at this

theorem contains_any (s : ByteArray) (nb base : Nat) (v : Value) (l : List CH) (w : World) (hc : w.cell? ⟨nb, 0, none⟩ = some (.string s)) (h : OwnL encC w base 73 4 v l) (hl : l.length ≤ 1000000) :
    Calls Try.prog 43 #[v, .func (.func 42) #[] #[.pointer (some ⟨nb, 0, none⟩)]] w fun e w' =>
      e = .returned (.bool (decide ((leftH l s).length ≠ l.length))) ∧ Below w.heap.size w w' := by
  have hi := index_any s nb base v l w hc h hl
  obtain ⟨res, hres⟩ : ∃ res, res = decide ((leftH l s).length ≠ l.length) := ⟨_, rfl⟩
  rw [← hres]
  obtain ⟨ao, cap, rfl, _, _, _⟩ := h.slice
  replace hres := Lib.hid hres
  clear h
  go_enter Try.func43, Try.ntmps43
  go_wp2_with fail
  refine hi.mono ?_
  rintro e w1 ⟨⟨rfl, hq⟩ | ⟨i, rfl, hil, ⟨c, hci, hcn⟩, _⟩, hb⟩
  · have hr : res = false := by rw [hres.out, leftH_len.2 hq]; simp
    subst hr
    dsimp only
    clear hq
    go_wp2_with fail
    go_ret
    exact ⟨rfl, hb⟩
  · have hr : res = true := by
      rw [hres.out]
      simp only [decide_eq_true_eq]
      exact fun e => leftH_hit hci hcn (leftH_len.1 e)
    subst hr
    dsimp only
    clear hci hcn
    go_wp2_with fail
    go_ret
    exact ⟨rfl, hb⟩

theorem eqC_nil (u : World) (m cap : Nat) : (binOp BinOp.eql 53 (.slice none m cap) (.slice none 0 0)).run Try.prog u = .ok (.bool true) u := by kernel_rfl
theorem eqC_some (u : World) (a : Addr) (m cap : Nat) : (binOp BinOp.eql 53 (.slice (some a) m cap) (.slice none 0 0)).run Try.prog u = .ok (.bool false) u := by kernel_rfl
attribute [local go_sem] eqC_nil eqC_some

set_option maxRecDepth 100000 in
set_option maxHeartbeats 1000000 in
theorem cloneC_any (l : List CH) (base : Nat) (v : Value) (w : World) (h : OwnL encC w base 73 4 v l) (hz : l.length ≤ 1000000) :
    Calls Try.prog 45 #[v] w fun e w' => ∃ v', e = .returned v' ∧ OwnL encC w' w.heap.size 73 4 v' l ∧ Below w.heap.size w w' := by
  obtain ⟨ii, hi, hz0, hz1, hz2⟩ := partsCh
  obtain ⟨ao, cap, rfl, hx⟩ := h.sla (E := fun _ cs x => cs = encC x) encC_len (fun _ _ => rfl)
  obtain ⟨m, hm⟩ : ∃ m, m = l.length := ⟨_, rfl⟩
  rw [← hm]
  cases ao with
  | none =>
    have hm0 : l = [] := by
      cases l with
      | nil => rfl
      | cons a r =>
        obtain ⟨b, off, e, _⟩ := hx.addr (by simp)
        cases e
    subst hm0
    simp only [List.length_nil] at hm
    subst hm
    clear h
    go_enter Try.func45, Try.ntmps45
    go_wp2_with fail
    go_ret
    exact ⟨_, rfl, OwnL.nil _ _ _ _ _, Below.refl _ _⟩
  | some a =>
    replace hm := Lib.hid hm
    clear h
    go_enter Try.func45, Try.ntmps45
    go_wp2_with (at_builtin; refine Shut.out ?ka)
    unfold Shut
    have hii2 : SlA w.heap.size 4 (fun _ cs x => cs = encC x) (w.alloc (.cells #[] 73)) (some a) cap l := hx.imp (belowAlloc w _) (Nat.le_refl _) (fun cs x _ h => h)
    refine wpList_app_sla (xs := []) (ys := l) (enc := encC) (base := w.heap.size) _ rfl _ _ 53 rfl Try.underlying53 hi hz0 hz1 hz2 rfl (by decide) rfl (ownEmpty w 4 73) (by show Value.slice (some a) m cap = _; rw [hm.out]) hii2 encC_len encC_one (by unfold maxLen; simp; omega) (by simp; omega) (by simp) (fun v3 w3 hown3 hgr3 => ?_)
    rw [List.nil_append] at hown3
    have hb23 : Below w.heap.size w w3 := (belowAlloc w (.cells #[] 73)).grown hgr3 (by simp) (fun g hg => by simp [Act.eval, Value.ownBlock] at hg; omega)
    clear hii2 hgr3
    go_wp2_with fail
    go_ret
    exact ⟨_, rfl, hown3, hb23⟩
end Go.Proofs.Ytjgiphoolfhlmaa
