/- Graph: the walk of GraphWays (narrowed). -/
import Derived.Test.YtmoengfpbgpnfaaGB
import Derived.Test.YtmoengfpbgpnfaaGlaw1
import Derived.Test.YtmoengfpbgpnfaaL2
import Derived.IntWalk
namespace Go.Proofs.Ytmoengfpbgpnfaa
open Go.RowKit Go.Shelf
attribute [local go_sem] Oper.semAt_some
set_option linter.unusedVariables false

theorem use_cells {w : World} {base : Nat} {v : Value} {L : List (Nat × Nat)} (h : OwnL encU w base 39 2 v L) {k : Nat} (hk : k < L.length) :
    ∃ g cap, v = .slice (some ⟨g, 0, none⟩) L.length cap ∧ base ≤ g ∧ g < w.heap.size ∧ w.cell? ⟨g, k * 2, none⟩ = some (.int .i64 (L[k].1 : Nat)) ∧ w.cell? ⟨g, k * 2 + 1, none⟩ = some (.int .i64 (L[k].2 : Nat)) := by
  obtain ⟨ao, cap, hv, hs⟩ := h.sla (E := fun _ cs x => cs = encU x) encU_len (fun _ _ => rfl)
  rcases h.form with ⟨_, rfl⟩ | ⟨g, cap2, cells, hv2, _, _, _, _, hb, hl, _⟩
  · simp at hk
  · rw [hv2] at hv
    injection hv with e1 e2 e3
    subst e1
    obtain ⟨cs, _, h6, rfl⟩ := hs.get k hk
    have h7 := h6 0 (by omega)
    have h8 := h6 1 (by omega)
    rw [Nat.zero_add, Nat.add_zero] at h7
    rw [Nat.zero_add] at h8
    exact ⟨g, cap2, hv2, hb, hl, h7, h8⟩

theorem use_prefix {ops : List TOp} {fr : Int} {L : List (Nat × Nat)} {pre : List (UseOf ops fr)} {x : UseOf ops fr} (h : (pre ++ [x]).map (·.1) <+: L) : L[pre.length]? = some x.1 := by
  obtain ⟨r, hr⟩ := h
  rw [← hr, List.map_append, List.append_assoc, List.getElem?_append_right (by simp)]
  simp

/-- The state of GraphWays behind Uses. -/
structure WSt (w : World) (lb nb n cap m : Nat) (ao : Option Addr) (lv : Value) (L : List (Nat × Nat)) (k : Nat) (res : Bool) (wr : World) : Prop where
  hd : Hd [(w.heap.size, .slice ao n cap, 24), (w.heap.size + 1, .int .i64 m, 3), (w.heap.size + 2, .bool res, 4), (lb, lv, 32), (nb, .int .i64 k, 3)] wr
  own : OwnL encU wr w.heap.size 39 2 lv L
  bel : Below w.heap.size w wr
  o1 : w.heap.size + 2 < lb
  o2 : lb < nb
namespace WSt
variable {w : World} {lb nb n cap m : Nat} {ao : Option Addr} {lv : Value} {L : List (Nat × Nat)} {k : Nat} {res : Bool} {wr wr' : World}
theorem keep (h : WSt w lb nb n cap m ao lv L k res wr) (b : Below wr.heap.size wr wr') : WSt w lb nb n cap m ao lv L k res wr' := ⟨h.hd.below b (Nat.le_refl _), h.own.below b (Nat.le_refl _), h.bel.trans (b.mono h.bel.size), h.o1, h.o2⟩
theorem own_from {β : Type} {B : Nat} (F : β → Nat) (hB : w.heap.size ≤ B) : OwnFrom B (fun (s : β) W => WSt w lb nb n cap m ao lv L (F s) res W) := fun s X Y row hs hg hr =>
  ⟨hs.hd.grown hg (fun r e => (hr r e).2), hs.own.chg (Chg.of_grown hg) (fun g e1 e2 => by
      obtain ⟨_, o, h2, h3⟩ := hr g e2
      rcases hs.own.form with ⟨h4, _⟩ | ⟨g', cap2, cells, h4, h5, _⟩
      · rw [h4] at e1; cases e1
      · rw [h4] at e1
        obtain rfl : g' = g := by simpa [Value.ownBlock] using e1
        unfold Blk at h5
        rw [h5] at h2
        cases h2
        cases h3), ownFrom_below (β := β) (Nat.le_refl _) hB s X Y row hs.bel hg hr, hs.o1, hs.o2⟩
theorem nblk (h : WSt w lb nb n cap m ao lv L k res wr) : Blk wr nb #[.int .i64 k] 3 := h.hd.blk (b := nb) (v := .int .i64 k) (T := 3) (by simp)
theorem rblk (h : WSt w lb nb n cap m ao lv L k res wr) : Blk wr (w.heap.size + 2) #[.bool res] 4 := h.hd.blk (b := w.heap.size + 2) (v := .bool res) (T := 4) (by simp)
theorem put (h : WSt w lb nb n cap m ao lv L k res wr) (k' : Nat) : WSt w lb nb n cap m ao lv L k' res (wr.setCell ⟨nb, 0, none⟩ (.int .i64 k')) := by
  have h1 := h.o1
  have h2 := h.o2
  refine ⟨h.hd.set (b := nb) (v := .int .i64 k) (T := 3) (by simp) _ ?_, h.own.chg ((Chg.refl (fun x => x = nb) wr).setCell ⟨nb, 0, none⟩ _ (fun _ => rfl)) (fun g e1 e2 => h.own.ne_blk h.nblk (by decide) (by rw [e1, e2])), h.bel.setCell (p := ⟨nb, 0, none⟩) (by dsimp only; omega) _, h1, h2⟩
  intro p hp
  simp only [List.mem_cons, List.not_mem_nil, or_false] at hp ⊢
  rcases hp with rfl | rfl | rfl | rfl | rfl
  · exact .inr ⟨.inl rfl, by dsimp only; omega⟩
  · exact .inr ⟨.inr (.inl rfl), by dsimp only; omega⟩
  · exact .inr ⟨.inr (.inr (.inl rfl)), by dsimp only; omega⟩
  · exact .inr ⟨.inr (.inr (.inr (.inl rfl))), by dsimp only; omega⟩
  · exact .inl rfl
end WSt

set_option maxRecDepth 100000 in
set_option maxHeartbeats 4000000 in
theorem ways_long (ops : List TOp) (cap : Nat) (ao : Option Addr) (fr mo : Int) (w : World) (hx : SlA w.heap.size 7 (ROp w.heap.size) w ao cap ops) (hl : 100 < ops.length) :
    Calls Try.prog 4 #[.agg #[.slice ao ops.length cap], .int .i64 fr, .int .i64 mo] w fun e w' => e = .returned (.bool true) ∧ Below w.heap.size w w' := by
  obtain ⟨n, hn⟩ : ∃ n, n = ops.length := ⟨_, rfl⟩
  rw [← hn] at hl ⊢
  clear hn
  have hd1 : decide (100 < n) = true := by simpa using hl
  have hd2 : decide ((100 : Int) < (n : Int)) = true := by simp; omega
  refine calls_of_marks Try.func4 rfl ?_
  simp only [Try.ntmps4, List.size_toArray, List.length_cons, List.length_nil, Nat.reduceAdd, Nat.reduceSub, Array.replicate_succ, Array.replicate_zero, List.push_toArray, List.append_toArray, List.nil_append, List.cons_append]
  go_wp2_with fail
  refine (known_any _).mono ?_
  rintro e w1 ⟨rfl, hb1⟩
  have hd1 : Hd [(w.heap.size, .slice ao n cap, 24), (w.heap.size + 1, .int .i64 mo, 3), (w.heap.size + 2, .bool false, 4)] w1 := by
    have := (((Hd.nil w).alloc (.slice ao n cap) 24).alloc (.int .i64 mo) 3).alloc (.bool false) 4
    rw [World.size_alloc, World.size_alloc] at this
    exact (this.below hb1 (Nat.le_refl _)).sub (by simp)
  have hbel : Below w.heap.size w w1 := (by repeat (first | exact Below.refl _ _ | assumption | refine below_drewN ?_ _ | refine Below.drew ?_ | (refine Below.setCell ?_ (by first | omega | (simp; omega) | simp) _) | (refine Below.alloc ?_ (by first | omega | (simp; omega) | simp) _) | (refine Below.trans ?_ (Below.mono (by assumption) (by first | omega | (simp; omega) | simp)))))
  clear hb1
  have cg := hd1.cell (b := w.heap.size) (v := .slice ao n cap) (T := 24) (by simp)
  go_wp2_with fail
  refine (known_any _).mono ?_
  rintro e w2 ⟨rfl, hb2⟩
  have hd2 := hd1.below hb2 (Nat.le_refl _)
  have hres := hd2.blk (b := w.heap.size + 2) (v := .bool false) (T := 4) (by simp)
  have hbel2 := hbel.trans (hb2.mono hbel.size)
  clear hb2 hd1 hbel cg w1
  have ce := hres.cellAt (i := 0) (v := .bool false) rfl
  have cf := hres.frozen 0
  go_wp2_with fail
  have hb5 : Below w.heap.size w (w2.setCell ⟨w.heap.size + 2, 0, none⟩ (.bool true)) := hbel2.setCell (by simp) _
  have hr5 := (hres.set 0 (.bool true)).cellAt (i := 0) (v := .bool true) rfl
  refine leavesM_marks [] _ trivial hb5.size (fun w' hs => ?_)
  have hr6 := hs.cell hr5
  exact ⟨.bool true, by simp [results, Try.results4, go_sem, hr6], rfl, hb5.trans hs.below⟩

theorem most_ok (mo : Int) : ∃ mm : Nat, 1 ≤ mm ∧ mm ≤ 4 ∧ wrap64 (1 + wrap64 ((IntKind.u64.wrap mo).tmod 4)) = (mm : Int) := by
  have h0 : 0 ≤ IntKind.u64.wrap mo := by
    show 0 ≤ mo % 18446744073709551616
    omega
  generalize IntKind.u64.wrap mo = u at h0
  have h1 : u.tmod 4 = u % 4 := Int.tmod_eq_emod_of_nonneg h0
  rw [h1]
  have h2 : 0 ≤ u % 4 ∧ u % 4 < 4 := by omega
  generalize u % 4 = t at h2
  rw [IntWalk.wrap64_in t (by omega), IntWalk.wrap64_in (1 + t) (by omega)]
  exact ⟨(1 + t).toNat, by omega, by omega, by omega⟩

set_option maxRecDepth 100000 in
set_option maxHeartbeats 4000000 in
theorem ways_any (ops : List TOp) (cap : Nat) (ao : Option Addr) (fr mo : Int) (hmo : (Lit.int .i64 mo).wf = true) (w : World) (hx : SlA w.heap.size 7 (ROp w.heap.size) w ao cap ops) (hl : ops.length ≤ 100) (hbd : ((usesL ops fr).length + 1) * 16 ≤ 140737488355328) :
    Calls Try.prog 4 #[.agg #[.slice ao ops.length cap], .int .i64 fr, .int .i64 mo] w fun e w' => e = .returned (.bool true) ∧ Below w.heap.size w w' := by
  have hU := fun W hb => ruses_any ops cap ao fr w.heap.size W (Below.size hb) (imp_ops hx hb) hbd
  obtain ⟨L, hL⟩ : ∃ L, L = usesL ops fr := ⟨_, rfl⟩
  rw [← hL] at hU hbd
  obtain ⟨n, hn⟩ : ∃ n, n = ops.length := ⟨_, rfl⟩
  rw [← hn] at hl hU ⊢
  replace hn := Lib.hid hn
  replace hL := Lib.hid hL
  have hd0 : decide (100 < n) = false := by simp; omega
  have hd0' : decide ((100 : Int) < (n : Int)) = false := by simp; omega
  refine calls_of_marks Try.func4 rfl ?_
  simp only [Try.ntmps4, List.size_toArray, List.length_cons, List.length_nil, Nat.reduceAdd, Nat.reduceSub, Array.replicate_succ, Array.replicate_zero, List.push_toArray, List.append_toArray, List.nil_append, List.cons_append]
  go_wp2_with fail
  refine (known_any _).mono ?_
  rintro e w1 ⟨rfl, hb1⟩
  have hd1 : Hd [(w.heap.size, .slice ao n cap, 24), (w.heap.size + 1, .int .i64 mo, 3), (w.heap.size + 2, .bool false, 4)] w1 := by
    have := (((Hd.nil w).alloc (.slice ao n cap) 24).alloc (.int .i64 mo) 3).alloc (.bool false) 4
    rw [World.size_alloc, World.size_alloc] at this
    exact (this.below hb1 (Nat.le_refl _)).sub (by simp)
  have hbel : Below w.heap.size w w1 := (by repeat (first | exact Below.refl _ _ | assumption | refine below_drewN ?_ _ | refine Below.drew ?_ | (refine Below.setCell ?_ (by first | omega | (simp; omega) | simp) _) | (refine Below.alloc ?_ (by first | omega | (simp; omega) | simp) _) | (refine Below.trans ?_ (Below.mono (by assumption) (by first | omega | (simp; omega) | simp)))))
  clear hb1
  have cg := hd1.cell (b := w.heap.size) (v := .slice ao n cap) (T := 24) (by simp)
  go_wp2_with fail
  refine (hU _ hbel).mono ?_
  rintro e w2 ⟨hb2, lv, rfl, hown⟩
  have hd2 := hd1.below hb2 (Nat.le_refl _)
  have hbel2 := hbel.trans (hb2.mono hbel.size)
  have ho1 : w.heap.size + 2 < w2.heap.size := hd2.lt (b := w.heap.size + 2) (v := .bool false) (T := 4) (by simp)
  replace hown := hown.base_le hbel.size
  clear hb2 hd1 hbel cg hU w1
  have cg := hd2.cell (b := w.heap.size) (v := .slice ao n cap) (T := 24) (by simp)
  have cm := (hd2.blk (b := w.heap.size + 1) (v := .int .i64 mo) (T := 3) (by simp)).cellAt (i := 0) (v := .int .i64 mo) rfl
  have cmf := (hd2.blk (b := w.heap.size + 1) (v := .int .i64 mo) (T := 3) (by simp)).frozen 0
  obtain ⟨lao, lcap, rfl, hlc, hlm⟩ := hown.slice
  replace hlm := hlm.1
  obtain ⟨ll, hll⟩ : ∃ ll, ll = L.length := ⟨_, rfl⟩
  rw [← hll] at hown hlc hbd ⊢
  replace hll := Lib.hid hll
  go_upto_region 4 with fail
  have hd3 := hd2.alloc (.slice lao ll lcap) 32
  have hbel3 := hbel2.alloc hbel2.size (.cells #[.slice lao ll lcap] 32)
  have hown3 := hown.alloc (.cells #[.slice lao ll lcap] 32)
  obtain ⟨lb, hlb⟩ : ∃ lb, lb = w2.heap.size := ⟨_, rfl⟩
  rw [← hlb] at hd3 ho1 ⊢
  generalize w2.alloc (.cells #[.slice lao ll lcap] 32) = w3 at hd3 hbel3 hown3 ⊢
  clear hd2 hbel2 hown cg cm cmf hlb w2
  have cg := hd3.cell (b := w.heap.size) (v := .slice ao n cap) (T := 24) (by simp)
  have cm := (hd3.blk (b := w.heap.size + 1) (v := .int .i64 mo) (T := 3) (by simp)).cellAt (i := 0) (v := .int .i64 mo) rfl
  have cmf := (hd3.blk (b := w.heap.size + 1) (v := .int .i64 mo) (T := 3) (by simp)).frozen 0
  go_upto_region 5 with fail
  obtain ⟨mm, hm1, hm2, hme⟩ := most_ok mo
  rw [hme]
  have hb1 := hd3.blk (b := w.heap.size + 1) (v := .int .i64 mo) (T := 3) (by simp)
  have hd4 : Hd [(w.heap.size, .slice ao n cap, 24), (w.heap.size + 1, .int .i64 mm, 3), (w.heap.size + 2, .bool false, 4), (lb, .slice lao ll lcap, 32)] (w3.setCell ⟨w.heap.size + 1, 0, none⟩ (.int .i64 mm)) := by
    refine hd3.set (b := w.heap.size + 1) (v := .int .i64 mo) (T := 3) (by simp) _ ?_
    intro p hp
    simp only [List.mem_cons, List.not_mem_nil, or_false] at hp ⊢
    rcases hp with rfl | rfl | rfl | rfl
    · exact .inr ⟨.inr (.inl rfl), by dsimp only; omega⟩
    · exact .inl rfl
    · exact .inr ⟨.inr (.inr (.inr rfl)), by dsimp only; omega⟩
    · exact .inr ⟨.inl rfl, by dsimp only; omega⟩
  have hbel4 := hbel3.setCell (p := ⟨w.heap.size + 1, 0, none⟩) (by simp) (.int .i64 mm)
  have hown4 := hown3.chg ((Chg.refl (fun x => x = w.heap.size + 1) w3).setCell ⟨w.heap.size + 1, 0, none⟩ (.int .i64 mm) (fun _ => rfl)) (fun g e1 e2 => hown3.ne_blk hb1 (by decide) (by rw [e1, e2]))
  generalize w3.setCell ⟨w.heap.size + 1, 0, none⟩ (.int .i64 mm) = w4 at hd4 hbel4 hown4 ⊢
  clear hb1 hd3 hbel3 hown3 hme cg cm cmf w3
  go_upto_region 6 with fail
  have hW : WSt w lb w4.heap.size n cap mm ao (.slice lao ll lcap) L 0 false (w4.alloc (.cells #[.int .i64 0] 3)) :=
    ⟨(hd4.alloc (.int .i64 0) 3).sub (by simp), hown4.alloc _, hbel4.alloc hbel4.size _, ho1, hd4.lt (b := lb) (v := .slice lao ll lcap) (T := 32) (by simp)⟩
  generalize w4.alloc (.cells #[.int .i64 0] 3) = w5 at hW ⊢
  generalize w4.heap.size = nb at hW ⊢
  clear hd4 hbel4 hown4 w4
  have cg := hW.hd.cell (b := w.heap.size) (v := .slice ao n cap) (T := 24) (by simp)
  go_wp2_with fail
  refine (callsIn_wide.1 (uses_in Fence.wide 8 trivial rfl ao n cap fr w5)).mono ?_
  rintro e w7 ⟨rfl, hw7⟩
  clear cg
  have hbe : Below w5.heap.size w5 w7 := by rw [hw7]; exact ((Below.refl _ _).alloc (Nat.le_refl _) _).alloc (by simp) _
  have hW7 := hW.keep hbe
  have hu := ((Hd.nil w5).alloc (.slice ao n cap) 24).alloc (.int .i64 fr) 3
  rw [World.size_alloc, ← hw7] at hu
  have hnbl : nb < w5.heap.size := hW.nblk.lt
  have hub3 := hW.bel.size
  have hul := hbe.size
  generalize w5.heap.size = ub at hu hub3 hnbl ⊢
  clear hw7 hW hbe
  go_upto_region 100 with fail
  have c1 := hu.cell (b := ub) (v := .slice ao n cap) (T := 24) (by simp)
  have c2 := hu.cell (b := ub + 1) (v := .int .i64 fr) (T := 3) (by simp)
  have hu1l : ub < w7.heap.size := World.lt_of_cell c1
  have hu2l : ub + 1 < w7.heap.size := World.lt_of_cell c2
  rw [hn.out] at c1
  have hsq := uses_stops Fence.wide (8 - 1) trivial rfl (by omega) ub (ub + 1) w.heap.size (fun i => i < w.heap.size ∨ i = ub + 1) ops ao cap fr w7
    (fun i hi => .inl hi) (.inr rfl) (fun i hi => by have := hW7.bel.size; rcases hi with hi | rfl <;> omega) hu1l (imp_ops hx hW7.bel) c1 c2
  have hx0 : WSt w lb nb n cap mm ao (.slice lao ll lcap) L ([] : List (UseOf ops fr)).length false w7 := hW7
  refine (wpIn_wide (n := 8)).1 ?_
  refine wpIn_rangeFunc_ownG (α := UseOf ops fr) rfl (by omega) (gf := 21) (lb := #[.pointer (some ⟨ub, 0, none⟩), .pointer (some ⟨ub + 1, 0, none⟩)]) rfl trivial (enters_of Try.func21 (by kernel_rfl) rfl)
    hsq KeepS.trans (fun W l o o' h1 h2 h3 h4 => keepS_put o' (by have := hW7.bel.size; rintro (h | h) <;> omega)) (Below.refl _ _) (fun _ => rfl)
    (fun pre W => (WSt w lb nb n cap mm ao (.slice lao ll lcap) L pre.length false W ∧ pre.length < mm) ∧ ub + 1 < W.heap.size)
    (fun c pre W => (WSt w lb nb n cap mm ao (.slice lao ll lcap) L pre.length false W ∧ pre.length = mm ∧ c = .exit 0) ∨ (c = .ret ∧ ¬ (pre.map (·.1) <+: L)))
    (OwnFrom.and (OwnFrom.and (WSt.own_from _ hW7.bel.size) (fun s X Y row hs hg hr => hs)) (fun s X Y row hs hg hr => Nat.lt_of_lt_of_le hs hg.size)) ?own2 ⟨⟨hx0, (show 0 < mm by omega)⟩, hu2l⟩ ?a1 ?assign ?body ?done ?stop
  case own2 =>
    rintro c s X Y row (⟨h1, h2⟩ | h) hg hr
    · exact .inl ⟨WSt.own_from (fun s : List (UseOf ops fr) => s.length) hW7.bel.size s X Y row h1 hg hr, h2⟩
    · exact .inr h
  case assign =>
    intro l x W K hK
    gi_wp2
    exact hK
  case body =>
    rintro l pre x W ⟨⟨hW8, hpm⟩, hz8⟩ _
    have hpx : ((pre ++ [x]).map (·.1) <+: L) → L[pre.length]? = some x.1 := use_prefix
    have hpl1 : (pre ++ [x]).length = pre.length + 1 := by simp
    obtain ⟨px, hpxe⟩ : ∃ px, px = pre ++ [x] := ⟨_, rfl⟩
    rw [← hpxe] at hpx hpl1 ⊢
    obtain ⟨⟨i, kx⟩, hxu⟩ := x
    dsimp only at hpx ⊢
    obtain ⟨k, hk⟩ : ∃ k, k = pre.length := ⟨_, rfl⟩
    rw [← hk] at hW8 hpm hpx hpl1
    replace hpx := Lib.hid hpx
    replace hpl1 := Lib.hid hpl1
    clear hk hpxe hxu
    have hnb := hW8.nblk
    have hrb := hW8.rblk
    have cn := hnb.cellAt (i := 0) (v := .int .i64 k) rfl
    have cnf := hnb.frozen 0
    have cl := hW8.hd.cell (b := lb) (v := .slice lao ll lcap) (T := 32) (by simp)
    have cm := hW8.hd.cell (b := w.heap.size + 1) (v := .int .i64 mm) (T := 3) (by simp)
    have cr := hrb.cellAt (i := 0) (v := .bool false) rfl
    have crf := hrb.frozen 0
    have hbz := hW8.bel.size
    have ho2 := hW8.o2
    have hret : KeepsFrom w7.heap.size W (W.setCell ⟨w.heap.size + 2, 0, none⟩ (.bool false)) := keepsFrom_of_chg ((Chg.refl (fun x => x = w.heap.size + 2) W).setCell ⟨w.heap.size + 2, 0, none⟩ (.bool false) (fun _ => rfl)) (fun j hj _ => by rw [hj]; exact ⟨_, _, _, hrb⟩)
    replace hret := Lib.hid hret
    by_cases hkl : k < ll
    · have hkL : k < L.length := by rw [← hll.out]; exact hkl
      obtain ⟨g, cap2, he, hg1, hg2, cu1, cu2⟩ := use_cells hW8.own hkL
      injection he with e1 e2 e3
      subst e1
      obtain ⟨u1, hu1⟩ : ∃ u, u = L[k].1 := ⟨_, rfl⟩
      obtain ⟨u2, hu2⟩ : ∃ u, u = L[k].2 := ⟨_, rfl⟩
      rw [← hu1] at cu1
      rw [← hu2] at cu2
      have hpe : (px.map (·.1) <+: L) → u1 = i ∧ u2 = kx := fun h => by
        have h1 := hpx.out h
        rw [List.getElem?_eq_getElem hkL] at h1
        have h2 := Option.some.inj h1
        rw [hu1, hu2, h2]
        exact ⟨rfl, rfl⟩
      replace hpe := Lib.hid hpe
      clear e2 e3 hu1 hu2
      have d1 : decide (ll ≤ k) = false := by simp; omega
      have d2 : decide ((ll : Int) ≤ (k : Int)) = false := by simp; omega
      by_cases hq1 : u1 = i
      · have q1 : ((u1 : Int) != (i : Int)) = false := by simp; omega
        clear hq1
        by_cases hq2 : u2 = kx
        · have q2 : ((u2 : Int) != (kx : Int)) = false := by simp; omega
          clear hq2 hpe
          have hcx : Chg (fun x => x = nb) W (W.setCell ⟨nb, 0, none⟩ (.int .i64 ((k + 1 : Nat) : Int))) := (Chg.refl (fun x => x = nb) W).setCell _ _ (fun _ => rfl)
          have hput := hW8.put (k + 1)
          have hkf : KeepsFrom w7.heap.size W (W.setCell ⟨nb, 0, none⟩ (.int .i64 ((k + 1 : Nat) : Int))) := keepsFrom_of_chg hcx (fun j hj _ => by rw [hj]; exact ⟨_, _, _, hnb⟩)
          have hks : KeepS (fun i => i < w.heap.size ∨ i = ub + 1) W (W.setCell ⟨nb, 0, none⟩ (.int .i64 ((k + 1 : Nat) : Int))) := keepS_chg hcx (fun j hj => by have := hW8.o1; rcases hj with hj | rfl <;> omega)
          have hz9 : ub + 1 < (W.setCell ⟨nb, 0, none⟩ (.int .i64 ((k + 1 : Nat) : Int))).heap.size := Nat.lt_of_lt_of_le hz8 hcx.size
          rw [show ((k + 1 : Nat) : Int) = (k : Int) + 1 by omega] at hput hkf hks hz9
          replace hput := Lib.hid hput
          replace hkf := Lib.hid hkf
          replace hks := Lib.hid hks
          replace hz9 := Lib.hid hz9
          clear hcx
          by_cases hkm : k + 1 = mm
          · have q3 : ((k : Int) + 1 == (mm : Int)) = true := by simp; omega
            have hpm2 : px.length = mm := by rw [hpl1.out, hkm]
            replace hpm2 := Lib.hid hpm2
            clear hkm
            gi_wp2
            exact ⟨hkf.out, .inl ⟨by rw [hpl1.out]; exact hput.out, hpm2.out, rfl⟩⟩
          · have q3 : ((k : Int) + 1 == (mm : Int)) = false := by simp; omega
            have hpm2 : px.length < mm := by rw [hpl1.out]; omega
            replace hpm2 := Lib.hid hpm2
            clear hkm
            gi_wp2
            exact ⟨hkf.out, hks.out, ⟨⟨by rw [hpl1.out]; exact hput.out, hpm2.out⟩, hz9.out⟩⟩
        · have q2 : ((u2 : Int) != (kx : Int)) = true := by simp; omega
          have hnp : Hid (¬ (px.map (·.1) <+: L)) := Lib.hid (fun h => hq2 (hpe.out h).2)
          clear hq2
          gi_wp2
          exact ⟨hret.out, .inr ⟨rfl, hnp.out⟩⟩
      · have hq : ((u1 : Int) != (i : Int)) = true := by simp; omega
        have hnp : Hid (¬ (px.map (·.1) <+: L)) := Lib.hid (fun h => hq1 (hpe.out h).1)
        clear hq1
        gi_wp2
        exact ⟨hret.out, .inr ⟨rfl, hnp.out⟩⟩
    · have hnp : Hid (¬ (px.map (·.1) <+: L)) := Lib.hid (fun h => by
        have h1 := hpx.out h
        obtain ⟨h2, _⟩ := List.getElem?_eq_some_iff.1 h1
        rw [← hll.out] at h2
        exact hkl h2)
      have d1 : decide (ll ≤ k) = true := by simp; omega
      have d2 : decide ((ll : Int) ≤ (k : Int)) = true := by simp; omega
      clear hkl
      gi_wp2
      exact ⟨hret.out, .inr ⟨rfl, hnp.out⟩⟩
  case' done =>
    rintro D ys W hD hys ⟨⟨hW8, hlt⟩, _⟩ hK
    have hyl : ys.length = ll := by rw [hll.out, hL.out, ← hys, List.length_map]
    rw [hyl] at hW8 hlt
    have hqq : ((ll : Int) != (ll : Int)) = false := by simp
    have cn := hW8.nblk.cellAt (i := 0) (v := .int .i64 ll) rfl
    have hlt2 : (ll : Int) < (mm : Int) := by omega
    clear hys hyl
    dsimp only
  case' stop =>
    rintro D c pre W hD hpre (⟨hW8, hpl, rfl⟩ | ⟨_, hnp⟩) hK
    rotate_left
    · exact absurd (by rw [hL.out]; exact hpre) hnp
    have hlt : mm ≤ ll := by
      have h1 := hpre.length_le
      rw [List.length_map, hpl, ← hL.out, ← hll.out] at h1
      exact h1
    rw [hpl] at hW8
    have hqq : ((mm : Int) != (mm : Int)) = false := by simp
    have cn := hW8.nblk.cellAt (i := 0) (v := .int .i64 mm) rfl
    have hlt2 : ¬ (ll : Int) < (mm : Int) := by omega
    have hlt3 : ¬ ll < mm := by omega
    replace hlt := hlt3
    clear hlt3 hpre hpl
    refine (wpIn_wide (n := 8)).2 ?_
    dsimp only
  all_goals
    have hrb := hW8.rblk
    have cl := hW8.hd.cell (b := lb) (v := .slice lao ll lcap) (T := 32) (by simp)
    have cm := hW8.hd.cell (b := w.heap.size + 1) (v := .int .i64 mm) (T := 3) (by simp)
    have cr := hrb.cellAt (i := 0) (v := .bool false) rfl
    have crf := hrb.frozen 0
    have cg := hW8.hd.cell (b := w.heap.size) (v := .slice ao n cap) (T := 24) (by simp)
    have hbz7 := hW7.bel.size
    clear hsq c1 c2 hu1l hu2l hu hx0 hW7
    go_upto_region 15 with fail
    have hM : Marks w.heap.size [{ target := .collected D, args := #[] }] W := ⟨D, rfl, by have := hbz7; omega, hK, by simp, trivial⟩
    obtain ⟨ds, hds⟩ : ∃ ds : List Deferred, ds = [{ target := .collected D, args := #[] }] := ⟨_, rfl⟩
    rw [← hds] at hM ⊢
    have hbel := hW8.bel
    have hd := hW8.hd
    replace hd : Hd [(w.heap.size, .slice ao n cap, 24), (w.heap.size + 2, .bool false, 4)] W := hd.sub (by simp)
    have hqn : ((n : Int) != (n : Int)) = false := by simp
    clear hds hrb cn cl cm cr crf hqq hW8 hK hD hlt hlt2
    by_cases hok : (gcheck ops).2 = 0
    · have hG := okG_of_check hok
      have hpos := hG.pos
      rw [← hn.out] at hpos
      have hR := reaches_ok ops cap ao W w.heap.size hbel.size (imp_ops hx hbel) hok
      rw [← hn.out] at hR
      obtain ⟨gb, goff, rfl, hgb, _⟩ := hx.addr (by rw [← hn.out]; omega)
      have hrr := fun (a b : Nat) W hb (h1 : b < ops.length) (h2 : a < ops.length) => rreach_any ops cap gb goff w.heap.size hG (b + 1) b a W (by omega) (Below.size hb) (imp_ops hx hb) h1 h2
      rw [← hn.out] at hrr
      replace hG := Lib.hid hG
      replace hrr := Lib.hid hrr
      go_wp2_with fail
      refine hR.mono ?_
      rintro e w9 ⟨v, rfl, ⟨hb, rs, rfl, hP⟩, hb9⟩
      have hd9 := hd.below hb9 (Nat.le_refl _)
      have hbel9 := hbel.trans (hb9.mono hbel.size)
      have hM9 := hM.chg (Chg.of_below hb9) (fun k hk x => by
        intro h
        have := (Array.getElem?_eq_some_iff.1 h).1
        omega)
      have hCk := rcheck_all ops cap (some ⟨gb, goff, none⟩) w9 w.heap.size hbel9.size (imp_ops hx hbel9)
      rw [← hn.out, hok] at hCk
      generalize (gcheck ops).1 = ci at hCk
      clear hR cg hd hbel hM hb9
      have cg := hd9.cell (b := w.heap.size) (v := .slice (some ⟨gb, goff, none⟩) n cap) (T := 24) (by simp)
      dsimp only
      go_wp2_with fail
      refine hCk.mono ?_
      rintro e w10 ⟨rfl, hb10⟩
      have hd10 := hd9.below hb10 (Nat.le_refl _)
      have hbel10 := hbel9.trans (hb10.mono hbel9.size)
      have hP10 := hP.below hb10 (Nat.le_refl _)
      have hM10 := hM9.chg (Chg.of_below hb10) (fun k hk x => by
        intro h
        have := (Array.getElem?_eq_some_iff.1 h).1
        omega)
      clear hCk cg hd9 hbel9 hM9 hP hb10
      have cg := hd10.cell (b := w.heap.size) (v := .slice (some ⟨gb, goff, none⟩) n cap) (T := 24) (by simp)
      have hsz := hbel10.size
      dsimp only
      go_wp2_with fail
      go_loopw [14] (fun x wr => ∃ a : Nat, a ≤ n ∧ x = .int .i64 a ∧ Below w10.heap.size w10 wr) (fun x _ => n - (intOf x).toNat)
      case atStart => exact ⟨0, Nat.zero_le _, rfl, Below.refl _ _⟩
      case round =>
        clear cg
        obtain ⟨a, han, rfl, hb7⟩ := hrel
        by_cases hai : a < n
        · have cg := (hd10.below hb7 (Nat.le_refl _)).cell (b := w.heap.size) (v := .slice (some ⟨gb, goff, none⟩) n cap) (T := 24) (by simp)
          obtain ⟨r2, hr3, c1⟩ := (hP10.below hb7 (Nat.le_refl _)).hcell (Nat.zero_le a) hai
          clear hr3
          go_wp2_with fail
          refine wp_region_quiet_tail 8 (by kernel_rfl) (by kernel_rfl) ?_
          simp only [List.take_succ_cons, List.take_zero, List.drop_succ_cons, List.drop_zero]
          repeat (go_big_quiet_step (fail))
          refine wpQuiet_nil ?_
          intro _ hw'
          obtain ⟨nq, hw''⟩ := hw'
          subst hw''
          go_wp2_with fail
          have hb70 := below_drewN hb7 nq
          clear hb7
          go_loopw [15] (fun x wr => ∃ c : Nat, c ≤ n ∧ x = .int .i64 c ∧ Below w10.heap.size w10 wr) (fun x _ => n - (intOf x).toNat)
          case atStart => exact ⟨0, Nat.zero_le _, rfl, hb70⟩
          case round =>
            clear hb70 cg c1
            obtain ⟨c, hcn, rfl, hb7⟩ := hrel
            obtain ⟨r2, hr3, c1⟩ := (hP10.below hb7 (Nat.le_refl _)).hcell (Nat.zero_le a) hai
            have hbw := hbel10.trans (hb7.mono hsz)
            have hsw := hbw.size
            have hs7 := hb7.size
            have cg := (hd10.below hb7 (Nat.le_refl _)).cell (b := w.heap.size) (v := .slice (some ⟨gb, goff, none⟩) n cap) (T := 24) (by simp)
            by_cases hcl : c < n
            · have c2 := (hP10.below hb7 (Nat.le_refl _)).rcell (Nat.zero_le a) hr3 hcl
              have q1 := Wd.cell c1 (World.lt_of_cell c1)
              have q2 := Wd.cell c2 (World.lt_of_cell c2)
              have q3 := Wd.cell cg (World.lt_of_cell cg)
              have hcall := fun W hb => hrr.out a c W hb hcl hai
              generalize rch ops a c = vv at c2 q2 hcall
              have hvv : (vv != vv) = false := by simp
              clear hr3
              go_wp2_with fail
              refine wp_region_below (by kernel_rfl) (by kernel_rfl) ?_
              repeat (go_big_quiet_step ((go_at_call 14; exact Calls.quiet_below (hcall _ (hbw.trans (Below.mono (Wd.h _) hsw))))))
              refine wpQuiet_nil ?_
              rintro _ ⟨u, rfl⟩
              have hbu := hb7.trans (u.h.mono hs7)
              go_wp2_with fail
              go_roundw
              case rel => exact ⟨c + 1, by omega, by go_num, hbu⟩
              case measure => simp [intOf]; omega
            · clear hr3
              go_wp2_with fail
              go_roundw
              case rel => exact ⟨a + 1, by omega, by go_num, hb7⟩
              case measure => simp [intOf]; omega
        · have hbw := hbel10.trans (hb7.mono hsz)
          have hM11 := hM10.chg (Chg.of_below hb7) (fun k hk x => by
            intro h
            have := (Array.getElem?_eq_some_iff.1 h).1
            omega)
          have hres := (hd10.below hb7 (Nat.le_refl _)).blk (b := w.heap.size + 2) (v := .bool false) (T := 4) (by simp)
          have ce := hres.cellAt (i := 0) (v := .bool false) rfl
          have cf := hres.frozen 0
          go_wp2_with fail
          have hb5 : Below w.heap.size w (wr.setCell ⟨w.heap.size + 2, 0, none⟩ (.bool true)) := hbw.setCell (by simp) _
          have hM5 := hM11.chg ((Chg.refl (fun k => k = w.heap.size + 2) wr).setCell ⟨w.heap.size + 2, 0, none⟩ (.bool true) (fun _ => rfl)) (fun k e x => by rw [e]; exact hres.noDef x)
          have hr5 := (hres.set 0 (.bool true)).cellAt (i := 0) (v := .bool true) rfl
          refine leavesM_marks _ _ hM5 hb5.size (fun w' hs => ?_)
          have hr6 := hs.cell hr5
          exact ⟨.bool true, by simp [results, Try.results4, go_sem, hr6], rfl, hb5.trans hs.below⟩
    · have hR := reaches_no ops cap ao W w.heap.size hbel.size (imp_ops hx hbel) hok
      rw [← hn.out] at hR
      go_wp2_with fail
      refine hR.mono ?_
      rintro e w9 ⟨rfl, hb9⟩
      have hd9 := hd.below hb9 (Nat.le_refl _)
      have hbel9 := hbel.trans (hb9.mono hbel.size)
      have hM9 := hM.chg (Chg.of_below hb9) (fun k hk x => by
        intro h
        have := (Array.getElem?_eq_some_iff.1 h).1
        omega)
      have hCk := rcheck_all ops cap ao w9 w.heap.size hbel9.size (imp_ops hx hbel9)
      rw [← hn.out] at hCk
      generalize (gcheck ops).1 = ci at hCk
      generalize (gcheck ops).2 = cj at hCk hok
      have hne : (cj != 0) = true := by simpa using hok
      have hne2 : ((cj : Int) != 0) = true := by simpa using hok
      clear hR cg hd hbel hM hb9 hok
      have cg := hd9.cell (b := w.heap.size) (v := .slice ao n cap) (T := 24) (by simp)
      dsimp only
      go_wp2_with fail
      refine hCk.mono ?_
      rintro e w10 ⟨rfl, hb10⟩
      have hbel10 := hbel9.trans (hb10.mono hbel9.size)
      have hM10 := hM9.chg (Chg.of_below hb10) (fun k hk x => by
        intro h
        have := (Array.getElem?_eq_some_iff.1 h).1
        omega)
      have hres := (hd9.below hb10 (Nat.le_refl _)).blk (b := w.heap.size + 2) (v := .bool false) (T := 4) (by simp)
      have ce := hres.cellAt (i := 0) (v := .bool false) rfl
      have cf := hres.frozen 0
      clear hCk cg
      dsimp only
      go_wp2_with fail
      have hb5 : Below w.heap.size w (w10.setCell ⟨w.heap.size + 2, 0, none⟩ (.bool true)) := hbel10.setCell (by simp) _
      have hM5 := hM10.chg ((Chg.refl (fun k => k = w.heap.size + 2) w10).setCell ⟨w.heap.size + 2, 0, none⟩ (.bool true) (fun _ => rfl)) (fun k e x => by rw [e]; exact hres.noDef x)
      have hr5 := (hres.set 0 (.bool true)).cellAt (i := 0) (v := .bool true) rfl
      refine leavesM_marks _ _ hM5 hb5.size (fun w' hs => ?_)
      have hr6 := hs.cell hr5
      exact ⟨.bool true, by simp [results, Try.results4, go_sem, hr6], rfl, hb5.trans hs.below⟩

theorem insK_le (i : Nat) (ins : List Int) (fr : Int) : ∀ k, (insK i ins fr k).length ≤ k
  | 0 => by simp [insK]
  | k + 1 => by
    have := insK_le i ins fr k
    rw [insK_succ, List.length_append]
    split <;> simp <;> omega
theorem usesK_le {ops : List TOp} (fr : Int) {c : Nat} (h : ∀ o ∈ ops, o.fIn.length ≤ c) : ∀ m, m ≤ ops.length → (usesK ops fr m).length ≤ m * c
  | 0, _ => by simp [usesK]
  | m + 1, hm => by
    have h1 := usesK_le fr h m (by omega)
    have hx : ops[m]? = some ops[m] := List.getElem?_eq_getElem (by omega)
    have h2 := insK_le m ops[m].fIn fr ops[m].fIn.length
    have h3 := h ops[m] (List.getElem_mem (by omega))
    rw [usesK_succ ops fr m _ hx, List.length_append, Nat.succ_mul]
    omega
theorem gways_row {w : World} (cs : Array Value) (x : TGraph) (hx : RGraph w.heap.size w (Value.cells (.agg cs)).toList x) (hzi : ∀ o ∈ x.fOps, o.fIn.length ≤ 1048576) (fr : Int) (hfr : (Lit.int .i64 fr).wf = true) (mo : Int) (hmo : (Lit.int .i64 mo).wf = true) :
    Calls Try.prog 4 #[.agg cs, .int .i64 fr, .int .i64 mo] w fun e w' => e = .returned (.bool true) ∧ Below w.heap.size w w' := by
  obtain ⟨ao, cap, rfl, hs⟩ := graph_agg hx
  by_cases hl : 100 < x.fOps.length
  · exact ways_long x.fOps cap ao fr mo w hs hl
  · have h1 : (usesL x.fOps fr).length ≤ x.fOps.length * 1048576 := usesK_le fr hzi _ (Nat.le_refl _)
    exact ways_any x.fOps cap ao fr mo hmo w hs (by omega) (by omega)
end Go.Proofs.Ytmoengfpbgpnfaa
