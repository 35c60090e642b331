/- Gossip, the document's side: its gossip as it lies; Waiting. -/
import Derived.Test.YtjmbafcpbagpdaaGreatH0
import Derived.Test.YtjmbafcpbagpdaaGreatJ12
import Derived.Test.YtjmbafcpbagpdaaGreatJ13
namespace Go.Proofs.YtjmbafcpbagpdaaGreat
open Go.RowKit Go.Shelf Go.Maps
attribute [local go_sem] Oper.semAt_some
set_option linter.unusedVariables false
set_option linter.unusedSimpArgs false

/-- A list of counts that stands still, in blocks of Z. -/
structure LiZ (w : World) (Z : Nat → Prop) (a : Option Addr) (c : Nat) (l : List TCount) : Prop where
  sla : SlA w.heap.size 4 (RCount w.heap.size) w a c l
  inZ : ∀ d, a = some d → Z d.block
/-- A list and where it lies. -/
structure TRow where
  a : Option Addr
  c : Nat
  l : List TCount
def encW2 (t : TRow) : List Value := [.slice t.a t.l.length t.c]
theorem encW2_len (t : TRow) : (encW2 t).length = 1 := rfl
theorem encW2_one (t : TRow) : ∀ u ∈ encW2 t, u.oneCell' = true := by
  intro u hu
  simp only [encW2, List.mem_singleton] at hu
  subst hu
  rfl
/-- A row of such lists. -/
def WyZ (w : World) (Z : Nat → Prop) (a : Option Addr) (c : Nat) (Ls : List (List TCount)) : Prop :=
  ∃ ts : List TRow, SlA w.heap.size 1 (fun _ cs x => cs = encW2 x) w a c ts ∧ ts.map (·.l) = Ls ∧ (∀ t ∈ ts, LiZ w Z t.a t.c t.l) ∧ (∀ d, a = some d → Z d.block)
theorem sla_base {α : Type} {B B' sz : Nat} {E : World → List Value → α → Prop} {w : World} {ao : Option Addr} {cap : Nat} {xs : List α} (h : SlA B sz E w ao cap xs) (hB : B ≤ B') : SlA B' sz E w ao cap xs := by
  obtain ⟨h1, h2, h3, h4⟩ := h
  refine ⟨h1, h2, h3, fun hne => ?_⟩
  obtain ⟨b, off, e, hb, h5⟩ := h4 hne
  exact ⟨b, off, e, by omega, h5⟩
theorem rcount_free {B B' : Nat} {w w' : World} {cs : List Value} {x : TCount} (h : RCount B w cs x) : RCount B' w' cs x := h
theorem LiZ.chg {w w' : World} {Z : Nat → Prop} {a : Option Addr} {c : Nat} {l : List TCount} {S : Nat → Prop} (h : LiZ w Z a c l) (hc : Chg S w w') (hS : ∀ k, Z k → ¬ S k) : LiZ w' Z a c l :=
  ⟨sla_base (slaChgJ h.sla hc (Nat.le_refl _) (fun _ d e => hS _ (h.inZ d e)) (fun _ _ _ h => rcount_free h)) hc.size, h.inZ⟩
theorem LiZ.sub {w : World} {Z Z' : Nat → Prop} {a : Option Addr} {c : Nat} {l : List TCount} (h : LiZ w Z a c l) (hZ : ∀ k, Z k → Z' k) : LiZ w Z' a c l := ⟨h.sla, fun d e => hZ _ (h.inZ d e)⟩
theorem WyZ.chg {w w' : World} {Z : Nat → Prop} {a : Option Addr} {c : Nat} {Ls : List (List TCount)} {S : Nat → Prop} (h : WyZ w Z a c Ls) (hc : Chg S w w') (hS : ∀ k, Z k → ¬ S k) : WyZ w' Z a c Ls := by
  obtain ⟨ts, h1, h2, h3, h4⟩ := h
  exact ⟨ts, sla_base (slaChgJ h1 hc (Nat.le_refl _) (fun _ d e => hS _ (h4 d e)) (fun _ _ _ h => h)) hc.size, h2, fun t ht => (h3 t ht).chg hc hS, h4⟩
theorem WyZ.sub {w : World} {Z Z' : Nat → Prop} {a : Option Addr} {c : Nat} {Ls : List (List TCount)} (h : WyZ w Z a c Ls) (hZ : ∀ k, Z k → Z' k) : WyZ w Z' a c Ls := by
  obtain ⟨ts, h1, h2, h3, h4⟩ := h
  exact ⟨ts, h1, h2, fun t ht => (h3 t ht).sub hZ, fun d e => hZ _ (h4 d e)⟩
theorem LiZ.below {w w' : World} {Z : Nat → Prop} {a : Option Addr} {c : Nat} {l : List TCount} (h : LiZ w Z a c l) (hb : Below w.heap.size w w') (hZ : ∀ k, Z k → k < w.heap.size) : LiZ w' Z a c l :=
  h.chg (Chg.of_below hb) (fun k hk e => by have := hZ k hk; omega)
theorem LiZ.nil (w : World) (Z : Nat → Prop) : LiZ w Z none 0 [] := ⟨SlA.nil _ _ _ _, fun d e => (by cases e)⟩
theorem WyZ.nil (w : World) (Z : Nat → Prop) : WyZ w Z none 0 [] := ⟨[], SlA.nil _ _ _ _, rfl, fun t ht => (by cases ht), fun d e => (by cases e)⟩

/-- Where the document's gossip lies. -/
structure RP where
  rb : Nat
  vb : Nat
  vc : Nat
  yb : Nat
  yc : Nat
/-- The document's gossip, with the lists of its views and of its ways. -/
structure RG (w : World) (Z : Nat → Prop) (q : RP) (gv : Value) (n : Nat) (V : Nat → List TCount) (Y : Nat → List (List TCount)) : Prop where
  n1 : 1 ≤ n
  n8 : n ≤ 8
  blk : Blk w q.rb #[gv, .int .i64 n, .slice (some ⟨q.vb, 0, none⟩) (n + 1) q.vc, .slice (some ⟨q.yb, 0, none⟩) (n * n) q.yc] 47
  vwc : n + 1 ≤ q.vc ∧ q.vc ≤ maxLen ∧ n * n ≤ q.yc ∧ q.yc ≤ maxLen
  vws : ∃ cs, Blk w q.vb cs 53 ∧ ∀ i, i < n + 1 → cs[i * 2]? = some gv ∧ ∃ a c, cs[i * 2 + 1]? = some (.slice a (V i).length c) ∧ LiZ w Z a c (V i)
  wys : ∃ cs, Blk w q.yb cs 91 ∧ ∀ i, i < n * n → (∃ f, cs[i * 3]? = some (.int .i64 f)) ∧ (∃ t, cs[i * 3 + 1]? = some (.int .i64 t)) ∧ ∃ a c, cs[i * 3 + 2]? = some (.slice a (Y i).length c) ∧ WyZ w Z a c (Y i)
  ne : q.rb ≠ q.vb ∧ q.rb ≠ q.yb ∧ q.vb ≠ q.yb
  zlt : ∀ k, Z k → k < w.heap.size
  zne : ∀ k, Z k → k ≠ q.rb ∧ k ≠ q.vb ∧ k ≠ q.yb
namespace RG
variable {w w' : World} {Z : Nat → Prop} {q : RP} {gv : Value} {n : Nat} {V : Nat → List TCount} {Y : Nat → List (List TCount)}
theorem chg (h : RG w Z q gv n V Y) {S : Nat → Prop} (hc : Chg S w w') (hS : ∀ k, S k → ¬ Z k ∧ k ≠ q.rb ∧ k ≠ q.vb ∧ k ≠ q.yb) : RG w' Z q gv n V Y := by
  obtain ⟨cs, v1, v2⟩ := h.vws
  obtain ⟨ds, y1, y2⟩ := h.wys
  have hZ : ∀ k, Z k → ¬ S k := fun k hk e => (hS k e).1 hk
  refine ⟨h.n1, h.n8, h.blk.chg hc (fun e => (hS _ e).2.1 rfl), h.vwc, ⟨cs, v1.chg hc (fun e => (hS _ e).2.2.1 rfl), fun i hi => ?_⟩, ⟨ds, y1.chg hc (fun e => (hS _ e).2.2.2 rfl), fun i hi => ?_⟩, h.ne, fun k hk => Nat.lt_of_lt_of_le (h.zlt k hk) hc.size, h.zne⟩
  · obtain ⟨e1, a, c, e2, e3⟩ := v2 i hi
    exact ⟨e1, a, c, e2, e3.chg hc hZ⟩
  · obtain ⟨e1, e2, a, c, e3, e4⟩ := y2 i hi
    exact ⟨e1, e2, a, c, e3, e4.chg hc hZ⟩
theorem below (h : RG w Z q gv n V Y) (hb : Below w.heap.size w w') : RG w' Z q gv n V Y := by
  obtain ⟨cs, v1, _⟩ := h.vws
  obtain ⟨ds, y1, _⟩ := h.wys
  have := h.blk.lt; have := v1.lt; have := y1.lt
  exact h.chg (Chg.of_below hb) (fun k hk => ⟨fun e => by have := h.zlt k e; omega, by omega, by omega, by omega⟩)
theorem sub (h : RG w Z q gv n V Y) {Z' : Nat → Prop} (h1 : ∀ k, Z k → Z' k) (h2 : ∀ k, Z' k → k < w.heap.size) (h3 : ∀ k, Z' k → k ≠ q.rb ∧ k ≠ q.vb ∧ k ≠ q.yb) : RG w Z' q gv n V Y := by
  obtain ⟨cs, v1, v2⟩ := h.vws
  obtain ⟨ds, y1, y2⟩ := h.wys
  refine ⟨h.n1, h.n8, h.blk, h.vwc, ⟨cs, v1, fun i hi => ?_⟩, ⟨ds, y1, fun i hi => ?_⟩, h.ne, h2, h3⟩
  · obtain ⟨e1, a, c, e2, e3⟩ := v2 i hi
    exact ⟨e1, a, c, e2, e3.sub h1⟩
  · obtain ⟨e1, e2, a, c, e3, e4⟩ := y2 i hi
    exact ⟨e1, e2, a, c, e3, e4.sub h1⟩
/-- The cells of the gossip, of a view, of a way. -/
theorem cells (h : RG w Z q gv n V Y) : w.cell? ⟨q.rb, 0, none⟩ = some gv ∧ w.cell? ⟨q.rb, 1, none⟩ = some (.int .i64 n) ∧ w.cell? ⟨q.rb, 2, none⟩ = some (.slice (some ⟨q.vb, 0, none⟩) (n + 1) q.vc) ∧ w.cell? ⟨q.rb, 3, none⟩ = some (.slice (some ⟨q.yb, 0, none⟩) (n * n) q.yc) :=
  ⟨h.blk.cellAt rfl, h.blk.cellAt rfl, h.blk.cellAt rfl, h.blk.cellAt rfl⟩
theorem view (h : RG w Z q gv n V Y) {i : Nat} (hi : i < n + 1) : ∃ a c, TkAt w q.vb (i * 2) gv (.slice a (V i).length c) ∧ LiZ w Z a c (V i) := by
  obtain ⟨cs, v1, v2⟩ := h.vws
  obtain ⟨e1, a, c, e2, e3⟩ := v2 i hi
  exact ⟨a, c, ⟨v1.cellAt e1, v1.cellAt e2⟩, e3⟩
theorem way (h : RG w Z q gv n V Y) {i : Nat} (hi : i < n * n) : ∃ f t a c, w.cell? ⟨q.yb, i * 3, none⟩ = some (.int .i64 f) ∧ w.cell? ⟨q.yb, i * 3 + 1, none⟩ = some (.int .i64 t) ∧ w.cell? ⟨q.yb, i * 3 + 2, none⟩ = some (.slice a (Y i).length c) ∧ WyZ w Z a c (Y i) := by
  obtain ⟨ds, y1, y2⟩ := h.wys
  obtain ⟨⟨f, e1⟩, ⟨t, e2⟩, a, c, e3, e4⟩ := y2 i hi
  exact ⟨f, t, a, c, y1.cellAt e1, y1.cellAt e2, y1.cellAt e3, e4⟩
end RG
def rwaitN (n : Nat) (Y : Nat → List (List TCount)) (a b : Int) : Nat := if (0 ≤ a ∧ a < n) ∧ (0 ≤ b ∧ b < n) then (Y (a.toNat * n + b.toNat)).length else 0
theorem mul_lt {a b n : Nat} (ha : a < n) (hb : b < n) : a * n + b < n * n := by
  have h1 : (a + 1) * n ≤ n * n := Nat.mul_le_mul_right n (by omega)
  rw [Nat.add_mul] at h1
  omega

set_option maxRecDepth 100000 in
set_option maxHeartbeats 2000000 in
theorem rwait_any (a b : Int) {w : World} {Z : Nat → Prop} {q : RP} {gv : Value} {n : Nat} {V : Nat → List TCount} {Y : Nat → List (List TCount)} (h : RG w Z q gv n V Y) :
    Calls Tryz.prog 12 #[.pointer (some ⟨q.rb, 0, none⟩), .int .i64 a, .int .i64 b] w fun e w' => e = .returned (.int .i64 (rwaitN n Y a b)) ∧ Below w.heap.size w w' := by
  obtain ⟨c0, c1, c2, c3⟩ := h.cells
  have h8 := h.n8
  by_cases hab : (0 ≤ a ∧ a < n) ∧ (0 ≤ b ∧ b < n)
  · obtain ⟨k, rfl⟩ : ∃ k : Nat, a = k := ⟨a.toNat, by omega⟩
    obtain ⟨j, rfl⟩ : ∃ j : Nat, b = j := ⟨b.toNat, by omega⟩
    have e : rwaitN n Y k j = (Y (k * n + j)).length := by unfold rwaitN; rw [if_pos hab, Int.toNat_natCast, Int.toNat_natCast]
    rw [e]
    have hx := mul_lt (a := k) (b := j) (n := n) (by omega) (by omega)
    obtain ⟨f, t, ya, yc, y0, y1, y2, hy⟩ := h.way hx
    obtain ⟨r, hr⟩ : ∃ r, r = (Y (k * n + j)).length := ⟨_, rfl⟩
    rw [← hr] at y2 ⊢
    have hk : k < n := by omega
    have hj : j < n := by omega
    have d1 : decide ((k : Int) < 0) = false := by simp
    have d2 : decide ((n : Int) ≤ (k : Int)) = false := by simp; omega
    have d3 : decide ((j : Int) < 0) = false := by simp
    have d4 : decide ((n : Int) ≤ (j : Int)) = false := by simp; omega
    have d5 : decide (n ≤ k) = false := by simp; omega
    have d6 : decide (n ≤ j) = false := by simp; omega
    have hp64 : k * n ≤ 64 := Nat.le_trans (Nat.mul_le_mul (by omega : k ≤ 8) h8) (by omega)
    obtain ⟨p, hp⟩ : ∃ p, p = k * n := ⟨_, rfl⟩
    have hm : (k : Int) * (n : Int) = (p : Int) := by rw [hp]; exact (Int.natCast_mul k n).symm
    obtain ⟨z, hz⟩ : ∃ z, z = n * n := ⟨_, rfl⟩
    rw [← hp] at y0 y1 y2 hx hp64
    rw [← hz] at hx c3
    have hz2 : z ≤ 9223372036854775807 := by have := h.vwc; have : maxLen = 9223372036854775807 := rfl; omega
    replace hz := Lib.hid hz
    replace hp := Lib.hid hp
    replace hr := Lib.hid hr
    clear hab e h
    go_enter Tryz.func12, Tryz.ntmps12
    have g1 := Wd.cell c1 (World.lt_of_cell c1)
    have g3 := Wd.cell c3 (World.lt_of_cell c3)
    have g4 := Wd.cell y2 (World.lt_of_cell y2)
    go_wp2_with fail
    refine wp_region_below (by kernel_rfl) (by kernel_rfl) ?_
    repeat (go_big_quiet_step (fail))
    refine wpQuiet_nil ?_
    rintro _ ⟨u, rfl⟩
    have hbu := u.h
    obtain ⟨w4, hw4⟩ : ∃ w4, w4 = u.v := ⟨_, rfl⟩
    rw [← hw4] at hbu ⊢
    clear hw4 g1 g3 g4
    go_wp2_with fail
    go_ret
    exact ⟨rfl, hbu⟩
  · have e : rwaitN n Y a b = 0 := by unfold rwaitN; rw [if_neg hab]
    rw [e]
    clear h e
    by_cases h1 : a < 0
    · have d1 : decide (a < 0) = true := by simpa using h1
      go_enter Tryz.func12, Tryz.ntmps12
      go_wp2_with fail
      go_ret
      exact ⟨rfl, Below.refl _ _⟩
    have d1 : decide (a < 0) = false := by simpa using h1
    by_cases h2 : (n : Int) ≤ a
    · have d2 : decide ((n : Int) ≤ a) = true := by simpa using h2
      go_enter Tryz.func12, Tryz.ntmps12
      go_wp2_with fail
      go_ret
      exact ⟨rfl, Below.refl _ _⟩
    have d2 : decide ((n : Int) ≤ a) = false := by simpa using h2
    by_cases h3 : b < 0
    · have d3 : decide (b < 0) = true := by simpa using h3
      go_enter Tryz.func12, Tryz.ntmps12
      go_wp2_with fail
      go_ret
      exact ⟨rfl, Below.refl _ _⟩
    have d3 : decide (b < 0) = false := by simpa using h3
    have d4 : decide ((n : Int) ≤ b) = true := by simp; omega
    go_enter Tryz.func12, Tryz.ntmps12
    go_wp2_with fail
    go_ret
    exact ⟨rfl, Below.refl _ _⟩
end Go.Proofs.YtjmbafcpbagpdaaGreat

/- Gossip, the document's side: its steps reckon what the program's do: plain Lean. -/
namespace Go.Proofs.YtjmbafcpbagpdaaGreat
open Go.RowKit Go.Shelf Go.Maps
set_option linter.unusedVariables false
set_option linter.unusedSimpArgs false

/-- A sorted list of counts tells what a counting function tells. -/
structure Alk (c : CF) (L : List TCount) (N : Nat) : Prop where
  srt : SrtL L
  cnt : ∀ s, cntL L s = c s
  nz : ∀ x ∈ L, x.fN ≠ 0
  bnd : ∀ s, -4611686018427387904 ≤ cntL L s ∧ cntL L s ≤ 4611686018427387904
  len : L.length ≤ N
def csL (L : List TCount) : List (TStamp × Int) := L.map fun x => (x.fS, x.fN)
theorem csL_cnt (L : List TCount) (s : TStamp) : cntC (csL L) s = cntL L s := by
  unfold cntC getC csL cntL
  rw [List.find?_map]
  simp only [Option.map_map]
  rfl
theorem csL_all {L : List TCount} (h : SrtL L) : IsAll (csL L) L :=
  ⟨by unfold csL; rw [List.map_map]; exact List.Perm.refl _, h, fun c hc => by rw [csL_cnt, cntL_mem h c hc]⟩
namespace Alk
variable {c : CF} {L l : List TCount} {N : Nat} {ops : List TOp}
theorem zs (h : Alk c L N) : ∀ p ∈ csL L, p.2 ≠ 0 ∧ -4611686018427387904 ≤ p.2 ∧ p.2 ≤ 4611686018427387904 := fun p hp => by
  obtain ⟨x, hx, rfl⟩ := List.mem_map.1 hp
  have h1 := h.bnd x.fS
  rw [cntL_mem h.srt x hx] at h1
  exact ⟨h.nz x hx, h1⟩
theorem fn (h : Alk c L N) : cntC (csL L) = c := funext fun s => by rw [csL_cnt, h.cnt]
theorem upd (h : Alk c L N) (hl : l.length ≤ 1073741824) : updF ops c l = (updL ops L l).1 := by
  rw [← upd_alike (ops := ops) (csL_all h.srt) h.zs hl, updF_cs, h.fn]
theorem zero (N : Nat) : Alk (fun _ => 0) [] N := ⟨List.Pairwise.nil, fun s => rfl, fun x hx => (by cases hx), fun s => (by show -4611686018427387904 ≤ (0 : Int) ∧ (0 : Int) ≤ 4611686018427387904; omega), Nat.zero_le _⟩
theorem _root_.Go.Proofs.YtjmbafcpbagpdaaGreat.cntL_left {M : List TCount} (h : SrtL M) (s : TStamp) : cntL (leftL M) s = cntL M s := by
  by_cases hm : s ∈ (leftL M).map (·.fS)
  · obtain ⟨x, hx, rfl⟩ := List.mem_map.1 hm
    rw [cntL_mem (leftL_srt h) x hx, cntL_mem h x (List.mem_filter.1 hx).1]
  · rw [cntL_out hm]
    by_cases hk : s ∈ M.map (·.fS)
    · obtain ⟨x, hx, rfl⟩ := List.mem_map.1 hk
      rw [cntL_mem h x hx]
      by_cases h0 : x.fN = 0
      · exact h0.symm
      · exact absurd (List.mem_map.2 ⟨x, List.mem_filter.2 ⟨hx, by simpa using h0⟩, rfl⟩) hm
    · rw [cntL_out hk]
/-- What the document keeps is what the program's counts are. -/
theorem next (h : Alk c L N) (h0 : (updL ops L l).1 = 0) : Alk (addF c l) (updL ops L l).2 (N + l.length) := by
  unfold updL at h0 ⊢
  by_cases h1 : l.all (okC ops) = false
  · rw [if_pos h1] at h0; simp at h0
  rw [if_neg h1] at h0 ⊢
  by_cases h2 : (nextL L l).any outC = true
  · rw [if_pos h2] at h0; simp at h0
  rw [if_neg h2]
  have hs := nextL_srt l L h.srt
  have hb : ∀ s, -4611686018427387904 ≤ cntL (nextL L l) s ∧ cntL (nextL L l) s ≤ 4611686018427387904 := fun s => by
    by_cases hm : s ∈ (nextL L l).map (·.fS)
    · obtain ⟨x, hx, rfl⟩ := List.mem_map.1 hm
      rw [cntL_mem hs x hx]
      have ho : outC x = false := by
        cases h : outC x with
        | false => rfl
        | true => exact absurd (List.any_eq_true.2 ⟨x, hx, h⟩) h2
      unfold outC at ho
      simp only [Bool.or_eq_false_iff, decide_eq_false_iff_not] at ho
      omega
    · rw [cntL_out hm]; omega
  refine ⟨leftL_srt hs, fun s => ?_, fun x hx => by simpa using (List.mem_filter.1 hx).2, fun s => by rw [cntL_left hs]; exact hb s, Nat.le_trans (leftL_len _) (Nat.le_trans (nextL_len l L) (Nat.add_le_add_right h.len _))⟩
  have h3 := hb s
  have h4 := nextL_cnt s l L h.srt
  rw [cntL_left hs, h4]
  unfold addF
  rw [← h.cnt s]
  rw [h4] at h3
  exact (IntWalk.wrap64_in _ (by omega)).symm
theorem mono (h : Alk c L N) {N' : Nat} (hN : N ≤ N') : Alk c L N' := ⟨h.srt, h.cnt, h.nz, h.bnd, Nat.le_trans h.len hN⟩
theorem step (h : Alk c L N) (hl : l.length ≤ 1073741824) : Alk (nextF ops c l) (updL ops L l).2 (N + l.length) := by
  unfold nextF
  rw [h.upd hl]
  by_cases h0 : (updL ops L l).1 = 0
  · rw [if_pos h0]; exact h.next h0
  · rw [if_neg h0]
    have : (updL ops L l).2 = L := by
      unfold updL at h0 ⊢
      split
      · rfl
      · rename_i h1
        rw [if_neg h1] at h0
        split
        · rfl
        · rename_i h2
          rw [if_neg h2] at h0
          simp at h0
    rw [this]
    exact h.mono (Nat.le_add_right _ _)
end Alk

theorem srt_nil : SrtL [] := List.Pairwise.nil
/-- Does a list stand, as the document reckons? -/
noncomputable def rstB (ops : List TOp) (T S : List TCount) (x : TCount) : Bool :=
  !(decide (x.fN < 0) && decide (cntL T x.fS < wrap64 (-x.fN))) && (decide (x.fN < 0) || S.any fun k => decide (k.fN < 0) && cld ops k.fS x.fS)
noncomputable def rstandsL (ops : List TOp) (T l : List TCount) : Bool :=
  if (updL ops [] l).1 ≠ 0 then false else (updL ops [] l).2.all (rstB ops T (updL ops [] l).2)
theorem left_mem {l : List TCount} (x : TCount) : x ∈ leftL (nextL [] l) ↔ x.fN = totC l x.fS ∧ x.fN ≠ 0 := by
  have hs := nextL_srt l [] srt_nil
  have hc := fun s => nextL_cnt s l [] srt_nil
  unfold leftL
  rw [List.mem_filter]
  simp only [decide_eq_true_eq]
  constructor
  · rintro ⟨h1, h2⟩
    have := cntL_mem hs x h1
    rw [hc, show cntL [] x.fS = 0 from rfl] at this
    exact ⟨by omega, h2⟩
  · rintro ⟨h1, h2⟩
    have hk : x.fS ∈ (nextL [] l).map (·.fS) := by
      refine (nextL_keys x.fS l []).2 (.inr ?_)
      by_cases h3 : ∃ c ∈ l, c.fS = x.fS
      · exact h3
      · exact absurd (h1.trans (tot_none (fun d hd e => h3 ⟨d, hd, e⟩))) h2
    obtain ⟨y, hy, e⟩ := List.mem_map.1 hk
    have := cntL_mem hs y hy
    rw [hc, e, show cntL [] x.fS = 0 from rfl] at this
    have hxy : y = x := by
      cases x; cases y
      simp only at e this h1
      subst e
      congr
      omega
    exact ⟨hxy ▸ hy, h2⟩
theorem tot_smallH {ops : List TOp} {l : List TCount} (s : TStamp) (hok : l.all (okC ops) = true) (hl : l.length ≤ 1073741824) : -2305843009213693952 ≤ totC l s ∧ totC l s ≤ 2305843009213693952 := by
  have := tot_range (ops := ops) s hok
  omega
theorem sum_ok {ops : List TOp} {l : List TCount} (hok : l.all (okC ops) = true) (hl : l.length ≤ 1073741824) : updL ops [] l = (0, leftL (nextL [] l)) := by
  have hs := nextL_srt l [] srt_nil
  unfold updL
  rw [if_neg (by rw [hok]; simp), if_neg]
  intro h2
  obtain ⟨x, hx, ho⟩ := List.any_eq_true.1 h2
  have h3 := cntL_mem hs x hx
  rw [nextL_cnt _ _ _ srt_nil, show cntL [] x.fS = 0 from rfl] at h3
  have := tot_smallH (ops := ops) x.fS hok hl
  unfold outC at ho
  simp only [Bool.or_eq_true, decide_eq_true_eq] at ho
  omega
theorem stands_same {ops : List TOp} {c : CF} {T l : List TCount} {N : Nat} (h : Alk c T N) (hok : l.all (okC ops) = true) (hl : l.length ≤ 1073741824) : rstandsL ops T l = standsF ops c l := by
  have ht := fun s => tot_smallH (ops := ops) (l := l) s hok hl
  have hw : ∀ s, wrap64 (totC l s) = totC l s := fun s => IntWalk.wrap64_in _ (by have := ht s; omega)
  unfold rstandsL standsF
  rw [sum_ok hok hl, if_neg (by simp)]
  have hin : ∀ x, x ∈ leftL (nextL [] l) → (x.fS, x.fN) ∈ nxL l := fun x hx => by
    obtain ⟨h1, h2⟩ := (left_mem x).1 hx
    have h3 : ∃ d ∈ l, d.fS = x.fS := by
      by_cases h3 : ∃ c ∈ l, c.fS = x.fS
      · exact h3
      · exact absurd (h1.trans (tot_none (fun d hd e => h3 ⟨d, hd, e⟩))) h2
    obtain ⟨p, hp, e⟩ := nxL_has _ l h3
    have := nxL_val hp
    rw [hw, e, ← h1] at this
    rw [← e, ← this]
    exact hp
  have hin2 : ∀ p, p ∈ nxL l → p.2 ≠ 0 → (⟨p.1, p.2⟩ : TCount) ∈ leftL (nextL [] l) := fun p hp h0 => by
    have := nxL_val hp
    rw [hw] at this
    exact (left_mem _).2 ⟨this, h0⟩
  have hany : ∀ s, ((leftL (nextL [] l)).any fun k => decide (k.fN < 0) && cld ops k.fS s) = (nxL l).any fun q => decide (q.2 < 0) && cld ops q.1 s := fun s => by
    rw [Bool.eq_iff_iff, List.any_eq_true, List.any_eq_true]
    constructor
    · rintro ⟨x, hx, h1⟩
      exact ⟨_, hin x hx, h1⟩
    · rintro ⟨p, hp, h1⟩
      refine ⟨_, hin2 p hp ?_, h1⟩
      simp only [Bool.and_eq_true, decide_eq_true_eq] at h1
      omega
  rw [Bool.eq_iff_iff, List.all_eq_true, List.all_eq_true]
  constructor
  · intro H p hp
    by_cases h0 : p.2 = 0
    · unfold standB
      simp [h0]
    · have h1 := H _ (hin2 p hp h0)
      unfold rstB at h1
      rw [hany, h.cnt] at h1
      unfold standB
      have : decide (p.2 ≤ 0) = decide (p.2 < 0) := by
        by_cases h2 : p.2 < 0
        · rw [decide_eq_true h2, decide_eq_true (by omega)]
        · rw [decide_eq_false h2, decide_eq_false (by omega)]
      rw [this]
      exact h1
  · intro H x hx
    have h1 := H _ (hin x hx)
    obtain ⟨_, h0⟩ := (left_mem x).1 hx
    unfold standB at h1
    unfold rstB
    rw [hany, h.cnt]
    have : decide (x.fN ≤ 0) = decide (x.fN < 0) := by
      by_cases h2 : x.fN < 0
      · rw [decide_eq_true h2, decide_eq_true (by omega)]
      · rw [decide_eq_false h2, decide_eq_false (by omega)]
    dsimp only at h1
    rw [this] at h1
    exact h1

/-- The document's lists tell what the program's gossip tells. -/
structure AlikeG (m : GM) (n : Nat) (V : Nat → List TCount) (Y : Nat → List (List TCount)) (N : Nat) : Prop where
  hn : m.n = n
  tr : Alk (m.c 0) (V n) N
  vw : ∀ i, i < n → Alk (m.c (i + 1)) (V i) N
  wy : ∀ a b, a < n → b < n → Y (a * n + b) = m.wy (a * 8 + b)
noncomputable def rdoE (ops : List TOp) (n : Nat) (V : Nat → List TCount) (Y : Nat → List (List TCount)) (k : Int) (l : List TCount) : Int :=
  if ¬ (0 ≤ k ∧ k < n) then 1 else if l.all (okC ops) = false then 1 else if rstandsL ops (V n) l = false then 9
  else if ∃ j, j < n ∧ 4096 ≤ (Y (k.toNat * n + j)).length then 2 else if (updL ops (V n) l).1 ≠ 0 then 1 else 0
def rdoV (ops : List TOp) (n : Nat) (V : Nat → List TCount) (l : List TCount) : Nat → List TCount := fun i => if i = n then (updL ops (V n) l).2 else V i
def rdoY (n : Nat) (Y : Nat → List (List TCount)) (k : Nat) (l : List TCount) : Nat → List (List TCount) := fun i => if k * n ≤ i ∧ i < k * n + n then Y i ++ [l] else Y i
def rdlvE (n : Nat) (Y : Nat → List (List TCount)) (a b : Int) : Int := if ¬ ((0 ≤ a ∧ a < n) ∧ (0 ≤ b ∧ b < n)) then 1 else if Y (a.toNat * n + b.toNat) = [] then 7 else 0
def rdlvV (ops : List TOp) (V : Nat → List TCount) (b : Nat) (l : List TCount) : Nat → List TCount := fun i => if i = b then (updL ops (V b) l).2 else V i
def rdlvY (Y : Nat → List (List TCount)) (j : Nat) : Nat → List (List TCount) := fun i => if i = j then (Y j).tail else Y i
namespace AlikeG
variable {m : GM} {n : Nat} {V : Nat → List TCount} {Y : Nat → List (List TCount)} {N : Nat} {ops : List TOp}
theorem mono (h : AlikeG m n V Y N) {N' : Nat} (hN : N ≤ N') : AlikeG m n V Y N' := ⟨h.hn, h.tr.mono hN, fun i hi => (h.vw i hi).mono hN, h.wy⟩
theorem doE (h : AlikeG m n V Y N) (k : Int) (l : List TCount) (hl : l.length ≤ 1073741824) : rdoE ops n V Y k l = Go.Proofs.YtjmbafcpbagpdaaGreat.doE ops m k l := by
  obtain rfl := h.hn
  unfold rdoE Go.Proofs.YtjmbafcpbagpdaaGreat.doE
  by_cases hk : ¬ (0 ≤ k ∧ k < m.n)
  · rw [if_pos hk, if_pos hk]
  rw [if_neg hk, if_neg hk]
  by_cases hok : l.all (okC ops) = false
  · rw [if_pos hok, if_pos hok]
  rw [if_neg hok, if_neg hok, stands_same h.tr (by simpa using hok) hl, h.tr.upd hl]
  have he : (∃ j, j < m.n ∧ 4096 ≤ (Y (k.toNat * m.n + j)).length) ↔ ∃ j, j < m.n ∧ 4096 ≤ (m.wy (k.toNat * 8 + j)).length := by
    constructor
    · rintro ⟨j, hj, h1⟩
      exact ⟨j, hj, by rw [← h.wy _ _ (by omega) hj]; exact h1⟩
    · rintro ⟨j, hj, h1⟩
      exact ⟨j, hj, by rw [h.wy _ _ (by omega) hj]; exact h1⟩
  by_cases hj : ∃ j, j < m.n ∧ 4096 ≤ (Y (k.toNat * m.n + j)).length
  · rw [if_pos hj, if_pos (he.1 hj)]
  · rw [if_neg hj, if_neg (fun x => hj (he.2 x))]
theorem did (h : AlikeG m n V Y N) (h8 : n ≤ 8) (k : Int) (l : List TCount) (h0 : Go.Proofs.YtjmbafcpbagpdaaGreat.doE ops m k l = 0) (hl : l.length ≤ 1073741824) : AlikeG (doM ops m k l) n (rdoV ops n V l) (rdoY n Y k.toNat l) (N + l.length) := by
  obtain rfl := h.hn
  unfold doM
  rw [if_pos h0]
  unfold Go.Proofs.YtjmbafcpbagpdaaGreat.doE at h0
  split at h0
  · simp at h0
  rename_i hk
  split at h0
  · simp at h0
  split at h0
  · simp at h0
  split at h0
  · simp at h0
  split at h0
  · simp at h0
  rename_i hu
  have hu0 : updF ops (m.c 0) l = 0 := by simpa using hu
  have hk1 : k.toNat < m.n := by omega
  refine ⟨rfl, ?_, fun i hi => ?_, fun a b ha hb => ?_⟩
  · show Alk (if 0 = 0 then addF (m.c 0) l else m.c 0) (if m.n = m.n then (updL ops (V m.n) l).2 else V m.n) _
    rw [if_pos rfl, if_pos rfl]
    exact h.tr.next (by rw [← h.tr.upd hl]; exact hu0)
  · show Alk (if i + 1 = 0 then addF (m.c 0) l else m.c (i + 1)) (if i = m.n then (updL ops (V m.n) l).2 else V i) _
    rw [if_neg (by omega), if_neg (by omega)]
    exact (h.vw i hi).mono (Nat.le_add_right _ _)
  · show (if k.toNat * m.n ≤ a * m.n + b ∧ a * m.n + b < k.toNat * m.n + m.n then Y (a * m.n + b) ++ [l] else Y (a * m.n + b)) = (if k.toNat * 8 ≤ a * 8 + b ∧ a * 8 + b < k.toNat * 8 + m.n then m.wy (a * 8 + b) ++ [l] else m.wy (a * 8 + b))
    by_cases e : a = k.toNat
    · subst e
      rw [if_pos ⟨by omega, by omega⟩, if_pos ⟨by omega, by omega⟩, h.wy _ _ ha hb]
    · rw [if_neg, if_neg, h.wy _ _ ha hb]
      · intro ⟨h1, h2⟩
        rcases Nat.lt_or_gt_of_ne e with x | x
        · have : a * m.n + m.n ≤ k.toNat * m.n := by rw [← Nat.succ_mul]; exact Nat.mul_le_mul_right _ x
          omega
        · have h3 : k.toNat * m.n + m.n ≤ a * m.n := by rw [← Nat.succ_mul]; exact Nat.mul_le_mul_right _ x
          omega
      · intro ⟨h1, h2⟩
        rcases Nat.lt_or_gt_of_ne e with x | x
        · have : a * m.n + m.n ≤ k.toNat * m.n := by rw [← Nat.succ_mul]; exact Nat.mul_le_mul_right _ x
          omega
        · have h3 : k.toNat * m.n + m.n ≤ a * m.n := by rw [← Nat.succ_mul]; exact Nat.mul_le_mul_right _ x
          omega
theorem did0 (h : AlikeG m n V Y N) (k : Int) (l : List TCount) (h0 : Go.Proofs.YtjmbafcpbagpdaaGreat.doE ops m k l ≠ 0) : AlikeG (doM ops m k l) n V Y (N + l.length) := by
  rw [doM_no h0]
  exact h.mono (Nat.le_add_right _ _)
theorem dlvE (h : AlikeG m n V Y N) (a b : Int) : rdlvE n Y a b = Go.Proofs.YtjmbafcpbagpdaaGreat.dlvE m a b := by
  obtain rfl := h.hn
  unfold rdlvE Go.Proofs.YtjmbafcpbagpdaaGreat.dlvE
  by_cases hk : ¬ ((0 ≤ a ∧ a < m.n) ∧ (0 ≤ b ∧ b < m.n))
  · rw [if_pos hk, if_pos hk]
  rw [if_neg hk, if_neg hk, h.wy _ _ (by omega) (by omega)]
theorem dlvd (h : AlikeG m n V Y N) (h8 : n ≤ 8) (a b : Int) (h0 : Go.Proofs.YtjmbafcpbagpdaaGreat.dlvE m a b = 0) {M : Nat} (hhd : ((Y (a.toNat * n + b.toNat)).headD []).length ≤ M) (hM2 : M ≤ 1073741824) :
    AlikeG (dlvM ops m a b) n (rdlvV ops V b.toNat ((Y (a.toNat * n + b.toNat)).headD [])) (rdlvY Y (a.toNat * n + b.toNat)) (N + M) := by
  obtain rfl := h.hn
  unfold dlvM
  rw [if_pos h0]
  unfold Go.Proofs.YtjmbafcpbagpdaaGreat.dlvE at h0
  split at h0
  · simp at h0
  rename_i hk
  have ha : a.toNat < m.n := by omega
  have hb : b.toNat < m.n := by omega
  rw [← h.wy _ _ ha hb]
  refine ⟨rfl, ?_, fun i hi => ?_, fun x y hx hy => ?_⟩
  · show Alk (if 0 = b.toNat + 1 then nextF ops (m.c 0) ((Y (a.toNat * m.n + b.toNat)).headD []) else m.c 0) (if m.n = b.toNat then (updL ops (V b.toNat) ((Y (a.toNat * m.n + b.toNat)).headD [])).2 else V m.n) _
    rw [if_neg (by omega), if_neg (by omega)]
    exact h.tr.mono (Nat.le_add_right _ _)
  · show Alk (if i + 1 = b.toNat + 1 then nextF ops (m.c (i + 1)) ((Y (a.toNat * m.n + b.toNat)).headD []) else m.c (i + 1)) (if i = b.toNat then (updL ops (V b.toNat) ((Y (a.toNat * m.n + b.toNat)).headD [])).2 else V i) _
    by_cases e : i = b.toNat
    · rw [if_pos (by omega), if_pos e, e]
      exact ((h.vw _ hb).step (by omega)).mono (Nat.add_le_add_left hhd _)
    · rw [if_neg (by omega), if_neg e]
      exact (h.vw i hi).mono (Nat.le_add_right _ _)
  · show (if x * m.n + y = a.toNat * m.n + b.toNat then (Y (a.toNat * m.n + b.toNat)).tail else Y (x * m.n + y)) = (if x * 8 + y = a.toNat * 8 + b.toNat then (m.wy (x * 8 + y)).tail else m.wy (x * 8 + y))
    by_cases e : x = a.toNat ∧ y = b.toNat
    · obtain ⟨rfl, rfl⟩ := e
      rw [if_pos rfl, if_pos rfl, h.wy _ _ hx hy]
    · rw [if_neg, if_neg, h.wy _ _ hx hy]
      · omega
      · intro h1
        apply e
        have hxa : x = a.toNat := by
          rcases Nat.lt_trichotomy x a.toNat with z | z | z
          · have : x * m.n + m.n ≤ a.toNat * m.n := by rw [← Nat.succ_mul]; exact Nat.mul_le_mul_right _ z
            omega
          · exact z
          · have : a.toNat * m.n + m.n ≤ x * m.n := by rw [← Nat.succ_mul]; exact Nat.mul_le_mul_right _ z
            omega
        subst hxa
        exact ⟨rfl, by omega⟩
theorem dlvd0 (h : AlikeG m n V Y N) (a b : Int) (h0 : Go.Proofs.YtjmbafcpbagpdaaGreat.dlvE m a b ≠ 0) (M : Nat) : AlikeG (dlvM ops m a b) n V Y (N + M) := by
  unfold dlvM
  rw [if_neg h0]
  exact h.mono (Nat.le_add_right _ _)
theorem wait (h : AlikeG m n V Y N) (a b : Int) : rwaitN n Y a b = waitN m a b := by
  obtain rfl := h.hn
  unfold rwaitN waitN
  by_cases hk : (0 ≤ a ∧ a < m.n) ∧ (0 ≤ b ∧ b < m.n)
  · rw [if_pos hk, if_pos hk, h.wy _ _ (by omega) (by omega)]
  · rw [if_neg hk, if_neg hk]
end AlikeG
theorem csL_nodup {L : List TCount} (h : SrtL L) : ((csL L).map Prod.fst).Nodup := by
  unfold csL
  rw [List.map_map]
  exact List.Pairwise.imp (fun {a b} hab e => by rw [e] at hab; exact ltS_irrefl _ hab) h
theorem Alk.alive {c : CF} {L : List TCount} {N : Nat} (h : Alk c L N) (s : TStamp) : s ∈ aliveL L ↔ 0 < c s := by
  rw [(csL_all h.srt).alive (csL_nodup h.srt), alive_mem (csL_nodup h.srt), csL_cnt, h.cnt]
open Classical in
theorem Alk.done {c : CF} {L : List TCount} {N : Nat} (h : Alk c L N) (ops : List TOp) (s : TStamp) : doneC ops (aliveL L) s = doneF ops c s := by
  rw [doneC_same (fun x => (csL_all h.srt).alive (csL_nodup h.srt) x) s, done_cs (csL_nodup h.srt), h.fn]
end Go.Proofs.YtjmbafcpbagpdaaGreat

/- Gossip, the document's side: Deliver. -/
namespace Go.Proofs.YtjmbafcpbagpdaaGreat
open Go.RowKit Go.Shelf Go.Maps
attribute [local go_sem] Oper.semAt_some
set_option linter.unusedVariables false
set_option linter.unusedSimpArgs false

theorem set_at {cs : Array Value} {i j : Nat} {v u : Value} (h : cs[j]? = some u) : (cs.setIfInBounds i v)[j]? = if i = j then some v else some u := by
  rw [Array.getElem?_setIfInBounds]
  by_cases e : i = j
  · subst e
    rw [if_pos rfl, if_pos rfl, if_pos (Array.getElem?_eq_some_iff.1 h).1]
  · rw [if_neg e, if_neg e, h]
namespace RG
variable {w w' : World} {Z : Nat → Prop} {q : RP} {gv : Value} {n : Nat} {V : Nat → List TCount} {Y : Nat → List (List TCount)}
/-- A view is written over. -/
theorem setV (h : RG w Z q gv n V Y) {i : Nat} (hi : i < n + 1) {a : Option Addr} {c : Nat} {L : List TCount} (hl : LiZ w Z a c L) :
    RG ((w.setCell ⟨q.vb, i * 2, none⟩ gv).setCell ⟨q.vb, i * 2 + 1, none⟩ (.slice a L.length c)) Z q gv n (fun j => if j = i then L else V j) Y := by
  obtain ⟨cs, v1, v2⟩ := h.vws
  obtain ⟨ds, y1, y2⟩ := h.wys
  obtain ⟨n1, n2, n3⟩ := h.ne
  have hc : Chg (fun k => k = q.vb) w ((w.setCell ⟨q.vb, i * 2, none⟩ gv).setCell ⟨q.vb, i * 2 + 1, none⟩ (.slice a L.length c)) := ((Chg.refl (fun k => k = q.vb) w).setCell ⟨q.vb, i * 2, none⟩ gv (fun _ => rfl)).setCell ⟨q.vb, i * 2 + 1, none⟩ _ (fun _ => rfl)
  have hZ : ∀ k, Z k → ¬ (k = q.vb) := fun k hk => (h.zne k hk).2.1
  refine ⟨h.n1, h.n8, h.blk.chg hc n1, h.vwc, ⟨_, (v1.set (i * 2) gv).set (i * 2 + 1) (.slice a L.length c), fun j hj => ?_⟩, ⟨ds, y1.chg hc (fun e => n3 e.symm), fun j hj => ?_⟩, h.ne, fun k hk => Nat.lt_of_lt_of_le (h.zlt k hk) hc.size, h.zne⟩
  · obtain ⟨e1, a2, c2, e2, e3⟩ := v2 j hj
    have g1 := set_at (i := i * 2) (v := gv) e1
    have g2 := set_at (i := i * 2) (v := gv) e2
    rw [if_neg (by omega)] at g2
    have g3 := set_at (i := i * 2 + 1) (v := .slice a L.length c) g2
    have g4 : ((cs.setIfInBounds (i * 2) gv).setIfInBounds (i * 2 + 1) (.slice a L.length c))[j * 2]? = some gv := by
      by_cases e : i * 2 = j * 2
      · rw [if_pos e] at g1
        have := set_at (i := i * 2 + 1) (v := .slice a L.length c) g1
        rw [if_neg (by omega)] at this
        exact this
      · rw [if_neg e] at g1
        have := set_at (i := i * 2 + 1) (v := .slice a L.length c) g1
        rw [if_neg (by omega)] at this
        exact this
    refine ⟨g4, ?_⟩
    by_cases e : j = i
    · rw [if_pos (by omega)] at g3
      refine ⟨a, c, ?_, ?_⟩
      · rw [if_pos e]; exact g3
      · rw [if_pos e]; exact hl.chg hc hZ
    · rw [if_neg (by omega)] at g3
      refine ⟨a2, c2, ?_, ?_⟩
      · rw [if_neg e]; exact g3
      · rw [if_neg e]; exact e3.chg hc hZ
  · obtain ⟨e1, e2, a2, c2, e3, e4⟩ := y2 j hj
    exact ⟨e1, e2, a2, c2, e3, e4.chg hc hZ⟩
/-- A way is written over. -/
theorem setY (h : RG w Z q gv n V Y) {i : Nat} (hi : i < n * n) {f t : Int} {a : Option Addr} {c : Nat} {Ls : List (List TCount)} (hl : WyZ w Z a c Ls) :
    RG (((w.setCell ⟨q.yb, i * 3, none⟩ (.int .i64 f)).setCell ⟨q.yb, i * 3 + 1, none⟩ (.int .i64 t)).setCell ⟨q.yb, i * 3 + 2, none⟩ (.slice a Ls.length c)) Z q gv n V (fun j => if j = i then Ls else Y j) := by
  obtain ⟨cs, v1, v2⟩ := h.vws
  obtain ⟨ds, y1, y2⟩ := h.wys
  obtain ⟨n1, n2, n3⟩ := h.ne
  have hc : Chg (fun k => k = q.yb) w (((w.setCell ⟨q.yb, i * 3, none⟩ (.int .i64 f)).setCell ⟨q.yb, i * 3 + 1, none⟩ (.int .i64 t)).setCell ⟨q.yb, i * 3 + 2, none⟩ (.slice a Ls.length c)) :=
    (((Chg.refl (fun k => k = q.yb) w).setCell ⟨q.yb, i * 3, none⟩ (.int .i64 f) (fun _ => rfl)).setCell ⟨q.yb, i * 3 + 1, none⟩ (.int .i64 t) (fun _ => rfl)).setCell ⟨q.yb, i * 3 + 2, none⟩ _ (fun _ => rfl)
  have hZ : ∀ k, Z k → ¬ (k = q.yb) := fun k hk => (h.zne k hk).2.2
  refine ⟨h.n1, h.n8, h.blk.chg hc n2, h.vwc, ⟨cs, v1.chg hc n3, fun j hj => ?_⟩, ⟨_, ((y1.set (i * 3) (.int .i64 f)).set (i * 3 + 1) (.int .i64 t)).set (i * 3 + 2) (.slice a Ls.length c), fun j hj => ?_⟩, h.ne, fun k hk => Nat.lt_of_lt_of_le (h.zlt k hk) hc.size, h.zne⟩
  · obtain ⟨e1, a2, c2, e2, e3⟩ := v2 j hj
    exact ⟨e1, a2, c2, e2, e3.chg hc hZ⟩
  · obtain ⟨⟨f2, e1⟩, ⟨t2, e2⟩, a2, c2, e3, e4⟩ := y2 j hj
    have p1 := set_at (i := i * 3) (v := .int .i64 f) e1
    have p2 := set_at (i := i * 3) (v := .int .i64 f) e2
    have p3 := set_at (i := i * 3) (v := .int .i64 f) e3
    rw [if_neg (by omega)] at p2 p3
    have q2 := set_at (i := i * 3 + 1) (v := .int .i64 t) p2
    have q3 := set_at (i := i * 3 + 1) (v := .int .i64 t) p3
    rw [if_neg (by omega)] at q3
    have r3 := set_at (i := i * 3 + 2) (v := .slice a Ls.length c) q3
    by_cases e : j = i
    · rw [if_pos (by omega)] at p1 q2 r3
      have q1 := set_at (i := i * 3 + 1) (v := .int .i64 t) p1
      rw [if_neg (by omega)] at q1
      have r1 := set_at (i := i * 3 + 2) (v := .slice a Ls.length c) q1
      have r2 := set_at (i := i * 3 + 2) (v := .slice a Ls.length c) q2
      rw [if_neg (by omega)] at r1 r2
      refine ⟨⟨_, r1⟩, ⟨_, r2⟩, a, c, ?_, ?_⟩
      · rw [if_pos e]; exact r3
      · rw [if_pos e]; exact hl.chg hc hZ
    · rw [if_neg (by omega)] at p1 q2 r3
      have q1 := set_at (i := i * 3 + 1) (v := .int .i64 t) p1
      rw [if_neg (by omega)] at q1
      have r1 := set_at (i := i * 3 + 2) (v := .slice a Ls.length c) q1
      have r2 := set_at (i := i * 3 + 2) (v := .slice a Ls.length c) q2
      rw [if_neg (by omega)] at r1 r2
      refine ⟨⟨_, r1⟩, ⟨_, r2⟩, a2, c2, ?_, ?_⟩
      · rw [if_neg e]; exact r3
      · rw [if_neg e]; exact e4.chg hc hZ
theorem congr (h : RG w Z q gv n V Y) {V' : Nat → List TCount} {Y' : Nat → List (List TCount)} (hV : ∀ i, i < n + 1 → V' i = V i) (hY : ∀ i, i < n * n → Y' i = Y i) : RG w Z q gv n V' Y' := by
  obtain ⟨cs, v1, v2⟩ := h.vws
  obtain ⟨ds, y1, y2⟩ := h.wys
  exact ⟨h.n1, h.n8, h.blk, h.vwc, ⟨cs, v1, fun i hi => by rw [hV i hi]; exact v2 i hi⟩, ⟨ds, y1, fun i hi => by rw [hY i hi]; exact y2 i hi⟩, h.ne, h.zlt, h.zne⟩
end RG
/-- The views' lists are sorted, of counts in bounds, of N at most. -/
def VOk (n : Nat) (V : Nat → List TCount) (N : Nat) : Prop := ∀ i, i < n + 1 → SrtL (V i) ∧ (∀ s, -4611686018427387904 ≤ cntL (V i) s ∧ cntL (V i) s ≤ 4611686018427387904) ∧ (V i).length ≤ N
theorem AlikeG.vok {m : GM} {n : Nat} {V : Nat → List TCount} {Y : Nat → List (List TCount)} {N : Nat} (h : AlikeG m n V Y N) : VOk n V N := fun i hi => by
  by_cases e : i = n
  · subst e; exact ⟨h.tr.srt, h.tr.bnd, h.tr.len⟩
  · have := h.vw i (by omega)
    exact ⟨this.srt, this.bnd, this.len⟩
/-- What a call on the document's gossip leaves. -/
def RgP (w : World) (Z : Nat → Prop) (q : RP) (gv : Value) (n : Nat) (V : Nat → List TCount) (Y : Nat → List (List TCount)) (w' : World) : Prop :=
  Chg (fun k => k = q.vb ∨ k = q.yb) w w' ∧ ∃ Z', (∀ k, Z' k → Z k ∨ w.heap.size ≤ k) ∧ RG w' Z' q gv n V Y
theorem RgP.same {w w' : World} {Z : Nat → Prop} {q : RP} {gv : Value} {n : Nat} {V : Nat → List TCount} {Y : Nat → List (List TCount)} (h : RG w Z q gv n V Y) (hb : Below w.heap.size w w') : RgP w Z q gv n V Y w' :=
  ⟨(Chg.of_below hb).mono (fun k hk e => absurd hk (by omega)), Z, fun k hk => .inl hk, h.below hb⟩
theorem list_hd {α : Type} {l : List α} (h : l ≠ []) : ∃ a r, l = a :: r := by
  cases l with
  | nil => exact absurd rfl h
  | cons a r => exact ⟨a, r, rfl⟩
/-- Blocks that stand still, and new ones. -/
def newZ (w w' : World) (Z : Nat → Prop) (k : Nat) : Prop := Z k ∨ (w.heap.size ≤ k ∧ k < w'.heap.size)
namespace RG
variable {w w' : World} {Z : Nat → Prop} {q : RP} {gv : Value} {n : Nat} {V : Nat → List TCount} {Y : Nat → List (List TCount)}
theorem lts (h : RG w Z q gv n V Y) : q.rb < w.heap.size ∧ q.vb < w.heap.size ∧ q.yb < w.heap.size := by
  obtain ⟨cs, v1, _⟩ := h.vws
  obtain ⟨ds, y1, _⟩ := h.wys
  exact ⟨h.blk.lt, v1.lt, y1.lt⟩
theorem newZ (h : RG w Z q gv n V Y) {V' : Nat → List TCount} {Y' : Nat → List (List TCount)} (h' : RG w' Z q gv n V' Y') : RG w' (newZ w w' Z) q gv n V' Y' := by
  have hl := h.lts
  exact h'.sub (fun k z => .inl z) (fun k z => z.elim (h'.zlt k) (fun z => z.2)) (fun k z => z.elim (h'.zne k) (fun z => ⟨by omega, by omega, by omega⟩))
theorem frozenV (h : RG w Z q gv n V Y) (i : Nat) : w.frozen? ⟨q.vb, i, none⟩ = false := by
  obtain ⟨cs, v1, _⟩ := h.vws
  exact v1.frozen i
theorem frozenY (h : RG w Z q gv n V Y) (i : Nat) : w.frozen? ⟨q.yb, i, none⟩ = false := by
  obtain ⟨cs, v1, _⟩ := h.wys
  exact v1.frozen i
end RG
/-- The first list of a way, and what is behind it. -/
theorem WyZ.first {w : World} {Z : Nat → Prop} {a : Option Addr} {c : Nat} {l : List TCount} {r : List (List TCount)} (h : WyZ w Z a c (l :: r)) :
    ∃ b off la lc, a = some ⟨b, off, none⟩ ∧ b < w.heap.size ∧ r.length + 1 ≤ c ∧ c ≤ maxLen ∧ w.cell? ⟨b, off, none⟩ = some (.slice la l.length lc) ∧ LiZ w Z la lc l ∧
      ∀ x : Option Addr, x = (if c = 1 then some ⟨b, off, none⟩ else some ⟨b, off + 1, none⟩) → WyZ w Z x (c - 1) r := by
  obtain ⟨ts, h0, h2, h3, h4⟩ := h
  obtain ⟨t, ts, rfl⟩ := list_hd (l := ts) (fun e => by rw [e] at h2; simp at h2)
  simp only [List.map_cons, List.cons.injEq] at h2
  obtain ⟨rfl, rfl⟩ := h2
  obtain ⟨b, off, e, hb, h1⟩ := h0.addr (by simp)
  obtain ⟨cs, g2, g3, g4⟩ := h1 0 (by simp)
  subst g4
  subst e
  obtain ⟨k1, k2, k3, k4⟩ := h0
  rw [List.length_cons] at k1
  rw [List.length_map]
  refine ⟨b, off, t.a, t.c, rfl, hb, k1, k2, by have := g3 0 (by omega); simpa [encW2] using this, h3 t (by simp), fun x hx => ?_⟩
  have hcz : c ≠ 0 := by omega
  by_cases hc : c = 1
  · have hr : ts = [] := List.length_eq_zero_iff.1 (by omega)
    subst hr
    rw [if_pos hc] at hx
    subst hx
    exact ⟨[], ⟨by simp, by omega, fun e => (by cases e), fun e => absurd rfl e⟩, rfl, fun t ht => (by cases ht), fun d e => (by cases e; exact h4 ⟨b, off, none⟩ rfl)⟩
  · rw [if_neg hc] at hx
    subst hx
    refine ⟨ts, ⟨by omega, by omega, fun e => (by cases e), fun hne => ⟨b, off + 1, rfl, hb, fun i hi => ?_⟩⟩, rfl, fun t ht => h3 t (by simp [ht]), fun d e => ?_⟩
    · obtain ⟨ds, q1, q2, q3⟩ := h1 (i + 1) (by rw [List.length_cons]; omega)
      refine ⟨ds, q1, fun j hj => ?_, by simpa using q3⟩
      have := q2 j hj
      rw [← this]
      congr 2
      omega
    · cases e
      exact h4 ⟨b, off, none⟩ rfl

set_option maxRecDepth 100000 in
set_option maxHeartbeats 4000000 in
theorem rdlv_none (k j : Nat) {w : World} {Z : Nat → Prop} {q : RP} {gv : Value} {n : Nat} {V : Nat → List TCount} {Y : Nat → List (List TCount)} (h : RG w Z q gv n V Y) (hk : k < n) (hj : j < n) (hy : Y (k * n + j) = []) :
    Calls Tryz.prog 10 #[.pointer (some ⟨q.rb, 0, none⟩), .int .i64 k, .int .i64 j] w fun e w' => e = .returned (.int .i64 7) ∧ Below w.heap.size w w' := by
  obtain ⟨c0, c1, c2, c3⟩ := h.cells
  have h8 := h.n8
  have hx := mul_lt (a := k) (b := j) (n := n) hk hj
  obtain ⟨f, t, ya, yc, y0, y1, y2, hyw⟩ := h.way hx
  rw [hy] at y2
  have d1 : decide ((k : Int) < 0) = false := by simp
  have d2 : decide ((n : Int) ≤ (k : Int)) = false := by simp; omega
  have d3 : decide ((j : Int) < 0) = false := by simp
  have d4 : decide ((n : Int) ≤ (j : Int)) = false := by simp; omega
  have d5 : decide (n ≤ k) = false := by simp; omega
  have d6 : decide (n ≤ j) = false := by simp; omega
  have hp64 : k * n ≤ 64 := Nat.le_trans (Nat.mul_le_mul (by omega : k ≤ 8) h8) (by omega)
  obtain ⟨x, hxe⟩ : ∃ x, x = k * n + j := ⟨_, rfl⟩
  obtain ⟨p, hp⟩ : ∃ p, p = k * n := ⟨_, rfl⟩
  have hmkn : (k : Int) * (n : Int) = (p : Int) := by rw [hp]; exact (Int.natCast_mul k n).symm
  have hwp : IntKind.i64.wrap (p : Int) = (p : Int) := IntWalk.i64_in _ (by omega)
  have hwx : IntKind.i64.wrap ((p : Int) + (j : Int)) = (x : Int) := by rw [IntWalk.i64_in _ (by omega)]; omega
  obtain ⟨z, hz⟩ : ∃ z, z = n * n := ⟨_, rfl⟩
  rw [← hxe] at y0 y1 y2 hx
  rw [← hz] at hx c3
  have hz2 : z ≤ 9223372036854775807 := by have := h.vwc; have : maxLen = 9223372036854775807 := rfl; omega
  replace hz := Lib.hid hz
  replace hp := Lib.hid hp
  replace hxe := Lib.hid hxe
  clear hp64
  go_enter Tryz.func10, Tryz.ntmps10
  go_upto_region 3 with fail
  refine wp_region_tree (fun wx => wx.cell? ⟨q.rb, 1, none⟩ = some (.int .i64 n) ∧ wx.cell? ⟨q.rb, 3, none⟩ = some (.slice (some ⟨q.yb, 0, none⟩) z q.yc) ∧ wx.cell? ⟨q.yb, x * 3, none⟩ = some (.int .i64 f) ∧ wx.cell? ⟨q.yb, x * 3 + 1, none⟩ = some (.int .i64 t) ∧ wx.cell? ⟨q.yb, x * 3 + 2, none⟩ = some (.slice ya 0 yc)) 15 16 (by kernel_rfl) rfl (by kernel_rfl) (fun d _ _ _ _ h => by cases d <;> exact h) (⟨c1, c3, y0, y1, y2⟩) (fun opz T hOps hT hTok hHeld => ?_)
  (refine wpTree_q 0 hTok hOps (by kernel_rfl) rfl rfl ⟨?_, ?_, ?_⟩; rotate_left; (focus (intro wx hSx; (try dsimp only at hSx); go_simp; (try with_reducible rfl))); (simp only [Act.put, List.setIfInBounds_toArray, List.set_cons_zero, List.set_cons_succ]))
  (refine wpTree_q 1 hTok hOps (by kernel_rfl) rfl rfl ⟨?_, ?_, ?_⟩; rotate_left; (focus (intro wx hSx; (try dsimp only at hSx); go_simp; (try with_reducible rfl))); (simp only [Act.put, List.setIfInBounds_toArray, List.set_cons_zero, List.set_cons_succ]))
  (refine wpTree_q 2 hTok hOps (by kernel_rfl) rfl rfl ⟨?_, ?_, ?_⟩; rotate_left; (focus (intro wx hSx; (try dsimp only at hSx); go_simp; (try with_reducible rfl))); (simp only [Act.put, List.setIfInBounds_toArray, List.set_cons_zero, List.set_cons_succ]))
  (refine wpTree_q 3 hTok hOps (by kernel_rfl) rfl rfl ⟨?_, ?_, ?_⟩; rotate_left; (focus (intro wx hSx; (try dsimp only at hSx); go_simp; (try with_reducible rfl))); (simp only [Act.put, List.setIfInBounds_toArray, List.set_cons_zero, List.set_cons_succ]))
  (refine wpTree_q 4 hTok hOps (by kernel_rfl) rfl rfl ⟨?_, ?_, ?_⟩; rotate_left; (focus (intro wx hSx; (try dsimp only at hSx); go_simp; (try with_reducible rfl))); (simp only [Act.put, List.setIfInBounds_toArray, List.set_cons_zero, List.set_cons_succ]))
  (refine wpTree_q 5 hTok hOps (by kernel_rfl) rfl rfl ⟨?_, ?_, ?_⟩; rotate_left; (focus (intro wx hSx; (try dsimp only at hSx); go_simp; (try with_reducible rfl))); (simp only [Act.put, List.setIfInBounds_toArray, List.set_cons_zero, List.set_cons_succ]))
  (refine wpTree_q 6 hTok hOps (by kernel_rfl) rfl rfl ⟨?_, ?_, ?_⟩; rotate_left; (focus (intro wx hSx; (try dsimp only at hSx); go_simp; (try with_reducible rfl))); (simp only [Act.put, List.setIfInBounds_toArray, List.set_cons_zero, List.set_cons_succ]))
  (refine wpTree_q 7 hTok hOps (by kernel_rfl) rfl rfl ⟨?_, ?_, ?_⟩; rotate_left; (focus (intro wx hSx; (try dsimp only at hSx); go_simp; (try with_reducible rfl))); (simp only [Act.put, List.setIfInBounds_toArray, List.set_cons_zero, List.set_cons_succ]))
  (refine wpTree_q 8 hTok hOps (by kernel_rfl) rfl rfl ⟨?_, ?_, ?_⟩; rotate_left; (focus (intro wx hSx; (try dsimp only at hSx); go_simp; (try with_reducible rfl))); (simp only [Act.put, List.setIfInBounds_toArray, List.set_cons_zero, List.set_cons_succ]))
  (refine wpTree_q 9 hTok hOps (by kernel_rfl) rfl rfl ⟨?_, ?_, ?_⟩; rotate_left; (focus (intro wx hSx; (try dsimp only at hSx); go_simp; (try with_reducible rfl))); (simp only [Act.put, List.setIfInBounds_toArray, List.set_cons_zero, List.set_cons_succ]))
  (refine wpTree_q 10 hTok hOps (by kernel_rfl) rfl rfl ⟨?_, ?_, ?_⟩; rotate_left; (focus (intro wx hSx; (try dsimp only at hSx); go_simp; (try with_reducible rfl))); (simp only [Act.put, List.setIfInBounds_toArray, List.set_cons_zero, List.set_cons_succ]))
  (refine wpTree_q 11 hTok hOps (by kernel_rfl) rfl rfl ⟨?_, ?_, ?_⟩; rotate_left; (focus (intro wx hSx; (try dsimp only at hSx); go_simp; (try with_reducible rfl))); (simp only [Act.put, List.setIfInBounds_toArray, List.set_cons_zero, List.set_cons_succ]))
  (refine wpTree_q 12 hTok hOps (by kernel_rfl) rfl rfl ⟨?_, ?_, ?_⟩; rotate_left; (focus (intro wx hSx; (try dsimp only at hSx); go_simp; (try with_reducible rfl))); (simp only [Act.put, List.setIfInBounds_toArray, List.set_cons_zero, List.set_cons_succ]))
  (refine wpTree_q 13 hTok hOps (by kernel_rfl) rfl rfl ⟨?_, ?_, ?_⟩; rotate_left; (focus (intro wx hSx; (try dsimp only at hSx); go_simp; (try with_reducible rfl))); (simp only [Act.put, List.setIfInBounds_toArray, List.set_cons_zero, List.set_cons_succ]))
  refine wpTree_1 14 hOps (by kernel_rfl) (by decide) rfl (fun K' hK => ?_)
  go_simp
  have hbA : Below w.heap.size w (w.alloc (.cells #[.int .i64 0, .int .i64 0, .slice none 0 0] 91)).drew := Below.drew ((Below.refl _ _).alloc (Nat.le_refl _) _)
  have hKA : Blk (w.alloc (.cells #[.int .i64 0, .int .i64 0, .slice none 0 0] 91)).drew w.heap.size #[.int .i64 0, .int .i64 0, .slice none 0 0] 91 := (Blk.new _ _ _).drew
  try dsimp only
  refine hK.out _ _ ⟨(hbA.cell (p := ⟨q.rb, 1, none⟩) (World.lt_of_cell c1)).trans c1, (hbA.cell (p := ⟨q.rb, 3, none⟩) (World.lt_of_cell c3)).trans c3, (hbA.cell (p := ⟨q.yb, x * 3, none⟩) (World.lt_of_cell y0)).trans y0, (hbA.cell (p := ⟨q.yb, x * 3 + 1, none⟩) (World.lt_of_cell y1)).trans y1, (hbA.cell (p := ⟨q.yb, x * 3 + 2, none⟩) (World.lt_of_cell y2)).trans y2⟩ ?_
  clear hK K'
  try simp only [Act.put, List.setIfInBounds_toArray, List.set_cons_zero, List.set_cons_succ]
  refine wpTree_nil hOps (by kernel_rfl) ?_
  refine hT.out _ _ ?_
  simp only [List.drop_succ_cons, List.drop_zero]
  clear hOps hT hTok
  try clear hHeld
  generalize (w.alloc (.cells #[.int .i64 0, .int .i64 0, .slice none 0 0] 91)).drew = wA at hbA hKA ⊢
  obtain ⟨bx, hbx⟩ : ∃ bx, bx = w.heap.size := ⟨_, rfl⟩
  rw [← hbx] at hKA ⊢
  have hbxw : w.heap.size ≤ bx := Nat.le_of_eq hbx.symm
  replace hbx := Lib.hid hbx
  have kc0 := hKA.cellAt (i := 0) rfl
  have kc1 := hKA.cellAt (i := 1) rfl
  have kc2 := hKA.cellAt (i := 2) rfl
  have fz := hKA.frozen 0
  have fz1 := hKA.frozen 1
  have fz2 := hKA.frozen 2
  go_upto_region 4 with fail
  refine Code.wp_world ?_
  intro w5 hw5
  have hB5 : Blk w5 bx #[.int .i64 f, .int .i64 t, .slice ya 0 yc] 91 := by rw [hw5]; exact ((hKA.set 0 (.int .i64 f)).set 1 (.int .i64 t)).set 2 (.slice ya 0 yc)
  have hb5 : Below w.heap.size w w5 := by rw [hw5]; exact ((hbA.setCell (p := ⟨bx, 0, none⟩) (by show _ ≤ bx; omega) _).setCell (p := ⟨bx, 1, none⟩) (by show _ ≤ bx; omega) _).setCell (p := ⟨bx, 2, none⟩) (by show _ ≤ bx; omega) _
  clear hw5 hKA hbA fz fz1 fz2 kc0 kc1 kc2
  have b2 := hB5.cellAt (i := 2) (v := .slice ya 0 yc) rfl
  go_wp2_with fail
  go_ret
  exact ⟨rfl, hb5⟩

set_option maxRecDepth 100000 in
set_option maxHeartbeats 8000000 in
theorem rdlv_some (k j : Nat) (l : List TCount) (r : List (List TCount)) {w : World} {Z : Nat → Prop} {q : RP} {ops : List TOp} {ao : Option Addr} {cap n : Nat} {V : Nat → List TCount} {Y : Nat → List (List TCount)} (h : RG w Z q (.slice ao ops.length cap) n V Y) (hk : k < n) (hj : j < n) (hy : Y (k * n + j) = l :: r)
    (hg : SlA w.heap.size 7 (ROp w.heap.size) w ao cap ops) (hok : (gcheck ops).2 = 0) {N : Nat} (hV : VOk n V N) (hN : N ≤ 1000000000) (hl : l.length ≤ 1048576) :
    Calls Tryz.prog 10 #[.pointer (some ⟨q.rb, 0, none⟩), .int .i64 k, .int .i64 j] w fun e w' => e = .returned (.int .i64 0) ∧ RgP w Z q (.slice ao ops.length cap) n (rdlvV ops V j l) (rdlvY Y (k * n + j)) w' := by
  obtain ⟨c0, c1, c2, c3⟩ := h.cells
  have h8 := h.n8
  have hx := mul_lt (a := k) (b := j) (n := n) hk hj
  obtain ⟨f, t, ya, yc, y0, y1, y2, hyw⟩ := h.way hx
  rw [hy] at y2 hyw
  obtain ⟨yb2, yo, la, lc, rfl, hyb, hc1, hc2, hyc, hli, hrest⟩ := hyw.first
  obtain ⟨va, vc, hv, hvl⟩ := h.view (i := j) (by omega)
  obtain ⟨hs, hb, hVl⟩ := hV j (by omega)
  have hUp := fun W mk (hW : Below w.heap.size w W) hB => rupd_any mk ops ao cap (V j) l va la vc lc W hB (imp_ops2 hg hW) (hvl.sla.imp hW hW.size (fun _ _ _ h => h.imp hW hW.size)) (hli.sla.imp hW hW.size (fun _ _ _ h => h.imp hW hW.size)) hs hb (by omega) (by omega) hok
  have v0 := hv.c0
  have v1 := hv.c1
  obtain ⟨nl, hnl⟩ : ∃ nl, nl = l.length := ⟨_, rfl⟩
  obtain ⟨nr, hnr⟩ : ∃ nr, nr = r.length := ⟨_, rfl⟩
  obtain ⟨nv, hnv⟩ : ∃ nv, nv = (V j).length := ⟨_, rfl⟩
  obtain ⟨no, hno⟩ : ∃ no, no = ops.length := ⟨_, rfl⟩
  obtain ⟨gv, hgv⟩ : ∃ gv : Value, gv = .slice ao ops.length cap := ⟨_, rfl⟩
  rw [List.length_cons, ← hnr] at y2
  rw [← hnr] at hc1
  rw [← hnl] at hyc hUp
  rw [← hnv] at v1 hUp
  rw [← hgv] at h ⊢
  rw [← hgv, hgv, ← hno] at v0
  rw [← hgv, hgv, ← hno] at c0
  rw [← hno] at hUp
  have hzl := h.zlt
  replace hnl := Lib.hid hnl
  replace hnr := Lib.hid hnr
  replace hnv := Lib.hid hnv
  replace hno := Lib.hid hno
  replace hgv := Lib.hid hgv
  replace hUp := Lib.hid hUp
  replace hrest := Lib.hid hrest
  replace hy := Lib.hid hy
  clear hv hs hb hVl hyw
  have d1 : decide ((k : Int) < 0) = false := by simp
  have d2 : decide ((n : Int) ≤ (k : Int)) = false := by simp; omega
  have d3 : decide ((j : Int) < 0) = false := by simp
  have d4 : decide ((n : Int) ≤ (j : Int)) = false := by simp; omega
  have d5 : decide (n ≤ k) = false := by simp; omega
  have d6 : decide (n ≤ j) = false := by simp; omega
  have hp64 : k * n ≤ 64 := Nat.le_trans (Nat.mul_le_mul (by omega : k ≤ 8) h8) (by omega)
  obtain ⟨x, hxe⟩ : ∃ x, x = k * n + j := ⟨_, rfl⟩
  obtain ⟨p, hp⟩ : ∃ p, p = k * n := ⟨_, rfl⟩
  have hmkn : (k : Int) * (n : Int) = (p : Int) := by rw [hp]; exact (Int.natCast_mul k n).symm
  have hwp : IntKind.i64.wrap (p : Int) = (p : Int) := IntWalk.i64_in _ (by omega)
  have hwx : IntKind.i64.wrap ((p : Int) + (j : Int)) = (x : Int) := by rw [IntWalk.i64_in _ (by omega)]; omega
  obtain ⟨z, hz⟩ : ∃ z, z = n * n := ⟨_, rfl⟩
  rw [← hxe] at y0 y1 y2 hx
  rw [← hz] at hx c3
  have hz2 : z ≤ 9223372036854775807 := by have := h.vwc; have : maxLen = 9223372036854775807 := rfl; omega
  replace hz := Lib.hid hz
  replace hp := Lib.hid hp
  replace hxe := Lib.hid hxe
  clear hp64
  go_enter Tryz.func10, Tryz.ntmps10
  go_upto_region 3 with fail
  refine wp_region_tree (fun wx => wx.cell? ⟨q.rb, 1, none⟩ = some (.int .i64 n) ∧ wx.cell? ⟨q.rb, 3, none⟩ = some (.slice (some ⟨q.yb, 0, none⟩) z q.yc) ∧ wx.cell? ⟨q.yb, x * 3, none⟩ = some (.int .i64 f) ∧ wx.cell? ⟨q.yb, x * 3 + 1, none⟩ = some (.int .i64 t) ∧ wx.cell? ⟨q.yb, x * 3 + 2, none⟩ = some (.slice (some ⟨yb2, yo, none⟩) (nr + 1) yc)) 15 16 (by kernel_rfl) rfl (by kernel_rfl) (fun d _ _ _ _ h => by cases d <;> exact h) (⟨c1, c3, y0, y1, y2⟩) (fun opz T hOps hT hTok hHeld => ?_)
  (refine wpTree_q 0 hTok hOps (by kernel_rfl) rfl rfl ⟨?_, ?_, ?_⟩; rotate_left; (focus (intro wx hSx; (try dsimp only at hSx); go_simp; (try with_reducible rfl))); (simp only [Act.put, List.setIfInBounds_toArray, List.set_cons_zero, List.set_cons_succ]))
  (refine wpTree_q 1 hTok hOps (by kernel_rfl) rfl rfl ⟨?_, ?_, ?_⟩; rotate_left; (focus (intro wx hSx; (try dsimp only at hSx); go_simp; (try with_reducible rfl))); (simp only [Act.put, List.setIfInBounds_toArray, List.set_cons_zero, List.set_cons_succ]))
  (refine wpTree_q 2 hTok hOps (by kernel_rfl) rfl rfl ⟨?_, ?_, ?_⟩; rotate_left; (focus (intro wx hSx; (try dsimp only at hSx); go_simp; (try with_reducible rfl))); (simp only [Act.put, List.setIfInBounds_toArray, List.set_cons_zero, List.set_cons_succ]))
  (refine wpTree_q 3 hTok hOps (by kernel_rfl) rfl rfl ⟨?_, ?_, ?_⟩; rotate_left; (focus (intro wx hSx; (try dsimp only at hSx); go_simp; (try with_reducible rfl))); (simp only [Act.put, List.setIfInBounds_toArray, List.set_cons_zero, List.set_cons_succ]))
  (refine wpTree_q 4 hTok hOps (by kernel_rfl) rfl rfl ⟨?_, ?_, ?_⟩; rotate_left; (focus (intro wx hSx; (try dsimp only at hSx); go_simp; (try with_reducible rfl))); (simp only [Act.put, List.setIfInBounds_toArray, List.set_cons_zero, List.set_cons_succ]))
  (refine wpTree_q 5 hTok hOps (by kernel_rfl) rfl rfl ⟨?_, ?_, ?_⟩; rotate_left; (focus (intro wx hSx; (try dsimp only at hSx); go_simp; (try with_reducible rfl))); (simp only [Act.put, List.setIfInBounds_toArray, List.set_cons_zero, List.set_cons_succ]))
  (refine wpTree_q 6 hTok hOps (by kernel_rfl) rfl rfl ⟨?_, ?_, ?_⟩; rotate_left; (focus (intro wx hSx; (try dsimp only at hSx); go_simp; (try with_reducible rfl))); (simp only [Act.put, List.setIfInBounds_toArray, List.set_cons_zero, List.set_cons_succ]))
  (refine wpTree_q 7 hTok hOps (by kernel_rfl) rfl rfl ⟨?_, ?_, ?_⟩; rotate_left; (focus (intro wx hSx; (try dsimp only at hSx); go_simp; (try with_reducible rfl))); (simp only [Act.put, List.setIfInBounds_toArray, List.set_cons_zero, List.set_cons_succ]))
  (refine wpTree_q 8 hTok hOps (by kernel_rfl) rfl rfl ⟨?_, ?_, ?_⟩; rotate_left; (focus (intro wx hSx; (try dsimp only at hSx); go_simp; (try with_reducible rfl))); (simp only [Act.put, List.setIfInBounds_toArray, List.set_cons_zero, List.set_cons_succ]))
  (refine wpTree_q 9 hTok hOps (by kernel_rfl) rfl rfl ⟨?_, ?_, ?_⟩; rotate_left; (focus (intro wx hSx; (try dsimp only at hSx); go_simp; (try with_reducible rfl))); (simp only [Act.put, List.setIfInBounds_toArray, List.set_cons_zero, List.set_cons_succ]))
  (refine wpTree_q 10 hTok hOps (by kernel_rfl) rfl rfl ⟨?_, ?_, ?_⟩; rotate_left; (focus (intro wx hSx; (try dsimp only at hSx); go_simp; (try with_reducible rfl))); (simp only [Act.put, List.setIfInBounds_toArray, List.set_cons_zero, List.set_cons_succ]))
  (refine wpTree_q 11 hTok hOps (by kernel_rfl) rfl rfl ⟨?_, ?_, ?_⟩; rotate_left; (focus (intro wx hSx; (try dsimp only at hSx); go_simp; (try with_reducible rfl))); (simp only [Act.put, List.setIfInBounds_toArray, List.set_cons_zero, List.set_cons_succ]))
  (refine wpTree_q 12 hTok hOps (by kernel_rfl) rfl rfl ⟨?_, ?_, ?_⟩; rotate_left; (focus (intro wx hSx; (try dsimp only at hSx); go_simp; (try with_reducible rfl))); (simp only [Act.put, List.setIfInBounds_toArray, List.set_cons_zero, List.set_cons_succ]))
  (refine wpTree_q 13 hTok hOps (by kernel_rfl) rfl rfl ⟨?_, ?_, ?_⟩; rotate_left; (focus (intro wx hSx; (try dsimp only at hSx); go_simp; (try with_reducible rfl))); (simp only [Act.put, List.setIfInBounds_toArray, List.set_cons_zero, List.set_cons_succ]))
  refine wpTree_1 14 hOps (by kernel_rfl) (by decide) rfl (fun K' hK => ?_)
  go_simp
  have hbA : Below w.heap.size w (w.alloc (.cells #[.int .i64 0, .int .i64 0, .slice none 0 0] 91)).drew := Below.drew ((Below.refl _ _).alloc (Nat.le_refl _) _)
  have hKA : Blk (w.alloc (.cells #[.int .i64 0, .int .i64 0, .slice none 0 0] 91)).drew w.heap.size #[.int .i64 0, .int .i64 0, .slice none 0 0] 91 := (Blk.new _ _ _).drew
  try dsimp only
  refine hK.out _ _ ⟨(hbA.cell (p := ⟨q.rb, 1, none⟩) (World.lt_of_cell c1)).trans c1, (hbA.cell (p := ⟨q.rb, 3, none⟩) (World.lt_of_cell c3)).trans c3, (hbA.cell (p := ⟨q.yb, x * 3, none⟩) (World.lt_of_cell y0)).trans y0, (hbA.cell (p := ⟨q.yb, x * 3 + 1, none⟩) (World.lt_of_cell y1)).trans y1, (hbA.cell (p := ⟨q.yb, x * 3 + 2, none⟩) (World.lt_of_cell y2)).trans y2⟩ ?_
  clear hK K'
  try simp only [Act.put, List.setIfInBounds_toArray, List.set_cons_zero, List.set_cons_succ]
  refine wpTree_nil hOps (by kernel_rfl) ?_
  refine hT.out _ _ ?_
  simp only [List.drop_succ_cons, List.drop_zero]
  clear hOps hT hTok
  try clear hHeld
  generalize (w.alloc (.cells #[.int .i64 0, .int .i64 0, .slice none 0 0] 91)).drew = wA at hbA hKA ⊢
  obtain ⟨bx, hbx⟩ : ∃ bx, bx = w.heap.size := ⟨_, rfl⟩
  rw [← hbx] at hKA ⊢
  have hbxw : w.heap.size ≤ bx := Nat.le_of_eq hbx.symm
  replace hbx := Lib.hid hbx
  have kc0 := hKA.cellAt (i := 0) rfl
  have kc1 := hKA.cellAt (i := 1) rfl
  have kc2 := hKA.cellAt (i := 2) rfl
  have fz := hKA.frozen 0
  have fz1 := hKA.frozen 1
  have fz2 := hKA.frozen 2
  go_upto_region 4 with fail
  refine Code.wp_world ?_
  intro w5 hw5
  have hB5 : Blk w5 bx #[.int .i64 f, .int .i64 t, .slice (some ⟨yb2, yo, none⟩) (nr + 1) yc] 91 := by rw [hw5]; exact ((hKA.set 0 (.int .i64 f)).set 1 (.int .i64 t)).set 2 (.slice (some ⟨yb2, yo, none⟩) (nr + 1) yc)
  have hb5 : Below w.heap.size w w5 := by rw [hw5]; exact ((hbA.setCell (p := ⟨bx, 0, none⟩) (by show _ ≤ bx; omega) _).setCell (p := ⟨bx, 1, none⟩) (by show _ ≤ bx; omega) _).setCell (p := ⟨bx, 2, none⟩) (by show _ ≤ bx; omega) _
  clear hw5 hKA hbA fz fz1 fz2 kc0 kc1 kc2
  have b2 := hB5.cellAt (i := 2) rfl
  have v0' := (hb5.cell (p := ⟨q.vb, j * 2, none⟩) (World.lt_of_cell v0)).trans v0
  have v1' := (hb5.cell (p := ⟨q.vb, j * 2 + 1, none⟩) (World.lt_of_cell v1)).trans v1
  have c2' := (hb5.cell (p := ⟨q.rb, 2, none⟩) (World.lt_of_cell c2)).trans c2
  go_upto_region 7 with fail
  refine Code.wp_world ?_
  intro w7 hw7
  have hb57 : Below w5.heap.size w5 w7 := by rw [hw7]; exact (Below.refl _ _).alloc (Nat.le_refl _) _
  have hT7 : Blk w7 w5.heap.size #[.slice ao no cap, .slice va nv vc] 53 := by rw [hw7]; exact Blk.new _ _ _
  have hB7 := hB5.below hb57 hB5.lt
  have hb7 := hb5.trans (hb57.mono hb5.size)
  have hbl5 := hB5.lt
  obtain ⟨vx, hvx⟩ : ∃ vx, vx = w5.heap.size := ⟨_, rfl⟩
  rw [← hvx] at hT7 ⊢
  have hvb : bx < vx := by omega
  have hvw : w.heap.size ≤ vx := by have := hb5.size; omega
  replace hvx := Lib.hid hvx
  have hU7 := hUp.out w7 vx hb7 hT7
  have l7 := (hb7.cell (p := ⟨yb2, yo, none⟩) hyb).trans hyc
  have hR7 := h.below hb7
  have hlts := h.lts
  clear hw7 hB5 b2 v0' v1' c2' hb57 hUp hb5 hbl5
  have b2 := hB7.cellAt (i := 2) (v := .slice (some ⟨yb2, yo, none⟩) (nr + 1) yc) rfl
  replace hU7 := Lib.hid hU7
  go_wp2_with (go_at_call 30; refine Shut.out ?ka)
  unfold Shut
  refine hU7.out.mono ?_
  rintro e w8 ⟨rfl, hc8, a8, n8, hT8, hS8, hap⟩
  obtain ⟨L2, hL2⟩ : ∃ L2, L2 = (updL ops (V j) l).2 := ⟨_, rfl⟩
  obtain ⟨ue, hue⟩ : ∃ ue, ue = (updL ops (V j) l).1 := ⟨_, rfl⟩
  rw [← hL2] at hT8 hS8 hap
  rw [← hue]
  have hw78 := hc8.size
  have hw07 := hb7.size
  have hR8 : RG w8 Z q gv n V Y := hR7.chg hc8 (fun k e => by subst e; exact ⟨fun z => by have := hzl _ z; omega, by omega, by omega, by omega⟩)
  have hR8 := hR7.newZ hR8
  have hvx7 := hT7.lt
  have hl8 : LiZ w8 (newZ w7 w8 Z) a8 n8 L2 := ⟨hS8, fun d e => by
    rcases hap with ⟨rfl, _⟩ | hap
    · exact .inl (hvl.inZ d e)
    · exact .inr (hap d e)⟩
  have hB8 := hB7.chg hc8 (by omega)
  have hch8 : Chg (fun k => k = q.vb ∨ k = q.yb) w w8 := ((Chg.of_below hb7).mono (fun k h1 h2 => absurd h2 (by omega))).then_new hc8 (fun i hi e => by omega)
  obtain ⟨s2, hs2⟩ : ∃ s2, s2 = L2.length := ⟨_, rfl⟩
  rw [← hs2] at hT8
  replace hL2 := Lib.hid hL2
  replace hue := Lib.hid hue
  replace hs2 := Lib.hid hs2
  have hZ2 : ∀ k, Z k → newZ w7 w8 Z k := fun k z => .inl z
  clear hU7 hc8 hS8 hap hT7 hB7 b2 l7 hR7 hw78 hw07 hvl hli
  have k2 : w8.cell? ⟨q.rb, 2, none⟩ = some (.slice (some ⟨q.vb, 0, none⟩) (n + 1) q.vc) := hR8.cells.2.2.1
  have t0 := hT8.cellAt (i := 0) (v := .slice ao no cap) rfl
  have t1 := hT8.cellAt (i := 1) (v := .slice a8 s2 n8) rfl
  dsimp only
  go_upto_region 8 with fail
  refine wp_region_quiet_tail 7 (by kernel_rfl) (by kernel_rfl) ?_
  simp only [List.take_succ_cons, List.take_zero, List.drop_succ_cons, List.drop_zero]
  repeat (go_big_quiet_step (fail))
  refine wpQuiet_nil ?_
  rintro w9 ⟨mqw9, hmqw9⟩
  have hbqw9 : Below w8.heap.size w8 w9 := by rw [hmqw9]; exact below_drewN (Below.refl _ _) mqw9
  clear hmqw9
  have hR9 := hR8.below hbqw9
  have hl9 := hl8.below hbqw9 hR8.zlt
  have hB9 := hB8.below hbqw9 hB8.lt
  have hch9 : Chg (fun k => k = q.vb ∨ k = q.yb) w w9 := hch8.then_new (Chg.of_below hbqw9) (fun i hi e => by have : w8.heap.size ≤ i := e; have := hch8.size; omega)
  clear hR8 hl8 hB8 hT8 k2 t0 t1 hch8
  obtain ⟨va9, vc9, hv9, _⟩ := hR9.view (i := j) (by omega)
  have v0 := hv9.c0
  have v1 := hv9.c1
  have fv0 := hR9.frozenV (j * 2)
  have fv1 := hR9.frozenV (j * 2 + 1)
  go_upto_region 9 with fail
  refine Code.wp_world ?_
  intro w10 hw10
  have hR10 := hR9.setV (i := j) (by omega) hl9
  rw [hgv.out, ← hno.out, ← hs2.out, ← hw10] at hR10
  have hc910 : Chg (fun k => k = q.vb) w9 w10 := by rw [hw10]; exact ((Chg.refl (fun k => k = q.vb) w9).setCell ⟨q.vb, j * 2, none⟩ _ (fun _ => rfl)).setCell ⟨q.vb, j * 2 + 1, none⟩ _ (fun _ => rfl)
  have hB10 := hB9.chg hc910 (by omega)
  have hch10 : Chg (fun k => k = q.vb ∨ k = q.yb) w w10 := hch9.trans (hc910.mono (fun k _ e => .inl e))
  clear hw10 hc910 hR9 hl9 hB9 hch9 hv9 v0 v1 fv0 fv1
  have b2 := hB10.cellAt (i := 2) (v := .slice (some ⟨yb2, yo, none⟩) (nr + 1) yc) rfl
  have fb2 := hB10.frozen 2
  obtain ⟨xo, hxo⟩ : ∃ xo : Option Addr, xo = (if yc = 1 then some ⟨yb2, yo, none⟩ else some ⟨yb2, yo + 1, none⟩) := ⟨_, rfl⟩
  have hxo' := hxo.symm
  have hrs := hrest.out xo hxo
  clear hxo
  go_upto_region 10 with fail
  refine Code.wp_world ?_
  intro w11 hw11
  have hc1011 : Chg (fun k => k = bx) w10 w11 := by rw [hw11]; exact (Chg.refl (fun k => k = bx) w10).setCell ⟨bx, 2, none⟩ _ (fun _ => rfl)
  have hB11 : Blk w11 bx #[.int .i64 f, .int .i64 t, .slice xo nr (yc - 1)] 91 := by rw [hw11]; exact hB10.set 2 (.slice xo nr (yc - 1))
  have hR11 := hR10.chg hc1011 (fun k e => by
    subst e
    exact ⟨fun z => z.elim (fun z => by have := hzl _ z; omega) (fun z => by omega), by omega, by omega, by omega⟩)
  have hch11 : Chg (fun k => k = q.vb ∨ k = q.yb) w w11 := hch10.then_new hc1011 (fun i hi e => by omega)
  have hzn := h.zne
  have hW11 := (hrs.chg hch11 (fun k z e => by have := hzn k z; omega)).sub hZ2
  clear hw11 hc1011 hB10 hR10 hch10 b2 fb2 hxo' hrs hrest
  have k1 := hR11.cells.2.1
  have k3 := hR11.cells.2.2.2
  rw [← hz.out] at k3
  have b0 := hB11.cellAt (i := 0) (v := .int .i64 f) rfl
  have b1 := hB11.cellAt (i := 1) (v := .int .i64 t) rfl
  have b2 := hB11.cellAt (i := 2) (v := .slice xo nr (yc - 1)) rfl
  refine wp_region_quiet_tail 14 (by kernel_rfl) (by kernel_rfl) ?_
  simp only [List.take_succ_cons, List.take_zero, List.drop_succ_cons, List.drop_zero]
  repeat (go_big_quiet_step (fail))
  refine wpQuiet_nil ?_
  rintro w12 ⟨mqw12, hmqw12⟩
  have hbqw12 : Below w11.heap.size w11 w12 := by rw [hmqw12]; exact below_drewN (Below.refl _ _) mqw12
  clear hmqw12
  have hR12 := hR11.below hbqw12
  have hW12 := hW11.chg (Chg.of_below hbqw12) (fun k z e => by have : w11.heap.size ≤ k := e; have := hR11.zlt k z; omega)
  have hch12 : Chg (fun k => k = q.vb ∨ k = q.yb) w w12 := hch11.then_new (Chg.of_below hbqw12) (fun i hi e => by have : w11.heap.size ≤ i := e; have := hch11.size; omega)
  clear hR11 hW11 hch11 hB11 k1 k3 b0 b1 b2
  obtain ⟨f9, t9, a9, c9, y0, y1, y2, _⟩ := hR12.way (i := x) (by rw [← hz.out]; exact hx)
  have fy0 := hR12.frozenY (x * 3)
  have fy1 := hR12.frozenY (x * 3 + 1)
  have fy2 := hR12.frozenY (x * 3 + 2)
  go_upto_region 11 with fail
  refine Code.wp_world ?_
  intro w13 hw13
  have hR13 := hR12.setY (i := x) (f := f) (t := t) (by rw [← hz.out]; exact hx) hW12
  rw [← hnr.out, ← hw13, show (Value.slice ao no cap) = gv by rw [hgv.out, ← hno.out]] at hR13
  have hch13 : Chg (fun k => k = q.vb ∨ k = q.yb) w w13 := by rw [hw13]; exact ((hch12.setCell ⟨q.yb, x * 3, none⟩ _ (fun _ => .inr rfl)).setCell ⟨q.yb, x * 3 + 1, none⟩ _ (fun _ => .inr rfl)).setCell ⟨q.yb, x * 3 + 2, none⟩ _ (fun _ => .inr rfl)
  have hfin : RgP w Z q gv n (rdlvV ops V j l) (rdlvY Y (k * n + j)) w13 := ⟨hch13, newZ w7 w8 Z, fun k z => Or.elim z Or.inl (fun z => .inr (by omega)), hR13.congr (fun i hi => by
    unfold rdlvV
    rw [hL2.out]) (fun i hi => by
    unfold rdlvY
    rw [← hxe.out, hxe.out, hy.out]
    rfl)⟩
  clear hw13 hR12 hW12 hch12 hR13 hch13 y0 y1 y2 fy0 fy1 fy2
  replace hfin := Lib.hid hfin
  go_wp2_with fail
  go_ret
  exact ⟨rfl, hfin.out⟩
end Go.Proofs.YtjmbafcpbagpdaaGreat

/- Gossip, the document's side: Stands. -/
namespace Go.Proofs.YtjmbafcpbagpdaaGreat
open Go.RowKit Go.Shelf Go.Maps
attribute [local go_sem] Oper.semAt_some
set_option linter.unusedVariables false
set_option linter.unusedSimpArgs false

/-- What Stands reads while it goes. -/
structure RS5 (w wr : World) (q : RP) (n : Nat) (ao : Option Addr) (no cap : Nat) (sb : Nat) (sa : Option Addr) (sn sc : Nat) (S : List TCount) : Prop where
  bel : Below w.heap.size w wr
  sbk : Blk wr sb #[.slice ao no cap, .slice sa sn sc] 53
  ssl : SlA wr.heap.size 4 (RCount wr.heap.size) wr sa sc S
theorem RS5.below {w wr w' : World} {q : RP} {n : Nat} {ao : Option Addr} {no cap sb : Nat} {sa : Option Addr} {sn sc : Nat} {S : List TCount} (h : RS5 w wr q n ao no cap sb sa sn sc S) (hb : Below wr.heap.size wr w') : RS5 w w' q n ao no cap sb sa sn sc S :=
  ⟨h.bel.trans (hb.mono h.bel.size), h.sbk.below hb h.sbk.lt, h.ssl.imp hb hb.size (fun _ _ _ h => h.imp hb hb.size)⟩

set_option maxRecDepth 100000 in
set_option maxHeartbeats 4000000 in
theorem rstands_any (l : List TCount) (la : Option Addr) (lc : Nat) {w : World} {Z : Nat → Prop} {q : RP} {ops : List TOp} {ao : Option Addr} {cap n : Nat} {V : Nat → List TCount} {Y : Nat → List (List TCount)} (h : RG w Z q (.slice ao ops.length cap) n V Y) (hg : SlA w.heap.size 7 (ROp w.heap.size) w ao cap ops) (hok : (gcheck ops).2 = 0)
    (hl : SlA w.heap.size 4 (RCount w.heap.size) w la lc l) (hz : l.length ≤ 1073741824) :
    Calls Tryz.prog 36 #[.pointer (some ⟨q.rb, 0, none⟩), .slice la l.length lc] w fun e w' => e = .returned (.bool (rstandsL ops (V n) l)) ∧ Below w.heap.size w w' := by
  have hUp := fun W mk (hB : Blk W mk #[.slice ao ops.length cap, .slice none ([] : List TCount).length 0] 53) (hW : Below w.heap.size w W) => rupd_any mk ops ao cap [] l none la 0 lc W hB (imp_ops2 hg hW) (SlA.nil _ _ _ _) (hl.imp hW hW.size (fun _ _ _ h => h.imp hW hW.size)) List.Pairwise.nil (fun s => by show -4611686018427387904 ≤ (0 : Int) ∧ (0 : Int) ≤ 4611686018427387904; omega) hz (by simp; omega) hok
  have hCd := fun W (hW : Below w.heap.size w W) (a b : TStamp) => rcould_any ops cap ao a.fLoc a.fT.fEpoch a.fT.fRound b.fLoc b.fT.fEpoch b.fT.fRound w.heap.size W hW.size (imp_ops hg hW)
  obtain ⟨va, vc, hv, hvl⟩ := h.view (i := n) (by omega)
  have hCn := fun W (hW : Below w.heap.size w W) (s : TStamp) => rcntA q.vb (.slice ao ops.length cap) (V n) va vc s W (n * 2) (hv.below hW) (hvl.sla.imp hW hW.size (fun _ _ _ h => h.imp hW hW.size))
  obtain ⟨c0, c1, c2, c3⟩ := h.cells
  have h8 := h.n8
  obtain ⟨no, hn⟩ : ∃ no, no = ops.length := ⟨_, rfl⟩
  obtain ⟨m, hm⟩ : ∃ m, m = l.length := ⟨_, rfl⟩
  obtain ⟨T, hT⟩ : ∃ T, T = V n := ⟨_, rfl⟩
  obtain ⟨r, hr⟩ : ∃ r, r = rstandsL ops T l := ⟨_, rfl⟩
  rw [← hT] at hCn ⊢
  rw [← hr]
  rw [← hn] at hUp hCd c0
  rw [← hm] at hUp ⊢
  obtain ⟨⟨ue, S⟩, hU⟩ : ∃ u, u = updL ops [] l := ⟨_, rfl⟩
  rw [← hU] at hUp
  unfold rstandsL at hr
  rw [← hU] at hr
  dsimp only at hr
  replace hU := Lib.hid hU
  replace hn := Lib.hid hn
  replace hm := Lib.hid hm
  replace hT := Lib.hid hT
  replace hCd := Lib.hid hCd
  replace hCn := Lib.hid hCn
  replace hr := Lib.hid hr
  clear h hv hvl hl hg
  go_enter Tryz.func36, Tryz.ntmps36
  go_upto_region 2 with fail
  refine Code.wp_world ?_
  intro w1 hw1
  have hb1 : Below w.heap.size w w1 := by rw [hw1]; exact (Below.refl _ _).alloc (Nat.le_refl _) _
  have hB1 : Blk w1 w.heap.size #[.slice ao no cap, .slice none ([] : List TCount).length 0] 53 := by rw [hw1]; exact Blk.new _ _ _
  have hU1 := hUp w1 w.heap.size hB1 hb1
  obtain ⟨sb, hsb⟩ : ∃ sb, sb = w.heap.size := ⟨_, rfl⟩
  rw [← hsb] at hB1 hU1 ⊢
  have hsw : w.heap.size ≤ sb := by omega
  replace hsb := Lib.hid hsb
  replace hU1 := Lib.hid hU1
  clear hw1 hUp
  go_wp2_with (go_at_call 30; refine Shut.out ?ka)
  unfold Shut
  refine hU1.out.mono ?_
  rintro e w2 ⟨rfl, hc2, sa, sc, hB2, hS2, -⟩
  dsimp only at hB2 hS2 ⊢
  have hb2 : Below w.heap.size w w2 := hb1.trans (hc2.below hb1.size (fun k hk e => by omega))
  obtain ⟨sn, hsn⟩ : ∃ sn, sn = S.length := ⟨_, rfl⟩
  rw [← hsn] at hB2
  have hslen := hS2.len
  rw [← hsn] at hslen
  have hR2 : RS5 w w2 q n ao no cap sb sa sn sc S := ⟨hb2, hB2, hS2⟩
  replace hsn := Lib.hid hsn
  clear hU1 hc2 hB2 hS2 hB1 hb1 hb2
  by_cases hue : ue = 0
  rotate_left
  · have d1 : (ue != 0) = true := by simpa using hue
    have hbl := hR2.bel
    have hrf : r = false := by rw [hr.out, if_pos hue]
    clear hue hr hR2
    replace hrf := Lib.hid hrf
    go_wp2_with fail
    go_ret
    exact ⟨by rw [hrf.out]; rfl, hbl⟩
  have hr2 : r = S.all (rstB ops T S) := by rw [hr.out, if_neg (by simpa using hue)]
  clear hr
  replace hr2 := Lib.hid hr2
  subst hue
  go_wp2_with fail
  go_loopw [6] (fun x6 wr => ∃ i : Nat, i ≤ sn ∧ x6 = .int .i64 i ∧ RS5 w wr q n ao no cap sb sa sn sc S ∧ Hid ((S.take i).all (rstB ops T S) = true)) (fun x6 _ => sn - (intOf x6).toNat)
  case atStart => exact ⟨0, Nat.zero_le _, rfl, hR2, Lib.hid rfl⟩
  case round =>
    clear hR2
    obtain ⟨i, hi, rfl, hR, hI⟩ := hrel
    have m1 := hR.sbk.cellAt (i := 1) (v := .slice sa sn sc) rfl
    by_cases hin : i < sn
    rotate_left
    · have d1 : decide ((i : Int) < (sn : Int)) = false := by simp; omega
      have hrt : r = true := by rw [hr2.out, ← hI.out, List.take_of_length_le (by rw [← hsn.out]; omega)]
      have hbl := hR.bel
      clear hr2 hI
      replace hrt := Lib.hid hrt
      go_wp2_with fail
      go_ret
      exact ⟨by rw [hrt.out]; rfl, hbl⟩
    have d1 : decide ((i : Int) < (sn : Int)) = true := by simp; omega
    have hiS : i < S.length := by rw [← hsn.out]; exact hin
    obtain ⟨b2, off2, rfl, hb2l, _⟩ := hR.ssl.addr (by omega)
    obtain ⟨x, hx⟩ : ∃ x, S[i] = x := ⟨_, rfl⟩
    obtain ⟨e0, e1, e2, e3, _⟩ := RCount.at hR.ssl hiS hx
    have htk : (S.take (i + 1)).all (rstB ops T S) = rstB ops T S x := by rw [List.take_succ_eq_append_getElem hiS, List.all_append, hI.out, hx]; simp
    have hbad : rstB ops T S x = false → r = false := fun hb => by
      rw [hr2.out, Bool.eq_false_iff]
      intro ha
      rw [List.all_eq_true] at ha
      have := ha x (by rw [← hx]; exact List.getElem_mem hiS)
      rw [hb] at this
      cases this
    replace htk := Lib.hid htk
    replace hbad := Lib.hid hbad
    clear hx hI
    go_upto_region 8 with fail
    refine Code.wp_world ?_
    intro w5 hw5
    have hb5 : Below wr.heap.size wr w5 := by rw [hw5]; exact (Below.refl _ _).alloc (Nat.le_refl _) _
    have hX5 : Blk w5 wr.heap.size #[.int .i64 x.fS.fLoc, .int .i64 x.fS.fT.fEpoch, .int .i64 x.fS.fT.fRound, .int .i64 x.fN] 67 := by rw [hw5]; exact Blk.new _ _ _
    have hR5 := hR.below hb5
    obtain ⟨xb, hxb⟩ : ∃ xb, xb = wr.heap.size := ⟨_, rfl⟩
    rw [← hxb] at hX5 ⊢
    replace hxb := Lib.hid hxb
    clear hw5 hb5 e0 e1 e2 e3 m1 hR
    have hbw5 := hR5.bel
    have hsw5 := hbw5.size
    have x0 := hX5.cellAt (i := 0) (v := .int .i64 x.fS.fLoc) rfl
    have x1 := hX5.cellAt (i := 1) (v := .int .i64 x.fS.fT.fEpoch) rfl
    have x2 := hX5.cellAt (i := 2) (v := .int .i64 x.fS.fT.fRound) rfl
    have x3 := hX5.cellAt (i := 3) (v := .int .i64 x.fN) rfl
    have f0 := Wd.cell x0 (World.lt_of_cell x0)
    have f1 := Wd.cell x1 (World.lt_of_cell x1)
    have f2 := Wd.cell x2 (World.lt_of_cell x2)
    have f3 := Wd.cell x3 (World.lt_of_cell x3)
    have k1 := (hbw5.cell (p := ⟨q.rb, 1, none⟩) (World.lt_of_cell c1)).trans c1
    have k2 := (hbw5.cell (p := ⟨q.rb, 2, none⟩) (World.lt_of_cell c2)).trans c2
    have h1 := Wd.cell k1 (World.lt_of_cell k1)
    have h2 := Wd.cell k2 (World.lt_of_cell k2)
    by_cases hneg : x.fN < 0
    · have dn : decide (x.fN < 0) = true := by simpa using hneg
      have hcn := fun W hW => hCn.out W hW x.fS
      obtain ⟨ct, hct⟩ : ∃ ct, ct = cntL T x.fS := ⟨_, rfl⟩
      obtain ⟨mg, hmg⟩ : ∃ mg, mg = wrap64 (-x.fN) := ⟨_, rfl⟩
      rw [← hct] at hcn
      have hst : rstB ops T S x = (!(decide (ct < mg)) && (true || S.any fun k => decide (k.fN < 0) && cld ops k.fS x.fS)) := by unfold rstB; rw [dn, ← hct, ← hmg]; rfl
      rw [Bool.true_or, Bool.and_true] at hst
      have hm2 : wrap64 (-x.fN) = mg := hmg.symm
      replace hct := Lib.hid hct
      replace hmg := Lib.hid hmg
      replace hst := Lib.hid hst
      replace hcn := Lib.hid hcn
      clear hneg
      by_cases hlt : ct < mg
      · have dl : decide (ct < mg) = true := by simpa using hlt
        have hrf : r = false := hbad.out (by rw [hst.out, dl]; rfl)
        clear hst hbad htk hlt
        replace hrf := Lib.hid hrf
        refine wp_region_below (by kernel_rfl) (by kernel_rfl) ?_
        repeat (go_big_quiet_step ((go_at_call 58; exact Calls.quiet_below (hcn.out _ (hbw5.trans (Below.mono (Wd.h _) hsw5))))))
        refine wpQuiet_nil ?_
        rintro _ ⟨u, rfl⟩
        have hbu := hbw5.trans (u.h.mono hbw5.size)
        obtain ⟨w8, hw8⟩ : ∃ w8, w8 = u.v := ⟨_, rfl⟩
        rw [← hw8] at hbu ⊢
        clear hw8 f0 f1 f2 f3 h1 h2 x0 x1 x2 x3 k1 k2 hm2
        go_wp2_with fail
        go_ret
        exact ⟨by rw [hrf.out]; rfl, hbu⟩
      · have dl : decide (ct < mg) = false := by simpa using hlt
        have htk2 : (S.take (i + 1)).all (rstB ops T S) = true := by rw [htk.out, hst.out, dl]; rfl
        replace htk2 := Lib.hid htk2
        clear hst hbad htk hlt
        refine wp_region_below (by kernel_rfl) (by kernel_rfl) ?_
        repeat (go_big_quiet_step ((go_at_call 58; exact Calls.quiet_below (hcn.out _ (hbw5.trans (Below.mono (Wd.h _) hsw5))))))
        refine wpQuiet_nil ?_
        rintro _ ⟨u, rfl⟩
        have hR8 := hR5.below u.h
        have hX8 := hX5.below u.h hX5.lt
        obtain ⟨w8, hw8⟩ : ∃ w8, w8 = u.v := ⟨_, rfl⟩
        rw [← hw8] at hR8 hX8 ⊢
        clear hw8 f0 f1 f2 f3 h1 h2 x0 x1 x2 x3 k1 k2 hm2 hR5 hX5 hbw5 hsw5
        have hend : ∀ ob, (true || S.any fun k => decide (k.fN < 0) && cld ops k.fS x.fS) = ob → ob = true := fun ob h => by rw [← h]; rfl
        have x3 := hX8.cellAt (i := 3) (v := .int .i64 x.fN) rfl
        go_wp2_with fail
        clear x3
        go_loopw [8, 9] (fun x8 x9 wr2 => ∃ (j : Nat) (ob : Bool), j ≤ sn ∧ x8 = .bool ob ∧ x9 = .int .i64 j ∧ RS5 w wr2 q n ao no cap sb (some ⟨b2, off2, none⟩) sn sc S ∧ Blk wr2 xb #[.int .i64 x.fS.fLoc, .int .i64 x.fS.fT.fEpoch, .int .i64 x.fS.fT.fRound, .int .i64 x.fN] 67 ∧ Hid ((true || (S.take j).any fun k => decide (k.fN < 0) && cld ops k.fS x.fS) = ob)) (fun _ x9 _ => sn - (intOf x9).toNat)
        case atStart => exact ⟨0, true, Nat.zero_le _, rfl, rfl, hR8, hX8, Lib.hid (by simp)⟩
        case round =>
          clear hR8 hX8
          obtain ⟨j, ob, hj, rfl, rfl, hR, hX, hJ⟩ := hrel
          have m1 := hR.sbk.cellAt (i := 1) (v := .slice (some ⟨b2, off2, none⟩) sn sc) rfl
          by_cases hjn : j < sn
          · have d2 : decide ((j : Int) < (sn : Int)) = true := by simp; omega
            have hjS : j < S.length := by rw [← hsn.out]; exact hjn
            obtain ⟨y, hy⟩ : ∃ y, S[j] = y := ⟨_, rfl⟩
            obtain ⟨e0, e1, e2, e3, _⟩ := RCount.at hR.ssl hjS hy
            have hbw := hR.bel
            have hsw6 := hbw.size
            have x0 := hX.cellAt (i := 0) (v := .int .i64 x.fS.fLoc) rfl
            have x1 := hX.cellAt (i := 1) (v := .int .i64 x.fS.fT.fEpoch) rfl
            have x2 := hX.cellAt (i := 2) (v := .int .i64 x.fS.fT.fRound) rfl
            have k0 := (hbw.cell (p := ⟨q.rb, 0, none⟩) (World.lt_of_cell c0)).trans c0
            have g0 := Wd.cell x0 (World.lt_of_cell x0)
            have g1 := Wd.cell x1 (World.lt_of_cell x1)
            have g2 := Wd.cell x2 (World.lt_of_cell x2)
            have h0 := Wd.cell k0 (World.lt_of_cell k0)
            have h1 := Wd.cell m1 (World.lt_of_cell m1)
            have f0 := Wd.cell e0 (World.lt_of_cell e0)
            have f1 := Wd.cell e1 (World.lt_of_cell e1)
            have f2 := Wd.cell e2 (World.lt_of_cell e2)
            have f3 := Wd.cell e3 (World.lt_of_cell e3)
            have hsnoc : (true || (S.take (j + 1)).any fun k => decide (k.fN < 0) && cld ops k.fS x.fS) = (ob || (decide (y.fN < 0) && cld ops y.fS x.fS)) := by
              rw [List.take_succ_eq_append_getElem hjS, List.any_append, ← hJ.out, hy]
              simp [Bool.or_assoc]
            have hcd := fun W hW => hCd.out W hW y.fS x.fS
            obtain ⟨cv, hcv⟩ : ∃ cv, cv = cld ops y.fS x.fS := ⟨_, rfl⟩
            rw [← hcv] at hsnoc
            unfold cld at hcv
            rw [← hcv] at hcd
            replace hcv := Lib.hid hcv
            replace hcd := Lib.hid hcd
            clear hy hJ e0 e1 e2 e3
            by_cases hyn : y.fN < 0
            · have dy : decide (y.fN < 0) = true := by simpa using hyn
              rw [dy, Bool.true_and] at hsnoc
              replace hsnoc := Lib.hid hsnoc
              clear hyn
              go_upto_region 14 with fail
              refine wp_region_below (by kernel_rfl) (by kernel_rfl) ?_
              repeat (go_big_quiet_step ((go_at_call 41; exact Calls.quiet_below (hcd.out _ (hbw.trans (Below.mono (Wd.h _) hsw6))))))
              refine wpQuiet_nil ?_
              rintro _ ⟨u, rfl⟩
              have hR9 := hR.below u.h
              have hX9 := hX.below u.h hX.lt
              obtain ⟨w9, hw9⟩ : ∃ w9, w9 = u.v := ⟨_, rfl⟩
              rw [← hw9] at hR9 hX9 ⊢
              clear hw9 f0 f1 f2 f3 g0 g1 g2 h0 h1 x0 x1 x2 k0 m1 hR hX hbw hsw6 hcd
              cases cv with
              | true =>
                rw [Bool.or_true] at hsnoc
                go_wp2_with fail
                go_roundw
                case rel => exact ⟨j + 1, true, by omega, rfl, by go_num, hR9, hX9, hsnoc⟩
                case measure => simp [intOf]; omega
              | false =>
                rw [Bool.or_false] at hsnoc
                go_wp2_with fail
                go_roundw
                case rel => exact ⟨j + 1, ob, by omega, rfl, by go_num, hR9, hX9, hsnoc⟩
                case measure => simp [intOf]; omega
            · have dy : decide (y.fN < 0) = false := by simpa using hyn
              rw [dy, Bool.false_and, Bool.or_false] at hsnoc
              replace hsnoc := Lib.hid hsnoc
              clear hyn
              go_upto_region 14 with fail
              refine wp_region_below (by kernel_rfl) (by kernel_rfl) ?_
              repeat (go_big_quiet_step (fail))
              refine wpQuiet_nil ?_
              rintro _ ⟨u, rfl⟩
              have hR9 := hR.below u.h
              have hX9 := hX.below u.h hX.lt
              obtain ⟨w9, hw9⟩ : ∃ w9, w9 = u.v := ⟨_, rfl⟩
              rw [← hw9] at hR9 hX9 ⊢
              clear hw9 f0 f1 f2 f3 g0 g1 g2 h0 h1 x0 x1 x2 k0 m1 hR hX hbw hsw6 hcd
              go_wp2_with fail
              go_roundw
              case rel => exact ⟨j + 1, ob, by omega, rfl, by go_num, hR9, hX9, hsnoc⟩
              case measure => simp [intOf]; omega
          · have d2 : decide ((j : Int) < (sn : Int)) = false := by simp; omega
            have hJ2 := hJ.out
            rw [List.take_of_length_le (by rw [← hsn.out]; omega)] at hJ2
            have hbl := hR.bel
            cases ob with
            | true =>
              have htk3 : Hid ((S.take (i + 1)).all (rstB ops T S) = true) := Lib.hid (by exact htk2.out)
              clear hJ2 hJ hX
              go_wp2_with fail
              go_roundw
              case rel => exact ⟨i + 1, by omega, by go_num, hR, htk3⟩
              case measure => simp [intOf]; omega
            | false =>
              have hrf : r = false := by cases hend _ hJ2
              replace hrf := Lib.hid hrf
              clear hJ2 hJ hX hR
              go_wp2_with fail
              go_ret
              exact ⟨by rw [hrf.out]; rfl, hbl⟩
    · have dn : decide (x.fN < 0) = false := by simpa using hneg
      have hst : rstB ops T S x = (S.any fun k => decide (k.fN < 0) && cld ops k.fS x.fS) := by unfold rstB; rw [dn]; rfl
      replace hst := Lib.hid hst
      clear hneg
      refine wp_region_below (by kernel_rfl) (by kernel_rfl) ?_
      repeat (go_big_quiet_step (fail))
      refine wpQuiet_nil ?_
      rintro _ ⟨u, rfl⟩
      have hR8 := hR5.below u.h
      have hX8 := hX5.below u.h hX5.lt
      obtain ⟨w8, hw8⟩ : ∃ w8, w8 = u.v := ⟨_, rfl⟩
      rw [← hw8] at hR8 hX8 ⊢
      clear hw8 f0 f1 f2 f3 h1 h2 x0 x1 x2 x3 k1 k2 hR5 hX5 hbw5 hsw5
      have x3 := hX8.cellAt (i := 3) (v := .int .i64 x.fN) rfl
      go_wp2_with fail
      clear x3
      go_loopw [8, 9] (fun x8 x9 wr2 => ∃ (j : Nat) (ob : Bool), j ≤ sn ∧ x8 = .bool ob ∧ x9 = .int .i64 j ∧ RS5 w wr2 q n ao no cap sb (some ⟨b2, off2, none⟩) sn sc S ∧ Blk wr2 xb #[.int .i64 x.fS.fLoc, .int .i64 x.fS.fT.fEpoch, .int .i64 x.fS.fT.fRound, .int .i64 x.fN] 67 ∧ Hid ((false || (S.take j).any fun k => decide (k.fN < 0) && cld ops k.fS x.fS) = ob)) (fun _ x9 _ => sn - (intOf x9).toNat)
      case atStart => exact ⟨0, false, Nat.zero_le _, rfl, rfl, hR8, hX8, Lib.hid (by simp)⟩
      case round =>
        clear hR8 hX8
        obtain ⟨j, ob, hj, rfl, rfl, hR, hX, hJ⟩ := hrel
        have m1 := hR.sbk.cellAt (i := 1) (v := .slice (some ⟨b2, off2, none⟩) sn sc) rfl
        by_cases hjn : j < sn
        · have d2 : decide ((j : Int) < (sn : Int)) = true := by simp; omega
          have hjS : j < S.length := by rw [← hsn.out]; exact hjn
          obtain ⟨y, hy⟩ : ∃ y, S[j] = y := ⟨_, rfl⟩
          obtain ⟨e0, e1, e2, e3, _⟩ := RCount.at hR.ssl hjS hy
          have hbw := hR.bel
          have hsw6 := hbw.size
          have x0 := hX.cellAt (i := 0) (v := .int .i64 x.fS.fLoc) rfl
          have x1 := hX.cellAt (i := 1) (v := .int .i64 x.fS.fT.fEpoch) rfl
          have x2 := hX.cellAt (i := 2) (v := .int .i64 x.fS.fT.fRound) rfl
          have k0 := (hbw.cell (p := ⟨q.rb, 0, none⟩) (World.lt_of_cell c0)).trans c0
          have g0 := Wd.cell x0 (World.lt_of_cell x0)
          have g1 := Wd.cell x1 (World.lt_of_cell x1)
          have g2 := Wd.cell x2 (World.lt_of_cell x2)
          have h0 := Wd.cell k0 (World.lt_of_cell k0)
          have h1 := Wd.cell m1 (World.lt_of_cell m1)
          have f0 := Wd.cell e0 (World.lt_of_cell e0)
          have f1 := Wd.cell e1 (World.lt_of_cell e1)
          have f2 := Wd.cell e2 (World.lt_of_cell e2)
          have f3 := Wd.cell e3 (World.lt_of_cell e3)
          have hsnoc : (false || (S.take (j + 1)).any fun k => decide (k.fN < 0) && cld ops k.fS x.fS) = (ob || (decide (y.fN < 0) && cld ops y.fS x.fS)) := by
            rw [List.take_succ_eq_append_getElem hjS, List.any_append, ← hJ.out, hy]
            simp [Bool.or_assoc]
          have hcd := fun W hW => hCd.out W hW y.fS x.fS
          obtain ⟨cv, hcv⟩ : ∃ cv, cv = cld ops y.fS x.fS := ⟨_, rfl⟩
          rw [← hcv] at hsnoc
          unfold cld at hcv
          rw [← hcv] at hcd
          replace hcv := Lib.hid hcv
          replace hcd := Lib.hid hcd
          clear hy hJ e0 e1 e2 e3
          by_cases hyn : y.fN < 0
          · have dy : decide (y.fN < 0) = true := by simpa using hyn
            rw [dy, Bool.true_and] at hsnoc
            replace hsnoc := Lib.hid hsnoc
            clear hyn
            go_upto_region 14 with fail
            refine wp_region_below (by kernel_rfl) (by kernel_rfl) ?_
            repeat (go_big_quiet_step ((go_at_call 41; exact Calls.quiet_below (hcd.out _ (hbw.trans (Below.mono (Wd.h _) hsw6))))))
            refine wpQuiet_nil ?_
            rintro _ ⟨u, rfl⟩
            have hR9 := hR.below u.h
            have hX9 := hX.below u.h hX.lt
            obtain ⟨w9, hw9⟩ : ∃ w9, w9 = u.v := ⟨_, rfl⟩
            rw [← hw9] at hR9 hX9 ⊢
            clear hw9 f0 f1 f2 f3 g0 g1 g2 h0 h1 x0 x1 x2 k0 m1 hR hX hbw hsw6 hcd
            cases cv with
            | true =>
              rw [Bool.or_true] at hsnoc
              go_wp2_with fail
              go_roundw
              case rel => exact ⟨j + 1, true, by omega, rfl, by go_num, hR9, hX9, hsnoc⟩
              case measure => simp [intOf]; omega
            | false =>
              rw [Bool.or_false] at hsnoc
              go_wp2_with fail
              go_roundw
              case rel => exact ⟨j + 1, ob, by omega, rfl, by go_num, hR9, hX9, hsnoc⟩
              case measure => simp [intOf]; omega
          · have dy : decide (y.fN < 0) = false := by simpa using hyn
            rw [dy, Bool.false_and, Bool.or_false] at hsnoc
            replace hsnoc := Lib.hid hsnoc
            clear hyn
            go_upto_region 14 with fail
            refine wp_region_below (by kernel_rfl) (by kernel_rfl) ?_
            repeat (go_big_quiet_step (fail))
            refine wpQuiet_nil ?_
            rintro _ ⟨u, rfl⟩
            have hR9 := hR.below u.h
            have hX9 := hX.below u.h hX.lt
            obtain ⟨w9, hw9⟩ : ∃ w9, w9 = u.v := ⟨_, rfl⟩
            rw [← hw9] at hR9 hX9 ⊢
            clear hw9 f0 f1 f2 f3 g0 g1 g2 h0 h1 x0 x1 x2 k0 m1 hR hX hbw hsw6 hcd
            go_wp2_with fail
            go_roundw
            case rel => exact ⟨j + 1, ob, by omega, rfl, by go_num, hR9, hX9, hsnoc⟩
            case measure => simp [intOf]; omega
        · have d2 : decide ((j : Int) < (sn : Int)) = false := by simp; omega
          have hJ2 := hJ.out
          rw [List.take_of_length_le (by rw [← hsn.out]; omega)] at hJ2
          have hbl := hR.bel
          cases ob with
          | true =>
            have htk3 : Hid ((S.take (i + 1)).all (rstB ops T S) = true) := Lib.hid (by rw [htk.out, hst.out]; exact hJ2)
            clear hJ2 hJ hX
            go_wp2_with fail
            go_roundw
            case rel => exact ⟨i + 1, by omega, by go_num, hR, htk3⟩
            case measure => simp [intOf]; omega
          | false =>
            have hrf : r = false := by exact hbad.out (by rw [hst.out]; exact hJ2)
            replace hrf := Lib.hid hrf
            clear hJ2 hJ hX hR
            go_wp2_with fail
            go_ret
            exact ⟨by rw [hrf.out]; rfl, hbl⟩
end Go.Proofs.YtjmbafcpbagpdaaGreat

/- Gossip, the document's side: Do. -/
namespace Go.Proofs.YtjmbafcpbagpdaaGreat
open Go.RowKit Go.Shelf Go.Maps
attribute [local go_sem] Oper.semAt_some
set_option linter.unusedVariables false
set_option linter.unusedSimpArgs false

theorem infoT6 : (Tryz.prog.info? 25).map (fun i => (i.zero, i.size, i.bytes)) = some (some (.slice none 0 0), 1, 24) := by kernel_rfl
/-- What a call of Do leaves. -/
def RdoP (w : World) (Z : Nat → Prop) (q : RP) (gv : Value) (ops : List TOp) (n : Nat) (V : Nat → List TCount) (Y : Nat → List (List TCount)) (k : Int) (l : List TCount) (E : Int) (e : Ending) (w' : World) : Prop :=
  e = .returned (.int .i64 E) ∧ (E ≠ 0 → Below w.heap.size w w') ∧ (E = 0 → RgP w Z q gv n (rdoV ops n V l) (rdoY n Y k.toNat l) w')
theorem RdoP.bad {w w' : World} {Z : Nat → Prop} {q : RP} {gv : Value} {ops : List TOp} {n : Nat} {V : Nat → List TCount} {Y : Nat → List (List TCount)} {k : Int} {l : List TCount} {E E' : Int} (h : E = E') (h0 : E' ≠ 0) (hb : Below w.heap.size w w') : RdoP w Z q gv ops n V Y k l E (.returned (.int .i64 E')) w' :=
  ⟨by rw [h], fun _ => hb, fun h1 => absurd (h.symm.trans h1) h0⟩
/-- The ways, told as far as the j-th. -/
def rdoYj (n : Nat) (Y : Nat → List (List TCount)) (k : Nat) (l : List TCount) (j : Nat) : Nat → List (List TCount) := fun i => if k * n ≤ i ∧ i < k * n + j then Y i ++ [l] else Y i
theorem rdoYj_next (n : Nat) (Y : Nat → List (List TCount)) (k : Nat) (l : List TCount) (j : Nat) : (fun i => if i = k * n + j then Y (k * n + j) ++ [l] else rdoYj n Y k l j i) = rdoYj n Y k l (j + 1) := by
  funext i
  unfold rdoYj
  by_cases e : i = k * n + j
  · rw [if_pos e, if_pos ⟨by omega, by omega⟩, e]
  · rw [if_neg e]
    by_cases h : k * n ≤ i ∧ i < k * n + j
    · rw [if_pos h, if_pos ⟨h.1, by omega⟩]
    · rw [if_neg h, if_neg (by omega)]
theorem rdoYj_at (n : Nat) (Y : Nat → List (List TCount)) (k : Nat) (l : List TCount) (j : Nat) : rdoYj n Y k l j (k * n + j) = Y (k * n + j) := by
  unfold rdoYj
  rw [if_neg (by omega)]
/-- The gossip between two of Do's ways. -/
structure RS6 (w wr : World) (Z : Nat → Prop) (q : RP) (gv : Value) (n : Nat) (V : Nat → List TCount) (Y : Nat → List (List TCount)) : Prop where
  chg : Chg (fun k => k = q.vb ∨ k = q.yb) w wr
  rg : ∃ Z', (∀ k, Z' k → Z k ∨ w.heap.size ≤ k) ∧ RG wr Z' q gv n V Y
theorem RS6.below {w wr w' : World} {Z : Nat → Prop} {q : RP} {gv : Value} {n : Nat} {V : Nat → List TCount} {Y : Nat → List (List TCount)} (h : RS6 w wr Z q gv n V Y) (hb : Below wr.heap.size wr w') : RS6 w w' Z q gv n V Y := by
  obtain ⟨Z', h1, h2⟩ := h.rg
  have hs := h.chg.size
  exact ⟨h.chg.then_new (Chg.of_below hb) (fun i hi e => by have : wr.heap.size ≤ i := e; omega), Z', h1, h2.below hb⟩

set_option maxRecDepth 100000 in
set_option maxHeartbeats 4000000 in
theorem rdo_arg (k : Int) (v : Value) (l : List TCount) {w : World} {Z : Nat → Prop} {q : RP} {ops : List TOp} {gv : Value} {n : Nat} {V : Nat → List TCount} {Y : Nat → List (List TCount)} (h : RG w Z q gv n V Y) (hk : ¬ (0 ≤ k ∧ k < n)) :
    Calls Tryz.prog 8 #[.pointer (some ⟨q.rb, 0, none⟩), .int .i64 k, v] w (RdoP w Z q gv ops n V Y k l (rdoE ops n V Y k l)) := by
  obtain ⟨c0, c1, c2, c3⟩ := h.cells
  have hE : rdoE ops n V Y k l = 1 := by unfold rdoE; rw [if_pos hk]
  clear h
  replace hE := Lib.hid hE
  by_cases h1 : k < 0
  · have d1 : decide (k < 0) = true := by simpa using h1
    clear h1 hk
    go_enter Tryz.func8, Tryz.ntmps8
    go_wp2_with fail
    go_ret
    exact RdoP.bad hE.out (by decide) (Below.refl _ _)
  · have d1 : decide (k < 0) = false := by simpa using h1
    have d2 : decide ((n : Int) ≤ k) = true := by simp; omega
    clear h1 hk
    go_enter Tryz.func8, Tryz.ntmps8
    go_wp2_with fail
    go_ret
    exact RdoP.bad hE.out (by decide) (Below.refl _ _)

theorem list_snocZ {w : World} {Z : Nat → Prop} {base : Nat} {v : Value} {ts : List TRow} {T : TypeId} {t : TRow} (h : OwnL encW2 w base T 1 v (ts ++ [t])) (hl : ∀ x ∈ ts, LiZ w Z x.a x.c x.l) (ht : LiZ w Z t.a t.c t.l) (hZ : ∀ k, base ≤ k → k < w.heap.size → Z k) :
    ∃ a c, v = .slice a (ts.map (·.l) ++ [t.l]).length c ∧ WyZ w Z a c (ts.map (·.l) ++ [t.l]) := by
  obtain ⟨a, c, rfl, hs⟩ := h.sla (E := fun _ cs x => cs = encW2 x) encW2_len (fun _ _ => rfl)
  have hlt := h.lt
  refine ⟨a, c, by simp, ts ++ [t], hs, by simp, fun x hx => ?_, fun d e => ?_⟩
  · rcases List.mem_append.1 hx with hx | hx
    · exact hl x hx
    · rw [List.mem_singleton.1 hx]; exact ht
  · have := hlt d.block (by rw [e]; rfl)
    exact hZ _ this.1 this.2

set_option maxRecDepth 100000 in
set_option maxHeartbeats 8000000 in
theorem rdo_go (k : Nat) (l : List TCount) (la : Option Addr) (lc : Nat) {w : World} {Z : Nat → Prop} {q : RP} {ops : List TOp} {ao : Option Addr} {cap n : Nat} {V : Nat → List TCount} {Y : Nat → List (List TCount)} (h : RG w Z q (.slice ao ops.length cap) n V Y) (hk : k < n) (hg : SlA w.heap.size 7 (ROp w.heap.size) w ao cap ops) (hok : (gcheck ops).2 = 0)
    (hl : SlA w.heap.size 4 (RCount w.heap.size) w la lc l) (hz : l.length ≤ 1048576) {N : Nat} (hV : VOk n V N) (hN : N ≤ 1000000000) (hlq : l ≠ [] → ∀ a, la = some a → a.block ≠ q.vb ∧ a.block ≠ q.yb) :
    Calls Tryz.prog 8 #[.pointer (some ⟨q.rb, 0, none⟩), .int .i64 k, .slice la l.length lc] w (RdoP w Z q (.slice ao ops.length cap) ops n V Y k l (rdoE ops n V Y k l)) := by
  obtain ⟨jK, hiK, hK0, hK1, hK2⟩ := info_parts infoK
  obtain ⟨jL, hiL, hL0, hL1, hL2i⟩ := info_parts infoT6
  obtain ⟨c0, c1, c2, c3⟩ := h.cells
  have h8 := h.n8
  have hGd := fun W (hW : Below w.heap.size w W) (s : TStamp) => rGood_any ops cap ao s.fLoc s.fT.fEpoch s.fT.fRound w.heap.size W hW.size (imp_ops hg hW)
  rw [decide_eq_true hok] at hGd
  simp only [Bool.true_and] at hGd
  have hSt := fun W (hW : Below w.heap.size w W) => rstands_any l la lc (h.below hW) (imp_ops2 hg hW) hok (hl.imp hW hW.size (fun _ _ _ h => h.imp hW hW.size)) (by omega)
  have hlen := hl.len
  have hE : rdoE ops n V Y k l = (if l.all (okC ops) = false then 1 else if rstandsL ops (V n) l = false then 9 else if ∃ j, j < n ∧ 4096 ≤ (Y (k * n + j)).length then 2 else if (updL ops (V n) l).1 ≠ 0 then 1 else 0) := by
    unfold rdoE
    rw [if_neg (by omega)]
    rfl
  obtain ⟨E, hEe⟩ : ∃ E, E = rdoE ops n V Y k l := ⟨_, rfl⟩
  rw [← hEe] at hE ⊢
  obtain ⟨no, hn⟩ : ∃ no, no = ops.length := ⟨_, rfl⟩
  obtain ⟨gv, hgv⟩ : ∃ gv : Value, gv = .slice ao ops.length cap := ⟨_, rfl⟩
  rw [← hgv] at h ⊢
  rw [← hn] at hGd c0
  replace hgv := Lib.hid hgv
  obtain ⟨m, hm⟩ : ∃ m, m = l.length := ⟨_, rfl⟩
  rw [← hm] at hSt hlen hz ⊢
  obtain ⟨st, hst⟩ : ∃ st, st = rstandsL ops (V n) l := ⟨_, rfl⟩
  rw [← hst] at hE hSt
  replace hGd := Lib.hid hGd
  replace hSt := Lib.hid hSt
  replace hE := Lib.hid hE
  replace hEe := Lib.hid hEe
  replace hn := Lib.hid hn
  replace hm := Lib.hid hm
  replace hst := Lib.hid hst
  replace hok := Lib.hid hok
  have d1 : decide ((k : Int) < 0) = false := by simp
  have d2 : decide ((n : Int) ≤ (k : Int)) = false := by simp; omega
  go_enter Tryz.func8, Tryz.ntmps8
  go_wp2_with fail
  clear d1 d2
  go_loopw [7] (fun x7 wr => ∃ i : Nat, i ≤ m ∧ x7 = .int .i64 i ∧ Below w.heap.size w wr ∧ Hid ((l.take i).all (okC ops) = true)) (fun x7 _ => m - (intOf x7).toNat)
  case atStart => exact ⟨0, Nat.zero_le _, rfl, Below.refl _ _, Lib.hid rfl⟩
  case round =>
    obtain ⟨i, hi, rfl, hbr, hI⟩ := hrel
    by_cases hin : i < m
    · have d1 : decide ((i : Int) < (m : Int)) = true := by simp; omega
      have hil : i < l.length := by rw [← hm.out]; exact hin
      have hsr := hl.imp hbr (Nat.le_refl _) (fun _ _ _ h => h.imp hbr (Nat.le_refl _))
      obtain ⟨b2, off2, rfl, hb2l, -⟩ := hsr.addr (by omega)
      obtain ⟨c, hc⟩ : ∃ c, l[i] = c := ⟨_, rfl⟩
      obtain ⟨e0, e1, e2, e3, -⟩ := RCount.at hsr hil hc
      have m0 := (hbr.cell (p := ⟨q.rb, 0, none⟩) (World.lt_of_cell c0)).trans c0
      have h0 := Wd.cell m0 (World.lt_of_cell m0)
      have f0 := Wd.cell e0 (World.lt_of_cell e0)
      have f1 := Wd.cell e1 (World.lt_of_cell e1)
      have f2 := Wd.cell e2 (World.lt_of_cell e2)
      have f3 := Wd.cell e3 (World.lt_of_cell e3)
      have hgd := fun W hW => hGd.out W hW c.fS
      have hsw := hbr.size
      have htk : l.take (i + 1) = l.take i ++ [c] := by rw [List.take_succ_eq_append_getElem hil, hc]
      have hcm : c ∈ l := by rw [← hc]; exact List.getElem_mem hil
      clear hsr e0 e1 e2 e3 m0
      by_cases hco : okC ops c = true
      · have hI2 : Hid ((l.take (i + 1)).all (okC ops) = true) := Lib.hid (by rw [htk, List.all_append, hI.out]; simp [hco])
        unfold okC at hco
        simp only [Bool.and_eq_true, decide_eq_true_eq] at hco
        obtain ⟨⟨q1, q2⟩, q3⟩ := hco
        have d2 : decide (c.fN < (-2147483648 : Int)) = false := by simp; omega
        have d3 : decide ((2147483648 : Int) < c.fN) = false := by simp; omega
        rw [q3] at hgd
        replace hgd := Lib.hid hgd
        clear q1 q2 q3 hI htk hcm
        go_upto_region 6 with fail
        refine wp_region_below (by kernel_rfl) (by kernel_rfl) ?_
        repeat (go_big_quiet_step ((go_at_call 35; exact Calls.quiet_below (hgd.out _ (hbr.trans (Below.mono (Wd.h _) hsw))))))
        refine wpQuiet_nil ?_
        rintro _ ⟨u, rfl⟩
        have hbu := hbr.trans (u.h.mono hbr.size)
        obtain ⟨w4, hw4⟩ : ∃ w4, w4 = u.v := ⟨_, rfl⟩
        rw [← hw4] at hbu ⊢
        clear hw4 f0 f1 f2 f3 h0 hgd
        go_wp2_with fail
        go_roundw
        case rel => exact ⟨i + 1, by omega, by go_num, hbu, hI2⟩
        case measure => simp [intOf]; omega
      · have hEb : E = 1 := by
          rw [hE.out, if_pos]
          rw [Bool.eq_false_iff]
          intro h2
          rw [List.all_eq_true] at h2
          exact hco (h2 c hcm)
        have hend : ∀ W, Below w.heap.size w W → RdoP w Z q gv ops n V Y k l E (.returned (.int .i64 1)) W := fun W hW => RdoP.bad hEb (by decide) hW
        replace hend := Lib.hid hend
        clear hI htk hcm hEb
        by_cases q1 : c.fN < -2147483648
        · have d2 : decide (c.fN < (-2147483648 : Int)) = true := by simpa using q1
          replace hgd := Lib.hid hgd
          go_upto_region 6 with fail
          refine wp_region_below (by kernel_rfl) (by kernel_rfl) ?_
          repeat (go_big_quiet_step (fail))
          refine wpQuiet_nil ?_
          rintro _ ⟨u, rfl⟩
          have hbu := hbr.trans (u.h.mono hbr.size)
          obtain ⟨w4, hw4⟩ : ∃ w4, w4 = u.v := ⟨_, rfl⟩
          rw [← hw4] at hbu ⊢
          clear hw4 f0 f1 f2 f3 h0
          go_wp2_with fail
          go_ret
          exact hend.out _ hbu
        · have d2 : decide (c.fN < (-2147483648 : Int)) = false := by simpa using q1
          by_cases q2 : 2147483648 < c.fN
          · have d3 : decide ((2147483648 : Int) < c.fN) = true := by simpa using q2
            replace hgd := Lib.hid hgd
            go_upto_region 6 with fail
            refine wp_region_below (by kernel_rfl) (by kernel_rfl) ?_
            repeat (go_big_quiet_step (fail))
            refine wpQuiet_nil ?_
            rintro _ ⟨u, rfl⟩
            have hbu := hbr.trans (u.h.mono hbr.size)
            obtain ⟨w4, hw4⟩ : ∃ w4, w4 = u.v := ⟨_, rfl⟩
            rw [← hw4] at hbu ⊢
            clear hw4 f0 f1 f2 f3 h0
            go_wp2_with fail
            go_ret
            exact hend.out _ hbu
          · have d3 : decide ((2147483648 : Int) < c.fN) = false := by simpa using q2
            have q3 : goodS ops c.fS.fLoc c.fS.fT.fEpoch c.fS.fT.fRound = false := by
              cases hgs : goodS ops c.fS.fLoc c.fS.fT.fEpoch c.fS.fT.fRound with
              | false => rfl
              | true =>
                exfalso
                apply hco
                unfold okC
                rw [hgs]
                simp
                omega
            rw [q3] at hgd
            replace hgd := Lib.hid hgd
            clear q3
            go_upto_region 6 with fail
            refine wp_region_below (by kernel_rfl) (by kernel_rfl) ?_
            repeat (go_big_quiet_step ((go_at_call 35; exact Calls.quiet_below (hgd.out _ (hbr.trans (Below.mono (Wd.h _) hsw))))))
            refine wpQuiet_nil ?_
            rintro _ ⟨u, rfl⟩
            have hbu := hbr.trans (u.h.mono hbr.size)
            obtain ⟨w4, hw4⟩ : ∃ w4, w4 = u.v := ⟨_, rfl⟩
            rw [← hw4] at hbu ⊢
            clear hw4 f0 f1 f2 f3 h0 hgd
            go_wp2_with fail
            go_ret
            exact hend.out _ hbu
    · obtain rfl : m = i := by omega
      have hall : l.all (okC ops) = true := by
        have := hI.out
        rw [List.take_of_length_le (by rw [← hm.out]; exact Nat.le_refl _)] at this
        exact this
      have hE2 : E = (if st = false then 9 else if ∃ j, j < n ∧ 4096 ≤ (Y (k * n + j)).length then 2 else if (updL ops (V n) l).1 ≠ 0 then 1 else 0) := by
        rw [hE.out, if_neg (by rw [hall]; simp)]
      have hSt2 := hSt.out _ hbr
      replace hSt2 := Lib.hid hSt2
      clear hE hI hSt hall hGd
      replace hE2 := Lib.hid hE2
      go_wp2_with fail
      refine hSt2.out.mono ?_
      rintro e w4 ⟨rfl, hb4⟩
      have hbel4 := hbr.trans (hb4.mono hbr.size)
      clear hSt2 hb4 hbr
      dsimp only
      cases st with
      | false =>
        have hE3 : E = 9 := by rw [hE2.out, if_pos rfl]
        clear hE2
        replace hE3 := Lib.hid hE3
        go_wp2_with fail
        go_ret
        exact RdoP.bad hE3.out (by decide) hbel4
      | true =>
        have hE3 : E = (if ∃ j, j < n ∧ 4096 ≤ (Y (k * n + j)).length then 2 else if (updL ops (V n) l).1 ≠ 0 then 1 else 0) := by rw [hE2.out, if_neg (by simp)]
        clear hE2
        replace hE3 := Lib.hid hE3
        go_wp2_with fail
        go_loopw [8] (fun x8 wr => ∃ j : Nat, j ≤ n ∧ x8 = .int .i64 j ∧ Below w.heap.size w wr ∧ Hid (∀ i, i < j → (Y (k * n + i)).length < 4096)) (fun x8 _ => n - (intOf x8).toNat)
        case atStart => exact ⟨0, Nat.zero_le _, rfl, hbel4, Lib.hid (fun i hi => by omega)⟩
        case round =>
          clear hbel4
          obtain ⟨j, hj, rfl, hbr, hI⟩ := hrel
          have hRr := h.below hbr
          by_cases hjn : j < n
          · have hx := mul_lt (a := k) (b := j) (n := n) hk hjn
            obtain ⟨f, t, ya, yc, y0, y1, y2, _⟩ := hRr.way hx
            obtain ⟨sy, hsy⟩ : ∃ sy, sy = (Y (k * n + j)).length := ⟨_, rfl⟩
            rw [← hsy] at y2
            have hE4 : 4096 ≤ sy → E = 2 := fun h4 => by rw [hE3.out, if_pos ⟨j, hjn, by rw [← hsy]; exact h4⟩]
            have hI2 : sy < 4096 → ∀ i, i < j + 1 → (Y (k * n + i)).length < 4096 := fun h4 i hi => by
              rcases Nat.lt_succ_iff_lt_or_eq.1 hi with h5 | rfl
              · exact hI.out i h5
              · rw [← hsy]; exact h4
            have c1 := hRr.cells.2.1
            have c3 := hRr.cells.2.2.2
            have d1 : decide ((k : Int) < 0) = false := by simp
            have d2 : decide ((n : Int) ≤ (k : Int)) = false := by simp; omega
            have d3 : decide ((j : Int) < 0) = false := by simp
            have d4 : decide ((n : Int) ≤ (j : Int)) = false := by simp; omega
            have d5 : decide (n ≤ k) = false := by simp; omega
            have d6 : decide (n ≤ j) = false := by simp; omega
            have hp64 : k * n ≤ 64 := Nat.le_trans (Nat.mul_le_mul (by omega : k ≤ 8) h8) (by omega)
            obtain ⟨x, hxe⟩ : ∃ x, x = k * n + j := ⟨_, rfl⟩
            obtain ⟨p, hp⟩ : ∃ p, p = k * n := ⟨_, rfl⟩
            have hmkn : (k : Int) * (n : Int) = (p : Int) := by rw [hp]; exact (Int.natCast_mul k n).symm
            have hwp : IntKind.i64.wrap (p : Int) = (p : Int) := IntWalk.i64_in _ (by omega)
            have hwx : IntKind.i64.wrap ((p : Int) + (j : Int)) = (x : Int) := by rw [IntWalk.i64_in _ (by omega)]; omega
            obtain ⟨z, hz⟩ : ∃ z, z = n * n := ⟨_, rfl⟩
            rw [← hxe] at y0 y1 y2 hx
            rw [← hz] at hx c3
            have hz2 : z ≤ 9223372036854775807 := by have := h.vwc; have : maxLen = 9223372036854775807 := rfl; omega
            replace hz := Lib.hid hz
            replace hp := Lib.hid hp
            replace hxe := Lib.hid hxe
            clear hp64
            replace hE4 := Lib.hid hE4
            replace hI2 := Lib.hid hI2
            replace hsy := Lib.hid hsy
            have dj : decide ((j : Int) < (n : Int)) = true := by simp; omega
            have g1 := Wd.cell c1 (World.lt_of_cell c1)
            have g3 := Wd.cell c3 (World.lt_of_cell c3)
            have g4 := Wd.cell y2 (World.lt_of_cell y2)
            clear hI d1 d2 d3 d4 d5 d6
            by_cases h4 : 4096 ≤ sy
            · have hE5 := hE4.out h4
              have d4 : decide ((4096 : Int) ≤ (sy : Int)) = true := by simp; omega
              have d5 : decide (4096 ≤ sy) = true := by simpa using h4
              clear hE4 hI2 h4
              replace hE5 := Lib.hid hE5
              go_upto_region 13 with fail
              refine wp_region_below (by kernel_rfl) (by kernel_rfl) ?_
              repeat (go_big_quiet_step (fail))
              refine wpQuiet_nil ?_
              rintro _ ⟨u, rfl⟩
              have hbu := hbr.trans (u.h.mono hbr.size)
              obtain ⟨w4, hw4⟩ : ∃ w4, w4 = u.v := ⟨_, rfl⟩
              rw [← hw4] at hbu ⊢
              clear hw4 g1 g3 g4 c1 c3 y0 y1 y2 hRr
              go_wp2_with fail
              go_ret
              exact RdoP.bad hE5.out (by decide) hbu
            · have hI3 := hI2.out (by omega)
              have d4 : decide ((4096 : Int) ≤ (sy : Int)) = false := by simp; omega
              have d5 : decide (4096 ≤ sy) = false := by simpa using h4
              clear hE4 hI2 h4
              replace hI3 := Lib.hid hI3
              go_upto_region 13 with fail
              refine wp_region_below (by kernel_rfl) (by kernel_rfl) ?_
              repeat (go_big_quiet_step (fail))
              refine wpQuiet_nil ?_
              rintro _ ⟨u, rfl⟩
              have hbu := hbr.trans (u.h.mono hbr.size)
              obtain ⟨w4, hw4⟩ : ∃ w4, w4 = u.v := ⟨_, rfl⟩
              rw [← hw4] at hbu ⊢
              clear hw4 g1 g3 g4 c1 c3 y0 y1 y2 hRr
              go_wp2_with fail
              go_roundw
              case rel => exact ⟨j + 1, by omega, by go_num, hbu, hI3⟩
              case measure => simp [intOf]; omega
          · obtain rfl : n = j := by omega
            have hsm := hI.out
            have hE4 : E = (if (updL ops (V n) l).1 ≠ 0 then 1 else 0) := by
              rw [hE3.out, if_neg]
              rintro ⟨i, h1, h2⟩
              have := hsm i h1
              omega
            clear hE3 hI
            replace hE4 := Lib.hid hE4
            replace hsm := Lib.hid hsm
            have dj : decide ((n : Int) < (n : Int)) = false := by simp
            have c1 := hRr.cells.2.1
            clear hjn hj
            go_upto_region 15 with fail
            have c2 := hRr.cells.2.2.1
            obtain ⟨va, vc, hv, hvl⟩ := hRr.view (i := n) (by omega)
            obtain ⟨hs, hb, hVl⟩ := hV n (by omega)
            have hUp := fun W mk (hW : Below wr.heap.size wr W) hB => rupd_any mk ops ao cap (V n) l va la vc lc W hB (imp_ops2 hg (hbr.trans (hW.mono hbr.size))) (hvl.sla.imp hW hW.size (fun _ _ _ h => h.imp hW hW.size)) (hl.imp (hbr.trans (hW.mono hbr.size)) (hbr.trans (hW.mono hbr.size)).size (fun _ _ _ h => h.imp (hbr.trans (hW.mono hbr.size)) (hbr.trans (hW.mono hbr.size)).size)) hs hb (by rw [← hm.out]; omega) (by rw [← hm.out]; omega) hok.out
            have v0 := hv.c0
            have v1 := hv.c1
            obtain ⟨nv, hnv⟩ : ∃ nv, nv = (V n).length := ⟨_, rfl⟩
            rw [← hnv] at v1 hUp
            rw [hgv.out, ← hn.out] at v0
            rw [← hn.out, ← hm.out] at hUp
            replace hnv := Lib.hid hnv
            replace hUp := Lib.hid hUp
            clear hv hs hb hVl
            refine wp_region_tree (fun wx => wx.cell? ⟨q.rb, 1, none⟩ = some (.int .i64 n) ∧ wx.cell? ⟨q.rb, 2, none⟩ = some (.slice (some ⟨q.vb, 0, none⟩) (n + 1) q.vc) ∧ wx.cell? ⟨q.vb, n * 2, none⟩ = some (.slice ao no cap) ∧ wx.cell? ⟨q.vb, n * 2 + 1, none⟩ = some (.slice va nv vc)) 11 12 (by kernel_rfl) rfl (by kernel_rfl) (fun d _ _ _ _ h => by cases d <;> exact h) (⟨c1, c2, v0, v1⟩) (fun opz T hOps hT hTok hHeld => ?_)
            (refine wpTree_q 0 hTok hOps (by kernel_rfl) rfl rfl ⟨?_, ?_, ?_⟩; rotate_left; (focus (intro wx hSx; (try dsimp only at hSx); go_simp; (try with_reducible rfl))); (simp only [Act.put, List.setIfInBounds_toArray, List.set_cons_zero, List.set_cons_succ]))
            (refine wpTree_q 1 hTok hOps (by kernel_rfl) rfl rfl ⟨?_, ?_, ?_⟩; rotate_left; (focus (intro wx hSx; (try dsimp only at hSx); go_simp; (try with_reducible rfl))); (simp only [Act.put, List.setIfInBounds_toArray, List.set_cons_zero, List.set_cons_succ]))
            (refine wpTree_q 2 hTok hOps (by kernel_rfl) rfl rfl ⟨?_, ?_, ?_⟩; rotate_left; (focus (intro wx hSx; (try dsimp only at hSx); go_simp; (try with_reducible rfl))); (simp only [Act.put, List.setIfInBounds_toArray, List.set_cons_zero, List.set_cons_succ]))
            (refine wpTree_q 3 hTok hOps (by kernel_rfl) rfl rfl ⟨?_, ?_, ?_⟩; rotate_left; (focus (intro wx hSx; (try dsimp only at hSx); go_simp; (try with_reducible rfl))); (simp only [Act.put, List.setIfInBounds_toArray, List.set_cons_zero, List.set_cons_succ]))
            (refine wpTree_q 4 hTok hOps (by kernel_rfl) rfl rfl ⟨?_, ?_, ?_⟩; rotate_left; (focus (intro wx hSx; (try dsimp only at hSx); go_simp; (try with_reducible rfl))); (simp only [Act.put, List.setIfInBounds_toArray, List.set_cons_zero, List.set_cons_succ]))
            (refine wpTree_q 5 hTok hOps (by kernel_rfl) rfl rfl ⟨?_, ?_, ?_⟩; rotate_left; (focus (intro wx hSx; (try dsimp only at hSx); go_simp; (try with_reducible rfl))); (simp only [Act.put, List.setIfInBounds_toArray, List.set_cons_zero, List.set_cons_succ]))
            (refine wpTree_q 6 hTok hOps (by kernel_rfl) rfl rfl ⟨?_, ?_, ?_⟩; rotate_left; (focus (intro wx hSx; (try dsimp only at hSx); go_simp; (try with_reducible rfl))); (simp only [Act.put, List.setIfInBounds_toArray, List.set_cons_zero, List.set_cons_succ]))
            (refine wpTree_q 7 hTok hOps (by kernel_rfl) rfl rfl ⟨?_, ?_, ?_⟩; rotate_left; (focus (intro wx hSx; (try dsimp only at hSx); go_simp; (try with_reducible rfl))); (simp only [Act.put, List.setIfInBounds_toArray, List.set_cons_zero, List.set_cons_succ]))
            (refine wpTree_qg 8 hTok hOps (by kernel_rfl) rfl rfl ⟨?_, ?_, ?_⟩; rotate_left; (focus (intro wx hSx; (try dsimp only at hSx); go_simp; rw [if_pos (by omega)])); (simp only [Act.put, List.setIfInBounds_toArray, List.set_cons_zero, List.set_cons_succ]))
            (refine wpTree_q 9 hTok hOps (by kernel_rfl) rfl rfl ⟨?_, ?_, ?_⟩; rotate_left; (focus (intro wx hSx; (try dsimp only at hSx); go_simp; (try with_reducible rfl))); (simp only [Act.put, List.setIfInBounds_toArray, List.set_cons_zero, List.set_cons_succ]))
            refine wpTree_1 10 hOps (by kernel_rfl) (by decide) rfl (fun K' hK => ?_)
            go_simp
            have hbA : Below wr.heap.size wr (wr.alloc (.cells #[.slice none 0 0, .slice none 0 0] 53)).drew := Below.drew ((Below.refl _ _).alloc (Nat.le_refl _) _)
            have hKA : Blk (wr.alloc (.cells #[.slice none 0 0, .slice none 0 0] 53)).drew wr.heap.size #[.slice none 0 0, .slice none 0 0] 53 := (Blk.new _ _ _).drew
            try dsimp only
            refine hK.out _ _ ⟨(hbA.cell (p := ⟨q.rb, 1, none⟩) (World.lt_of_cell c1)).trans c1, (hbA.cell (p := ⟨q.rb, 2, none⟩) (World.lt_of_cell c2)).trans c2, (hbA.cell (p := ⟨q.vb, n * 2, none⟩) (World.lt_of_cell v0)).trans v0, (hbA.cell (p := ⟨q.vb, n * 2 + 1, none⟩) (World.lt_of_cell v1)).trans v1⟩ ?_
            clear hK K'
            try simp only [Act.put, List.setIfInBounds_toArray, List.set_cons_zero, List.set_cons_succ]
            refine wpTree_nil hOps (by kernel_rfl) ?_
            refine hT.out _ _ ?_
            simp only [List.drop_succ_cons, List.drop_zero]
            clear hOps hT hTok
            try clear hHeld
            generalize (wr.alloc (.cells #[.slice none 0 0, .slice none 0 0] 53)).drew = wA at hbA hKA ⊢
            obtain ⟨vx, hvx⟩ : ∃ vx, vx = wr.heap.size := ⟨_, rfl⟩
            rw [← hvx] at hKA ⊢
            have hvxw : wr.heap.size ≤ vx := Nat.le_of_eq hvx.symm
            replace hvx := Lib.hid hvx
            have kc0 := hKA.cellAt (i := 0) rfl
            have kc1 := hKA.cellAt (i := 1) rfl
            have fz := hKA.frozen 0
            have fz1 := hKA.frozen 1
            go_upto_region 16 with fail
            refine Code.wp_world ?_
            intro w5 hw5
            have hT5 : Blk w5 vx #[.slice ao no cap, .slice va nv vc] 53 := by rw [hw5]; exact (hKA.set 0 (.slice ao no cap)).set 1 (.slice va nv vc)
            have hb5 : Below wr.heap.size wr w5 := by rw [hw5]; exact (hbA.setCell (p := ⟨vx, 0, none⟩) (by show _ ≤ vx; omega) _).setCell (p := ⟨vx, 1, none⟩) (by show _ ≤ vx; omega) _
            have hU5 := hUp.out w5 vx hb5 hT5
            have hR5 := hRr.below hb5
            have hbel5 := hbr.trans (hb5.mono hbr.size)
            have hvw : w.heap.size ≤ vx := Nat.le_trans hbr.size hvxw
            have hv5 := hT5.lt
            clear hw5 hKA hbA fz fz1 kc0 kc1 hUp c1 c2 v0 v1 hRr
            replace hU5 := Lib.hid hU5
            go_wp2_with (go_at_call 30; refine Shut.out ?ka)
            unfold Shut
            refine hU5.out.mono ?_
            rintro e w8 ⟨rfl, hc8, a8, n8, hT8, hS8, hap⟩
            obtain ⟨L2, hL2⟩ : ∃ L2, L2 = (updL ops (V n) l).2 := ⟨_, rfl⟩
            obtain ⟨ue, hue⟩ : ∃ ue, ue = (updL ops (V n) l).1 := ⟨_, rfl⟩
            have hE5 : E = (if ue ≠ 0 then 1 else 0) := by rw [hE4.out, hue]
            rw [← hL2] at hT8 hS8 hap
            rw [← hue]
            have hlts := h.lts
            have hzl := h.zlt
            have hzn := h.zne
            have hw58 := hc8.size
            have hbel8 : Below w.heap.size w w8 := hbel5.trans (hc8.below hbel5.size (fun k hk e => by omega))
            have hR8 : RG w8 Z q gv n V Y := h.below hbel8
            have hR8 : RG w8 (newZ w5 w8 Z) q gv n V Y := hR5.newZ hR8
            have hl8 : LiZ w8 (newZ w5 w8 Z) a8 n8 L2 := ⟨hS8, fun d e => by
              rcases hap with ⟨rfl, _⟩ | hap
              · exact .inl (hvl.inZ d e)
              · exact .inr (hap d e)⟩
            obtain ⟨s2, hs2⟩ : ∃ s2, s2 = L2.length := ⟨_, rfl⟩
            rw [← hs2] at hT8
            replace hL2 := Lib.hid hL2
            replace hue := Lib.hid hue
            replace hs2 := Lib.hid hs2
            clear hU5 hE4 hc8 hS8 hap hT5 hR5 hvl hbel5 hb5
            dsimp only
            by_cases hu0 : ue = 0
            rotate_left
            · have d1 : (ue != 0) = true := by simpa using hu0
              have hE6 : E = 1 := by rw [hE5, if_pos hu0]
              clear hu0 hE5
              replace hE6 := Lib.hid hE6
              go_wp2_with fail
              go_ret
              exact RdoP.bad hE6.out (by decide) hbel8
            have hE6 : E = 0 := by rw [hE5, if_neg (by simpa using hu0)]
            subst hu0
            clear hE5
            replace hE6 := Lib.hid hE6
            have k1 := hR8.cells.2.1
            have k2 := hR8.cells.2.2.1
            have t0 := hT8.cellAt (i := 0) (v := .slice ao no cap) rfl
            have t1 := hT8.cellAt (i := 1) (v := .slice a8 s2 n8) rfl
            go_upto_region 18 with fail
            refine wp_region_quiet_tail 10 (by kernel_rfl) (by kernel_rfl) ?_
            simp only [List.take_succ_cons, List.take_zero, List.drop_succ_cons, List.drop_zero]
            repeat (go_big_quiet_step (fail))
            refine wpQuiet_nil ?_
            rintro w9 ⟨mqw9, hmqw9⟩
            have hbqw9 : Below w8.heap.size w8 w9 := by rw [hmqw9]; exact below_drewN (Below.refl _ _) mqw9
            clear hmqw9
            have hR9 := hR8.below hbqw9
            have hl9 := hl8.below hbqw9 hR8.zlt
            have hbel9 := hbel8.trans (hbqw9.mono hbel8.size)
            clear hR8 hl8 hT8 k1 k2 t0 t1 hbel8
            obtain ⟨va9, vc9, hv9, _⟩ := hR9.view (i := n) (by omega)
            have v0 := hv9.c0
            have v1 := hv9.c1
            have fv0 := hR9.frozenV (n * 2)
            have fv1 := hR9.frozenV (n * 2 + 1)
            go_upto_region 19 with fail
            refine Code.wp_world ?_
            intro w10 hw10
            have hR10 := hR9.setV (i := n) (by omega) hl9
            rw [hgv.out, ← hn.out, ← hs2.out, ← hw10, show (Value.slice ao no cap) = gv by rw [hgv.out, ← hn.out]] at hR10
            have hc910 : Chg (fun k => k = q.vb) w9 w10 := by rw [hw10]; exact ((Chg.refl (fun k => k = q.vb) w9).setCell ⟨q.vb, n * 2, none⟩ _ (fun _ => rfl)).setCell ⟨q.vb, n * 2 + 1, none⟩ _ (fun _ => rfl)
            have hI10 : RS6 w w10 Z q gv n (rdoV ops n V l) (rdoYj n Y k l 0) := ⟨((Chg.of_below hbel9).mono (fun k h1 h2 => absurd h2 (by omega))).trans (hc910.mono (fun k _ e => .inl e)), newZ w5 w8 Z, fun k z => Or.elim z Or.inl (fun z => .inr (by omega)), hR10.congr (fun i hi => by
              unfold rdoV
              rw [hL2.out]) (fun i hi => by
              unfold rdoYj
              rw [if_neg (by omega)])⟩
            clear hw10 hc910 hR9 hl9 hv9 v0 v1 fv0 fv1 hbel9 hR10
            go_wp2_with fail
            go_loopw [10] (fun x10 wr => ∃ j : Nat, j ≤ n ∧ x10 = .int .i64 j ∧ RS6 w wr Z q gv n (rdoV ops n V l) (rdoYj n Y k l j)) (fun x10 _ => n - (intOf x10).toNat)
            case atStart => exact ⟨0, Nat.zero_le _, rfl, hI10⟩
            case round =>
              clear hI10
              obtain ⟨j, hj, rfl, hI⟩ := hrel
              obtain ⟨Zr, hZr, hRr⟩ := hI.rg
              have hchr := hI.chg
              have c1 := hRr.cells.2.1
              clear hI
              by_cases hjn : j < n
              rotate_left
              · obtain rfl : n = j := by omega
                have dj : decide ((n : Int) < (n : Int)) = false := by simp
                have hfin : RgP w Z q gv n (rdoV ops n V l) (rdoY n Y (k : Int).toNat l) wr := ⟨hchr, Zr, hZr, hRr⟩
                clear hchr hZr hRr
                replace hfin := Lib.hid hfin
                go_wp2_with fail
                go_ret
                exact ⟨by rw [hE6.out]; rfl, fun h0 => absurd hE6.out h0, fun _ => hfin.out⟩
              have dj : decide ((j : Int) < (n : Int)) = true := by simp; omega
              have hx := mul_lt (a := k) (b := j) (n := n) hk hjn
              obtain ⟨f, t, ya, yc, y0, y1, y2, hyw⟩ := hRr.way hx
              rw [rdoYj_at] at y2 hyw
              have hsy4 := hsm.out j hjn
              obtain ⟨ts, hts, htl, htz, htZ⟩ := hyw
              obtain ⟨sy, hsy⟩ : ∃ sy, sy = ts.length := ⟨_, rfl⟩
              have hsl : (Y (k * n + j)).length = sy := by rw [← htl, List.length_map, hsy]
              rw [hsl] at y2 hsy4
              have c3 := hRr.cells.2.2.2
              have d1 : decide ((k : Int) < 0) = false := by simp
              have d2 : decide ((n : Int) ≤ (k : Int)) = false := by simp; omega
              have d3 : decide ((j : Int) < 0) = false := by simp
              have d4 : decide ((n : Int) ≤ (j : Int)) = false := by simp; omega
              have d5 : decide (n ≤ k) = false := by simp; omega
              have d6 : decide (n ≤ j) = false := by simp; omega
              have hp64 : k * n ≤ 64 := Nat.le_trans (Nat.mul_le_mul (by omega : k ≤ 8) h8) (by omega)
              obtain ⟨x, hxe⟩ : ∃ x, x = k * n + j := ⟨_, rfl⟩
              obtain ⟨p, hp⟩ : ∃ p, p = k * n := ⟨_, rfl⟩
              have hmkn : (k : Int) * (n : Int) = (p : Int) := by rw [hp]; exact (Int.natCast_mul k n).symm
              have hwp : IntKind.i64.wrap (p : Int) = (p : Int) := IntWalk.i64_in _ (by omega)
              have hwx : IntKind.i64.wrap ((p : Int) + (j : Int)) = (x : Int) := by rw [IntWalk.i64_in _ (by omega)]; omega
              obtain ⟨z, hz⟩ : ∃ z, z = n * n := ⟨_, rfl⟩
              rw [← hxe] at y0 y1 y2 hx
              rw [← hz] at hx c3
              have hz2 : z ≤ 9223372036854775807 := by have := h.vwc; have : maxLen = 9223372036854775807 := rfl; omega
              replace hz := Lib.hid hz
              replace hp := Lib.hid hp
              replace hxe := Lib.hid hxe
              clear hp64
              replace hsy := Lib.hid hsy
              clear hsl d1 d2 d3 d4 d5 d6
              replace htl := Lib.hid htl
              go_upto_region 22 with fail
              refine wp_region_tree (fun wx => wx.cell? ⟨q.rb, 1, none⟩ = some (.int .i64 n) ∧ wx.cell? ⟨q.rb, 3, none⟩ = some (.slice (some ⟨q.yb, 0, none⟩) z q.yc) ∧ wx.cell? ⟨q.yb, x * 3, none⟩ = some (.int .i64 f) ∧ wx.cell? ⟨q.yb, x * 3 + 1, none⟩ = some (.int .i64 t) ∧ wx.cell? ⟨q.yb, x * 3 + 2, none⟩ = some (.slice ya sy yc)) 15 16 (by kernel_rfl) rfl (by kernel_rfl) (fun d _ _ _ _ h => by cases d <;> exact h) (⟨c1, c3, y0, y1, y2⟩) (fun opz T hOps hT hTok hHeld => ?_)
              (refine wpTree_q 0 hTok hOps (by kernel_rfl) rfl rfl ⟨?_, ?_, ?_⟩; rotate_left; (focus (intro wx hSx; (try dsimp only at hSx); go_simp; (try with_reducible rfl))); (simp only [Act.put, List.setIfInBounds_toArray, List.set_cons_zero, List.set_cons_succ]))
              (refine wpTree_q 1 hTok hOps (by kernel_rfl) rfl rfl ⟨?_, ?_, ?_⟩; rotate_left; (focus (intro wx hSx; (try dsimp only at hSx); go_simp; (try with_reducible rfl))); (simp only [Act.put, List.setIfInBounds_toArray, List.set_cons_zero, List.set_cons_succ]))
              (refine wpTree_q 2 hTok hOps (by kernel_rfl) rfl rfl ⟨?_, ?_, ?_⟩; rotate_left; (focus (intro wx hSx; (try dsimp only at hSx); go_simp; (try with_reducible rfl))); (simp only [Act.put, List.setIfInBounds_toArray, List.set_cons_zero, List.set_cons_succ]))
              (refine wpTree_q 3 hTok hOps (by kernel_rfl) rfl rfl ⟨?_, ?_, ?_⟩; rotate_left; (focus (intro wx hSx; (try dsimp only at hSx); go_simp; (try with_reducible rfl))); (simp only [Act.put, List.setIfInBounds_toArray, List.set_cons_zero, List.set_cons_succ]))
              (refine wpTree_q 4 hTok hOps (by kernel_rfl) rfl rfl ⟨?_, ?_, ?_⟩; rotate_left; (focus (intro wx hSx; (try dsimp only at hSx); go_simp; (try with_reducible rfl))); (simp only [Act.put, List.setIfInBounds_toArray, List.set_cons_zero, List.set_cons_succ]))
              (refine wpTree_q 5 hTok hOps (by kernel_rfl) rfl rfl ⟨?_, ?_, ?_⟩; rotate_left; (focus (intro wx hSx; (try dsimp only at hSx); go_simp; (try with_reducible rfl))); (simp only [Act.put, List.setIfInBounds_toArray, List.set_cons_zero, List.set_cons_succ]))
              (refine wpTree_q 6 hTok hOps (by kernel_rfl) rfl rfl ⟨?_, ?_, ?_⟩; rotate_left; (focus (intro wx hSx; (try dsimp only at hSx); go_simp; (try with_reducible rfl))); (simp only [Act.put, List.setIfInBounds_toArray, List.set_cons_zero, List.set_cons_succ]))
              (refine wpTree_q 7 hTok hOps (by kernel_rfl) rfl rfl ⟨?_, ?_, ?_⟩; rotate_left; (focus (intro wx hSx; (try dsimp only at hSx); go_simp; (try with_reducible rfl))); (simp only [Act.put, List.setIfInBounds_toArray, List.set_cons_zero, List.set_cons_succ]))
              (refine wpTree_q 8 hTok hOps (by kernel_rfl) rfl rfl ⟨?_, ?_, ?_⟩; rotate_left; (focus (intro wx hSx; (try dsimp only at hSx); go_simp; (try with_reducible rfl))); (simp only [Act.put, List.setIfInBounds_toArray, List.set_cons_zero, List.set_cons_succ]))
              (refine wpTree_q 9 hTok hOps (by kernel_rfl) rfl rfl ⟨?_, ?_, ?_⟩; rotate_left; (focus (intro wx hSx; (try dsimp only at hSx); go_simp; (try with_reducible rfl))); (simp only [Act.put, List.setIfInBounds_toArray, List.set_cons_zero, List.set_cons_succ]))
              (refine wpTree_q 10 hTok hOps (by kernel_rfl) rfl rfl ⟨?_, ?_, ?_⟩; rotate_left; (focus (intro wx hSx; (try dsimp only at hSx); go_simp; (try with_reducible rfl))); (simp only [Act.put, List.setIfInBounds_toArray, List.set_cons_zero, List.set_cons_succ]))
              (refine wpTree_q 11 hTok hOps (by kernel_rfl) rfl rfl ⟨?_, ?_, ?_⟩; rotate_left; (focus (intro wx hSx; (try dsimp only at hSx); go_simp; (try with_reducible rfl))); (simp only [Act.put, List.setIfInBounds_toArray, List.set_cons_zero, List.set_cons_succ]))
              (refine wpTree_q 12 hTok hOps (by kernel_rfl) rfl rfl ⟨?_, ?_, ?_⟩; rotate_left; (focus (intro wx hSx; (try dsimp only at hSx); go_simp; (try with_reducible rfl))); (simp only [Act.put, List.setIfInBounds_toArray, List.set_cons_zero, List.set_cons_succ]))
              (refine wpTree_q 13 hTok hOps (by kernel_rfl) rfl rfl ⟨?_, ?_, ?_⟩; rotate_left; (focus (intro wx hSx; (try dsimp only at hSx); go_simp; (try with_reducible rfl))); (simp only [Act.put, List.setIfInBounds_toArray, List.set_cons_zero, List.set_cons_succ]))
              refine wpTree_1 14 hOps (by kernel_rfl) (by decide) rfl (fun K' hK => ?_)
              go_simp
              have hbA : Below wr.heap.size wr (wr.alloc (.cells #[.int .i64 0, .int .i64 0, .slice none 0 0] 91)).drew := Below.drew ((Below.refl _ _).alloc (Nat.le_refl _) _)
              have hKA : Blk (wr.alloc (.cells #[.int .i64 0, .int .i64 0, .slice none 0 0] 91)).drew wr.heap.size #[.int .i64 0, .int .i64 0, .slice none 0 0] 91 := (Blk.new _ _ _).drew
              try dsimp only
              refine hK.out _ _ ⟨(hbA.cell (p := ⟨q.rb, 1, none⟩) (World.lt_of_cell c1)).trans c1, (hbA.cell (p := ⟨q.rb, 3, none⟩) (World.lt_of_cell c3)).trans c3, (hbA.cell (p := ⟨q.yb, x * 3, none⟩) (World.lt_of_cell y0)).trans y0, (hbA.cell (p := ⟨q.yb, x * 3 + 1, none⟩) (World.lt_of_cell y1)).trans y1, (hbA.cell (p := ⟨q.yb, x * 3 + 2, none⟩) (World.lt_of_cell y2)).trans y2⟩ ?_
              clear hK K'
              try simp only [Act.put, List.setIfInBounds_toArray, List.set_cons_zero, List.set_cons_succ]
              refine wpTree_nil hOps (by kernel_rfl) ?_
              refine hT.out _ _ ?_
              simp only [List.drop_succ_cons, List.drop_zero]
              clear hOps hT hTok
              try clear hHeld
              generalize (wr.alloc (.cells #[.int .i64 0, .int .i64 0, .slice none 0 0] 91)).drew = wA at hbA hKA ⊢
              obtain ⟨bx, hbx⟩ : ∃ bx, bx = wr.heap.size := ⟨_, rfl⟩
              rw [← hbx] at hKA ⊢
              have hbxw : wr.heap.size ≤ bx := Nat.le_of_eq hbx.symm
              replace hbx := Lib.hid hbx
              have kc0 := hKA.cellAt (i := 0) rfl
              have kc1 := hKA.cellAt (i := 1) rfl
              have kc2 := hKA.cellAt (i := 2) rfl
              have fz := hKA.frozen 0
              have fz1 := hKA.frozen 1
              have fz2 := hKA.frozen 2
              go_upto_region 23 with fail
              refine Code.wp_world ?_
              intro w5 hw5
              have hB5 : Blk w5 bx #[.int .i64 f, .int .i64 t, .slice ya sy yc] 91 := by rw [hw5]; exact ((hKA.set 0 (.int .i64 f)).set 1 (.int .i64 t)).set 2 (.slice ya sy yc)
              have hb5 : Below wr.heap.size wr w5 := by rw [hw5]; exact ((hbA.setCell (p := ⟨bx, 0, none⟩) (by show _ ≤ bx; omega) _).setCell (p := ⟨bx, 1, none⟩) (by show _ ≤ bx; omega) _).setCell (p := ⟨bx, 2, none⟩) (by show _ ≤ bx; omega) _
              clear hw5 hKA hbA fz fz1 fz2 kc0 kc1 kc2
              have hB5a := hB5.alloc (.cells #[] 25)
              have b2 := hB5a.cellAt (i := 2) (v := .slice ya sy yc) rfl
              go_wp2_with (at_builtin; refine Shut.out ?kb)
              unfold Shut
              have hown0 : OwnL encW2 (w5.alloc (.cells #[] 25)) w5.heap.size 25 1 (.slice (some ⟨w5.heap.size, 0, none⟩) 0 0) [] := OwnL.of_blk (xs := []) (cap := 0) (Blk.new w5 #[] 25) (Nat.le_refl _) (Nat.le_refl 0) (by unfold maxLen; omega) rfl rfl rfl
              have hu0 : SlA wr.heap.size 1 (fun _ cs x => cs = encW2 x) (w5.alloc (.cells #[] 25)) ya yc ts := hts.imp (hb5.trans ((below_allocJ w5 _).mono hb5.size)) (Nat.le_refl _) (fun _ _ _ h => h)
              refine wpList_app_sla (xs := []) (ys := ts) (enc := encW2) (base := w5.heap.size) _ rfl _ _ 79 rfl Tryz.underlying79 hiL hL0 hL1 hL2i rfl (by decide) rfl hown0 (by show Value.slice ya sy yc = _; rw [hsy.out]) hu0 encW2_len encW2_one (by rw [← hsy.out]; unfold maxLen; simp; omega) (by rw [← hsy.out]; simp; omega) (by simp) (fun v6 w6 hown6 hgr6 => ?_)
              rw [List.nil_append] at hown6
              have hb56 : Below w5.heap.size w5 w6 := (below_allocJ w5 (.cells #[] 25)).grown hgr6 (by simp) (fun g hg => by simp [Act.eval, Value.ownBlock] at hg; omega)
              have hB6 := hB5.below hb56 hB5.lt
              have hs56 := hb56.size
              have hbx5 := hB5.lt
              have hb06 := hb5.trans (hb56.mono hb5.size)
              have hs05 := hb5.size
              clear hown0 hu0 hgr6 b2 hB5a hb56
              go_wp2_with (at_builtin; refine Shut.out ?kc)
              unfold Shut
              have hown0 : OwnL encK (w6.alloc (.cells #[] 67)) w6.heap.size 67 4 (.slice (some ⟨w6.heap.size, 0, none⟩) 0 0) [] := OwnL.of_blk (xs := []) (cap := 0) (Blk.new w6 #[] 67) (Nat.le_refl _) (Nat.le_refl 0) (by unfold maxLen; omega) rfl rfl rfl
              have hu0 : SlA w.heap.size 4 (fun _ cs x => cs = encK x) (w6.alloc (.cells #[] 67)) la lc l := slaChgJ hl (hchr.then_new (Chg.of_below (hb06.trans ((below_allocJ w6 _).mono (by omega)))) (fun i hi e => by have : wr.heap.size ≤ i := e; have := hchr.size; omega)) (Nat.le_refl _) (fun hne a e => by have := hlq hne a e; omega) (fun cs x _ h => h.1)
              refine wpList_app_sla (xs := []) (ys := l) (enc := encK) (base := w6.heap.size) _ rfl _ _ 25 rfl Tryz.underlying25 hiK hK0 hK1 hK2 rfl (by decide) rfl hown0 (by show Value.slice la m lc = _; rw [hm.out]) hu0 encK_len encK_one (by rw [← hm.out]; unfold maxLen; simp; omega) (by rw [← hm.out]; simp; omega) (by simp) (fun v7 w7 hown7 hgr7 => ?_)
              rw [List.nil_append] at hown7
              have hb67 : Below w6.heap.size w6 w7 := (below_allocJ w6 (.cells #[] 67)).grown hgr7 (by simp) (fun g hg => by simp [Act.eval, Value.ownBlock] at hg; omega)
              have hB7 := hB6.below hb67 hB6.lt
              have hs67 := hb67.size
              have hl67 := hown6.lt
              have hown67 := hown6.below hb67 (Nat.le_refl _)
              obtain ⟨l7a, l7c, hv7, hs7⟩ := hown7.sla (E := RCount w7.heap.size) encK_len (rcount_all hl)
              have hl7 := hown7.lt
              rw [← hm.out] at hv7
              subst hv7
              have hb07 := hb06.trans (hb67.mono (by omega))
              clear hown0 hu0 hgr7 hb67 hB6 hown7 hown6
              have hpe : (#[.slice l7a m l7c] : Array Value) = (encW2 ⟨l7a, l7c, l⟩).toArray := by unfold encW2; rw [hm.out]
              replace hpe := Lib.hid hpe
              obtain ⟨v6a, v6c, hv6, _, _, _⟩ := hown67.slice
              rw [← hsy.out] at hv6
              subst hv6
              go_wp2_with (at_builtin; refine Shut.out ?kd)
              unfold Shut
              rw [hpe.out]
              refine wpList_app1g rfl _ _ 79 rfl Tryz.underlying79 hiL hL0 hL1 hL2i rfl (by decide) (enc := encW2) ⟨l7a, l7c, l⟩ rfl hown67 rfl (encW2_len _) (encW2_one _) (by rw [← hsy.out]; omega) (by rw [← hsy.out]; unfold maxLen; omega) (by omega) (fun g cap8 w8 hown8 hgr8 => ?_)
              rw [← hsy.out] at hown8 hgr8 ⊢
              have hl8v := hown8.lt
              have hne7 : (Value.slice v6a sy v6c).ownBlock ≠ some bx := fun e => by have := hl67 bx e; omega
              have hB8 := hgr8.blk hB7 hne7
              have hc78 : Chg (fun k => (Value.slice v6a sy v6c).ownBlock = some k) w7 w8 := Chg.of_grown hgr8.grown
              have hb08 : Below wr.heap.size wr w8 := hb07.trans (hc78.below (by omega) (fun i hi e => by have := hl67 i e; omega))
              have hLl : LiZ w7 (fun i => w6.heap.size ≤ i ∧ i < w7.heap.size) l7a l7c l := ⟨hs7, fun d e => hl7 d.block (by rw [e]; rfl)⟩
              have hLl8 := hLl.chg hc78 (fun i hi e => by have := hl67 i e; omega)
              have hs78 := hc78.size
              have fb2 := hB8.frozen 2
              have b2 := hB8.cellAt (i := 2) (v := .slice ya sy yc) rfl
              clear hown67 hgr8 hne7 hB7 hc78 hLl hs7 hpe hb07
              go_upto_region 24 with fail
              refine Code.wp_world ?_
              intro w9 hw9
              have hc89 : Chg (fun i => i = bx) w8 w9 := by rw [hw9]; exact (Chg.refl (fun i => i = bx) w8).setCell ⟨bx, 2, none⟩ _ (fun _ => rfl)
              have hB9 : Blk w9 bx #[.int .i64 f, .int .i64 t, .slice (some ⟨g, 0, none⟩) (sy + 1) cap8] 91 := by rw [hw9]; exact hB8.set 2 (.slice (some ⟨g, 0, none⟩) (sy + 1) cap8)
              have hb09 : Below wr.heap.size wr w9 := hb08.trans (hc89.below (by omega) (fun i hi e => by omega))
              have hown9 := hown8.chg hc89 (fun i e h => by have := hl8v i e; omega)
              have hLl9 := hLl8.chg hc89 (fun i hi e => by omega)
              have hs89 := hc89.size
              have hR9 := (hRr.below hb5).newZ (hRr.below hb09)
              have hzr := hRr.zlt
              obtain ⟨a9, c9', hv9, hW9⟩ := list_snocZ (Z := newZ w5 w9 Zr) hown9 (fun x hx => ((htz x hx).below hb09 hzr).sub (fun i z => .inl z)) (hLl9.sub (fun i hi => .inr ⟨by omega, by omega⟩)) (fun i h1 h2 => .inr ⟨h1, h2⟩)
              have hln9 : (List.map (fun x => x.l) ts ++ [l]).length = sy + 1 := by rw [List.length_append, List.length_map, hsy.out]; rfl
              rw [hln9] at hv9
              simp only [Value.slice.injEq, true_and] at hv9
              obtain ⟨rfl, rfl⟩ := hv9
              clear hw9 hc89 hB8 hb08 hown8 hown9 hLl8 hLl9 b2 fb2 hb5 hb06 hRr
              replace hln9 := Lib.hid hln9
              have k1 := hR9.cells.2.1
              have k3 := hR9.cells.2.2.2
              rw [← hz.out] at k3
              have b0 := hB9.cellAt (i := 0) (v := .int .i64 f) rfl
              have b1 := hB9.cellAt (i := 1) (v := .int .i64 t) rfl
              have b2 := hB9.cellAt (i := 2) (v := .slice (some ⟨g, 0, none⟩) (sy + 1) cap8) rfl
              refine wp_region_quiet_tail 14 (by kernel_rfl) (by kernel_rfl) ?_
              simp only [List.take_succ_cons, List.take_zero, List.drop_succ_cons, List.drop_zero]
              repeat (go_big_quiet_step (fail))
              refine wpQuiet_nil ?_
              rintro wB ⟨mqwB, hmqwB⟩
              have hbqwB : Below w9.heap.size w9 wB := by rw [hmqwB]; exact below_drewN (Below.refl _ _) mqwB
              clear hmqwB
              have hR12 := hR9.below hbqwB
              have hW12 := hW9.chg (Chg.of_below hbqwB) (fun i z e => by have : w9.heap.size ≤ i := e; have := hR9.zlt i z; omega)
              have hb012 := hb09.trans (hbqwB.mono hb09.size)
              clear hR9 hW9 hB9 k1 k3 b0 b1 b2
              obtain ⟨f9, t9, a9, c9, y0, y1, y2, _⟩ := hR12.way (i := x) (by rw [← hz.out]; exact hx)
              have fy0 := hR12.frozenY (x * 3)
              have fy1 := hR12.frozenY (x * 3 + 1)
              have fy2 := hR12.frozenY (x * 3 + 2)
              go_upto_region 21 with fail
              refine Code.wp_world ?_
              intro w13 hw13
              have hR13 := hR12.setY (i := x) (f := f) (t := t) (by rw [← hz.out]; exact hx) hW12
              rw [hln9.out, ← hw13] at hR13
              have hch13 : Chg (fun k => k = q.vb ∨ k = q.yb) w w13 := by rw [hw13]; exact (((hchr.then_new (Chg.of_below hb012) (fun i hi e => by have : wr.heap.size ≤ i := e; have := hchr.size; omega)).setCell ⟨q.yb, x * 3, none⟩ _ (fun _ => .inr rfl)).setCell ⟨q.yb, x * 3 + 1, none⟩ _ (fun _ => .inr rfl)).setCell ⟨q.yb, x * 3 + 2, none⟩ _ (fun _ => .inr rfl)
              have hsw := hchr.size
              have hI13 : RS6 w w13 Z q gv n (rdoV ops n V l) (rdoYj n Y k l (j + 1)) := ⟨hch13, newZ w5 w9 Zr, fun i z => Or.elim z (hZr i) (fun z => .inr (by omega)), hR13.congr (fun _ _ => rfl) (fun i hi => by
                rw [← rdoYj_next n Y k l j, htl.out, hxe.out])⟩
              clear hw13 hR12 hW12 hR13 hch13 y0 y1 y2 fy0 fy1 fy2 hb012 hchr
              go_wp2_with fail
              go_roundw
              case rel => exact ⟨j + 1, by omega, by go_num, hI13⟩
              case measure => simp [intOf]; omega
end Go.Proofs.YtjmbafcpbagpdaaGreat

/- Gossip, the document's side: New. -/
namespace Go.Proofs.YtjmbafcpbagpdaaGreat
open Go.RowKit Go.Shelf Go.Maps
attribute [local go_sem] Oper.semAt_some
set_option linter.unusedVariables false
set_option linter.unusedSimpArgs false

theorem infoT7 : (Tryz.prog.info? 53).map (fun i => (i.zero, i.size, i.bytes)) = some (some (.agg #[.slice none 0 0, .slice none 0 0]), 2, 48) := by kernel_rfl
theorem infoY7 : (Tryz.prog.info? 91).map (fun i => (i.zero, i.size, i.bytes)) = some (some (.agg #[.int .i64 0, .int .i64 0, .slice none 0 0]), 3, 40) := by kernel_rfl
def encV7 (ao : Option Addr) (no cap : Nat) (v : TRow) : List Value := [.slice ao no cap, .slice v.a v.l.length v.c]
theorem encV7_len (ao : Option Addr) (no cap : Nat) (v : TRow) : (encV7 ao no cap v).length = 2 := rfl
theorem encV7_one (ao : Option Addr) (no cap : Nat) (v : TRow) : ∀ u ∈ encV7 ao no cap v, u.oneCell' = true := by
  intro u hu
  simp only [encV7, List.mem_cons, List.not_mem_nil, or_false] at hu
  rcases hu with rfl | rfl <;> rfl
def encY7 (p : Int × Int) : List Value := [.int .i64 p.1, .int .i64 p.2, .slice none 0 0]
theorem encY7_len (p : Int × Int) : (encY7 p).length = 3 := rfl
theorem encY7_one (p : Int × Int) : ∀ u ∈ encY7 p, u.oneCell' = true := by
  intro u hu
  simp only [encY7, List.mem_cons, List.not_mem_nil, or_false] at hu
  rcases hu with rfl | rfl | rfl <;> rfl
theorem own_ne7 {α β : Type} {enc : α → List Value} {enc' : β → List Value} {w : World} {base base' s s' : Nat} {e e' : TypeId} {v u : Value} {xs : List α} {ys : List β} (h : OwnL enc w base e s v xs) (h' : OwnL enc' w base' e' s' u ys) (he : e ≠ e') : ∀ b, v.ownBlock = some b → u.ownBlock ≠ some b := by
  intro b hb hu
  rcases h.form with ⟨rfl, _⟩ | ⟨g, cap, cells, rfl, h2, _⟩
  · simp [Value.ownBlock] at hb
  rcases h'.form with ⟨rfl, _⟩ | ⟨g', cap', cells', rfl, h2', _⟩
  · simp [Value.ownBlock] at hu
  simp only [Value.ownBlock, Option.some.injEq] at hb hu
  subst hb
  subst hu
  unfold Blk at h2 h2'
  rw [h2] at h2'
  simp only [Option.some.injEq, Obj.cells.injEq] at h2'
  exact he h2'.2.1
/-- Blocks that New has made, but for the rows that grow. -/
def zN7 (w wr : World) (rb : Nat) (vv yv : Value) (b : Nat) : Prop := w.heap.size ≤ b ∧ b < wr.heap.size ∧ b ≠ rb ∧ vv.ownBlock ≠ some b ∧ yv.ownBlock ≠ some b
structure N19 (w wr : World) (rb : Nat) (ao : Option Addr) (no cap : Nat) (k : Nat) (vv yv : Value) (L : List TCount) (Vs : List TRow) (Ys : List (Int × Int)) : Prop where
  bel : Below w.heap.size w wr
  blk : Blk wr rb #[.slice ao no cap, .int .i64 k, vv, yv] 47
  ov : OwnL (encV7 ao no cap) wr (rb + 1) 53 2 vv Vs
  oy : OwnL encY7 wr (rb + 1) 91 3 yv Ys
  ls : ∀ v ∈ Vs, v.l = L ∧ LiZ wr (zN7 w wr rb vv yv) v.a v.c v.l
  rbw : w.heap.size ≤ rb
theorem grew_place {w0 w : World} {v0 : Value} {g n c : Nat} (h : Grew w0 v0 w (.slice (some ⟨g, 0, none⟩) n c)) : v0.ownBlock = some g ∨ w0.heap.size ≤ g := by
  rcases h.place with e | ⟨g', e, h1⟩
  · exact .inl (by rw [← e]; rfl)
  · simp only [Value.ownBlock, Option.some.injEq] at e
    subst e
    exact .inr h1
namespace N19
variable {w wr w' : World} {rb : Nat} {ao : Option Addr} {no cap k : Nat} {vv yv : Value} {L : List TCount} {Vs : List TRow} {Ys : List (Int × Int)}
theorem below (h : N19 w wr rb ao no cap k vv yv L Vs Ys) (hb : Below wr.heap.size wr w') : N19 w w' rb ao no cap k vv yv L Vs Ys :=
  ⟨h.bel.trans (hb.mono h.bel.size), h.blk.below hb h.blk.lt, h.ov.below hb (Nat.le_refl _), h.oy.below hb (Nat.le_refl _), fun v hv => ⟨(h.ls v hv).1, ((h.ls v hv).2.below hb (fun i hi => hi.2.1)).sub (fun i hi => ⟨hi.1, Nat.lt_of_lt_of_le hi.2.1 hb.size, hi.2.2⟩)⟩, h.rbw⟩
/-- One more view. -/
theorem snocV (h : N19 w wr rb ao no cap k vv yv L Vs Ys) {w2 w7 : World} {g c7 : Nat} {t : TRow} (hb : Below wr.heap.size wr w2) (ht : t.l = L) (hta : LiZ w2 (fun b => wr.heap.size ≤ b ∧ b < w2.heap.size) t.a t.c t.l)
    (hown : OwnL (encV7 ao no cap) w7 (rb + 1) 53 2 (.slice (some ⟨g, 0, none⟩) (Vs.length + 1) c7) (Vs ++ [t])) (hgr : Grew w2 vv w7 (.slice (some ⟨g, 0, none⟩) (Vs.length + 1) c7)) :
    N19 w (w7.setCell ⟨rb, 2, none⟩ (.slice (some ⟨g, 0, none⟩) (Vs.length + 1) c7)) rb ao no cap k (.slice (some ⟨g, 0, none⟩) (Vs.length + 1) c7) yv L (Vs ++ [t]) Ys := by
  have h2 := h.below hb
  have hs2 := hb.size
  have hs7 := hgr.grown.size
  have hrb : rb < wr.heap.size := h.blk.lt
  have hvl := h.ov.lt
  have hyl := h.oy.lt
  have hne := own_ne7 h.oy h.ov (by decide)
  have hg : vv.ownBlock = some g ∨ w2.heap.size ≤ g := grew_place hgr
  have hc27 : Chg (fun i => vv.ownBlock = some i) w2 w7 := Chg.of_grown hgr.grown
  have hc78 : Chg (fun i => i = rb) w7 (w7.setCell ⟨rb, 2, none⟩ (.slice (some ⟨g, 0, none⟩) (Vs.length + 1) c7)) := (Chg.refl (fun i => i = rb) w7).setCell ⟨rb, 2, none⟩ _ (fun _ => rfl)
  have hs8 := hc78.size
  have hgrb : g ≠ rb := by
    rcases hg with e | e
    · have := hvl g e; omega
    · omega
  have hb7 := h2.blk.chg hc27 (fun e => by have := hvl rb e; omega)
  have hrbw := h.rbw
  refine ⟨h2.bel.trans ((hc27.below (by have := h2.bel.size; omega) (fun i hi e => by have := hvl i e; have := h.bel.size; omega)).trans (hc78.below (by have := h2.bel.size; omega) (fun i hi e => by omega))), hb7.set 2 _, hown.chg hc78 (fun i e => by simp only [Value.ownBlock, Option.some.injEq] at e; omega), (h2.oy.chg hc27 (fun i e => hne i e)).chg hc78 (fun i e => by have := hyl i e; omega), fun v hv => ?_, hrbw⟩
  rcases List.mem_append.1 hv with hv | hv
  · refine ⟨(h.ls v hv).1, (((h2.ls v hv).2.chg hc27 (fun i hi => hi.2.2.2.1)).chg hc78 (fun i hi => hi.2.2.1)).sub (fun i hi => ⟨hi.1, by have := hi.2.1; omega, hi.2.2.1, ?_, hi.2.2.2.2⟩)⟩
    intro e
    simp only [Value.ownBlock, Option.some.injEq] at e
    subst e
    rcases hg with e | e
    · exact hi.2.2.2.1 e
    · have := hi.2.1; omega
  · rw [List.mem_singleton.1 hv]
    refine ⟨ht, ((hta.chg hc27 (fun i hi e => by have := hvl i e; omega)).chg hc78 (fun i hi e => by omega)).sub (fun i hi => ⟨by have := h.bel.size; omega, by omega, by omega, ?_, fun e => by have := hyl i e; omega⟩)⟩
    intro e
    simp only [Value.ownBlock, Option.some.injEq] at e
    subst e
    rcases hg with e | e
    · have := hvl _ e; omega
    · omega
/-- One more way. -/
theorem snocY (h : N19 w wr rb ao no cap k vv yv L Vs Ys) {w7 : World} {g c7 : Nat} {t : Int × Int}
    (hown : OwnL encY7 w7 (rb + 1) 91 3 (.slice (some ⟨g, 0, none⟩) (Ys.length + 1) c7) (Ys ++ [t])) (hgr : Grew wr yv w7 (.slice (some ⟨g, 0, none⟩) (Ys.length + 1) c7)) :
    N19 w (w7.setCell ⟨rb, 3, none⟩ (.slice (some ⟨g, 0, none⟩) (Ys.length + 1) c7)) rb ao no cap k vv (.slice (some ⟨g, 0, none⟩) (Ys.length + 1) c7) L Vs (Ys ++ [t]) := by
  have hs7 := hgr.grown.size
  have hrb : rb < wr.heap.size := h.blk.lt
  have hvl := h.ov.lt
  have hyl := h.oy.lt
  have hne := own_ne7 h.ov h.oy (by decide)
  have hg : yv.ownBlock = some g ∨ wr.heap.size ≤ g := grew_place hgr
  have hc27 : Chg (fun i => yv.ownBlock = some i) wr w7 := Chg.of_grown hgr.grown
  have hc78 : Chg (fun i => i = rb) w7 (w7.setCell ⟨rb, 3, none⟩ (.slice (some ⟨g, 0, none⟩) (Ys.length + 1) c7)) := (Chg.refl (fun i => i = rb) w7).setCell ⟨rb, 3, none⟩ _ (fun _ => rfl)
  have hs8 := hc78.size
  have hgrb : g ≠ rb := by
    rcases hg with e | e
    · have := hyl g e; omega
    · omega
  have hb7 := h.blk.chg hc27 (fun e => by have := hyl rb e; omega)
  have hrbw := h.rbw
  refine ⟨h.bel.trans ((hc27.below h.bel.size (fun i hi e => by have := hyl i e; omega)).trans (hc78.below (by have := h.bel.size; omega) (fun i hi e => by omega))), hb7.set 3 _, (h.ov.chg hc27 (fun i e => hne i e)).chg hc78 (fun i e => by have := hvl i e; omega), hown.chg hc78 (fun i e => by simp only [Value.ownBlock, Option.some.injEq] at e; omega), fun v hv => ?_, hrbw⟩
  refine ⟨(h.ls v hv).1, (((h.ls v hv).2.chg hc27 (fun i hi => hi.2.2.2.2)).chg hc78 (fun i hi => hi.2.2.1)).sub (fun i hi => ⟨hi.1, by have := hi.2.1; omega, hi.2.2.1, hi.2.2.2.1, ?_⟩)⟩
  intro e
  simp only [Value.ownBlock, Option.some.injEq] at e
  subst e
  rcases hg with e | e
  · exact hi.2.2.2.2 e
  · have := hi.2.1; omega
/-- All is there: the document's gossip. -/
theorem rg (h : N19 w wr rb ao no cap k vv yv L Vs Ys) (h1 : 1 ≤ k) (h8 : k ≤ 8) (hV : Vs.length = k + 1) (hY : Ys.length = k * k) :
    ∃ q : RP, q.rb = rb ∧ w.heap.size ≤ q.vb ∧ w.heap.size ≤ q.yb ∧ RG wr (zN7 w wr rb vv yv) q (.slice ao no cap) k (fun _ => L) (fun _ => []) := by
  have hrbw := h.rbw
  have hne := own_ne7 h.ov h.oy (by decide)
  rcases h.ov.form with ⟨_, e⟩ | ⟨vb, vc, cs, e1, e2, e3, e4, e5, e6, e7, e8⟩
  · rw [e] at hV; simp at hV
  rcases h.oy.form with ⟨_, e⟩ | ⟨yb, yc, ds, y1, y2, y3, y4, y5, y6, y7, y8⟩
  · rw [e] at hY
    have : 1 * 1 ≤ k * k := Nat.mul_le_mul h1 h1
    simp at hY
    omega
  have hb := h.blk
  rw [e1, y1, hV, hY] at hb
  have hvy : vb ≠ yb := fun e => hne vb (by rw [e1]; rfl) (by rw [y1, e]; rfl)
  refine ⟨⟨rb, vb, vc, yb, yc⟩, rfl, by show _ ≤ vb; omega, by show _ ≤ yb; omega, h1, h8, hb, ⟨by show k + 1 ≤ vc; omega, e4, by show k * k ≤ yc; omega, y4⟩, ⟨cs, e2, fun i hi => ?_⟩, ⟨ds, y2, fun i hi => ?_⟩, ⟨by show rb ≠ vb; omega, by show rb ≠ yb; omega, hvy⟩, fun b hb => hb.2.1, fun b hb => ⟨hb.2.2.1, fun e => hb.2.2.2.1 (by rw [e1, e]; rfl), fun e => hb.2.2.2.2 (by rw [y1, e]; rfl)⟩⟩
  · have hiv : i < Vs.length := by omega
    have f0 := flat_at (encV7_len ao no cap) Vs i 0 hiv (by omega)
    have f1 := flat_at (encV7_len ao no cap) Vs i 1 hiv (by omega)
    rw [← e8, List.getElem?_take] at f0 f1
    rw [if_pos (by omega)] at f0 f1
    obtain ⟨hvl, hvz⟩ := h.ls Vs[i] (List.getElem_mem hiv)
    refine ⟨by simpa [encV7] using f0, Vs[i].a, Vs[i].c, ?_, ?_⟩
    · rw [← hvl]; simpa [encV7] using f1
    · rw [← hvl]; exact hvz
  · have hiv : i < Ys.length := by omega
    have f0 := flat_at encY7_len Ys i 0 hiv (by omega)
    have f1 := flat_at encY7_len Ys i 1 hiv (by omega)
    have f2 := flat_at encY7_len Ys i 2 hiv (by omega)
    rw [← y8, List.getElem?_take] at f0 f1 f2
    rw [if_pos (by omega)] at f0 f1 f2
    exact ⟨⟨Ys[i].1, by simpa [encY7] using f0⟩, ⟨Ys[i].2, by simpa [encY7] using f1⟩, none, 0, by simpa [encY7] using f2, WyZ.nil _ _⟩
end N19
def RnewP (w : World) (ops : List TOp) (gv : Value) (k : Int) (l : List TCount) (e : Ending) (w' : World) : Prop :=
  Below w.heap.size w w' ∧ (newGE ops k l ≠ 0 → e = .returned (.tuple #[.pointer none, .int .i64 (newGE ops k l)])) ∧
    (newGE ops k l = 0 → ∃ (q : RP) (Z : Nat → Prop), e = .returned (.tuple #[.pointer (some ⟨q.rb, 0, none⟩), .int .i64 0]) ∧ (w.heap.size ≤ q.rb ∧ w.heap.size ≤ q.vb ∧ w.heap.size ≤ q.yb) ∧ (∀ b, Z b → w.heap.size ≤ b) ∧ RG w' Z q gv k.toNat (fun _ => (updL ops [] l).2) (fun _ => []))
theorem RnewP.bad {w w' : World} {ops : List TOp} {gv : Value} {k : Int} {l : List TCount} {e : Int} (hE : newGE ops k l = e) (he : e ≠ 0) (hb : Below w.heap.size w w') : RnewP w ops gv k l (.returned (.tuple #[.pointer none, .int .i64 e])) w' :=
  ⟨hb, fun _ => by rw [hE], fun h => absurd h (by rw [hE]; exact he)⟩

set_option maxRecDepth 100000 in
set_option maxHeartbeats 4000000 in
theorem rnew_no (k : Int) (v : Value) (l : List TCount) (ops : List TOp) (ao : Option Addr) (cap : Nat) (w : World) (hx : SlA w.heap.size 7 (ROp w.heap.size) w ao cap ops) (hok : (gcheck ops).2 ≠ 0) :
    Calls Tryz.prog 6 #[.agg #[.slice ao ops.length cap], .int .i64 k, v] w (RnewP w ops (.slice ao ops.length cap) k l) := by
  have hE : newGE ops k l = 13 := by unfold newGE; rw [if_pos hok]
  have hCk := fun W (hb : Below w.heap.size w W) => rcheck_all ops cap ao W w.heap.size hb.size (imp_ops hx hb)
  obtain ⟨n, hn⟩ : ∃ n, n = ops.length := ⟨_, rfl⟩
  obtain ⟨⟨g1, g2⟩, hg⟩ : ∃ g, g = gcheck ops := ⟨_, rfl⟩
  rw [← hg] at hok
  rw [← hn] at hCk ⊢
  rw [← hg] at hCk
  dsimp only at hok hCk
  have d2 : (g2 != 0) = true := by simpa using hok
  replace hCk := Lib.hid hCk
  replace hg := Lib.hid hg
  replace hE := Lib.hid hE
  clear hn hx hok
  go_enter Tryz.func6, Tryz.ntmps6
  go_wp2_with fail
  refine (hCk.out _ ((Below.refl _ _).alloc (Nat.le_refl _) _)).mono ?_
  rintro e w1 ⟨rfl, hb1⟩
  have hbel : Below w.heap.size w w1 := ((Below.refl w.heap.size w).alloc (Nat.le_refl _) (.cells #[.slice ao n cap] 24)).trans (hb1.mono (by simp))
  dsimp only
  go_wp2_with fail
  go_ret2
  exact RnewP.bad hE.out (by decide) hbel

set_option maxRecDepth 100000 in
set_option maxHeartbeats 8000000 in
theorem rnew_ok (k : Int) (l : List TCount) (la : Option Addr) (lc : Nat) (ops : List TOp) (ao : Option Addr) (cap : Nat) (w : World) (hx : SlA w.heap.size 7 (ROp w.heap.size) w ao cap ops) (hok : (gcheck ops).2 = 0)
    (hl : SlA w.heap.size 4 (RCount w.heap.size) w la lc l) (hz : l.length ≤ 1048576) :
    Calls Tryz.prog 6 #[.agg #[.slice ao ops.length cap], .int .i64 k, .slice la l.length lc] w (RnewP w ops (.slice ao ops.length cap) k l) := by
  obtain ⟨jT, hiT, hT0, hT1, hT2⟩ := info_parts infoT7
  obtain ⟨jY, hiY, hY0, hY1, hY2⟩ := info_parts infoY7
  have hCk := fun W (hb : Below w.heap.size w W) => rcheck_all ops cap ao W w.heap.size hb.size (imp_ops hx hb)
  have hUp := fun W mk (hB : Blk W mk #[.slice ao ops.length cap, .slice none ([] : List TCount).length 0] 53) (hW : Below w.heap.size w W) => rupd_any mk ops ao cap [] l none la 0 lc W hB (imp_ops2 hx hW) (SlA.nil _ _ _ _) (hl.imp hW hW.size (fun _ _ _ h => h.imp hW hW.size)) srt_nil (fun s => by show -4611686018427387904 ≤ (0 : Int) ∧ (0 : Int) ≤ 4611686018427387904; omega) (by omega) (by simp; omega) hok
  have hE : newGE ops k l = (if ¬ (1 ≤ k ∧ k ≤ 8) then 1 else if ∃ c ∈ l, c.fN < 0 then 1 else if (updL ops [] l).1 ≠ 0 then 1 else 0) := by
    unfold newGE
    rw [if_neg (by simpa using hok), (Alk.zero 0).upd (by omega)]
  obtain ⟨E, hEe⟩ : ∃ E, E = newGE ops k l := ⟨_, rfl⟩
  rw [← hEe] at hE
  have hlen := hl.len
  obtain ⟨no, hn⟩ : ∃ no, no = ops.length := ⟨_, rfl⟩
  obtain ⟨m, hm⟩ : ∃ m, m = l.length := ⟨_, rfl⟩
  obtain ⟨g1, hg1⟩ : ∃ g1, g1 = (gcheck ops).1 := ⟨_, rfl⟩
  rw [hok, ← hg1] at hCk
  rw [← hn] at hCk hUp ⊢
  rw [← hm] at hUp hlen hz ⊢
  obtain ⟨ue, hue⟩ : ∃ ue, ue = (updL ops [] l).1 := ⟨_, rfl⟩
  obtain ⟨L, hL⟩ : ∃ L, L = (updL ops [] l).2 := ⟨_, rfl⟩
  rw [← hue] at hE
  rw [← hue, ← hL] at hUp
  replace hn := Lib.hid hn
  replace hm := Lib.hid hm
  replace hue := Lib.hid hue
  replace hL := Lib.hid hL
  replace hE := Lib.hid hE
  replace hEe := Lib.hid hEe
  replace hCk := Lib.hid hCk
  replace hUp := Lib.hid hUp
  clear hg1
  have hbad : ∀ W, E = 1 → Below w.heap.size w W → RnewP w ops (.slice ao no cap) k l (.returned (.tuple #[.pointer none, .int .i64 1])) W := fun W h1 h2 => RnewP.bad (by rw [← hEe.out]; exact h1) (by decide) h2
  replace hbad := Lib.hid hbad
  go_enter Tryz.func6, Tryz.ntmps6
  go_wp2_with fail
  refine (hCk.out _ ((Below.refl _ _).alloc (Nat.le_refl _) _)).mono ?_
  rintro e w1 ⟨rfl, hb1⟩
  have hA1 : Blk w1 w.heap.size #[.slice ao no cap] 24 := (Blk.new w _ _).below hb1 (by simp)
  have hbel : Below w.heap.size w w1 := ((Below.refl w.heap.size w).alloc (Nat.le_refl _) (.cells #[.slice ao no cap] 24)).trans (hb1.mono (by simp))
  have hw1 : w.heap.size < w1.heap.size := hA1.lt
  clear hb1 hCk
  have ca := hA1.cellAt (i := 0) (v := .slice ao no cap) rfl
  dsimp only
  by_cases hk1 : k < 1
  · have d1 : decide (k < 1) = true := by simpa using hk1
    have hE1 : E = 1 := by rw [hE.out, if_pos (by omega)]
    clear hE
    replace hE1 := Lib.hid hE1
    go_wp2_with fail
    go_ret2
    exact hbad.out _ hE1.out hbel
  by_cases hk8 : 8 < k
  · have d1 : decide (k < 1) = false := by simpa using hk1
    have d2 : decide (8 < k) = true := by simpa using hk8
    have hE1 : E = 1 := by rw [hE.out, if_pos (by omega)]
    clear hE
    replace hE1 := Lib.hid hE1
    go_wp2_with fail
    go_ret2
    exact hbad.out _ hE1.out hbel
  obtain ⟨kk, rfl⟩ : ∃ kk : Nat, k = (kk : Int) := ⟨k.toNat, by omega⟩
  have d1 : decide ((kk : Int) < 1) = false := by simpa using hk1
  have d2 : decide ((8 : Int) < (kk : Int)) = false := by simpa using hk8
  have d3 : decide (kk < 1) = false := by simp; omega
  have d4 : decide (8 < kk) = false := by simp; omega
  have hkk1 : 1 ≤ kk := by omega
  have hkk8 : kk ≤ 8 := by omega
  have hE2 : E = (if ∃ c ∈ l, c.fN < 0 then 1 else if ue ≠ 0 then 1 else 0) := by rw [hE.out, if_neg (by omega)]
  clear hE hk1 hk8
  replace hE2 := Lib.hid hE2
  go_upto_region 7 with fail
  refine Code.wp_world ?_
  intro w3 hw3
  have hb3 : Below w1.heap.size w1 w3 := by rw [hw3]; exact below_allocJ _ _
  have hG3 : Blk w3 w1.heap.size #[.slice ao no cap, .int .i64 kk, .slice none 0 0, .slice none 0 0] 47 := by rw [hw3]; exact Blk.new _ _ _
  have hA3 := hA1.below hb3 hA1.lt
  obtain ⟨rb, hrb⟩ : ∃ rb, rb = w1.heap.size := ⟨_, rfl⟩
  have hI3 : N19 w w3 rb ao no cap kk (.slice none 0 0) (.slice none 0 0) L [] [] := ⟨hbel.trans (hb3.mono hbel.size), by rw [hrb]; exact hG3, OwnL.nil _ _ _ _ _, OwnL.nil _ _ _ _ _, fun v hv => (by cases hv), by omega⟩
  rw [← hrb]
  have hwrb : w.heap.size < rb := by omega
  replace hrb := Lib.hid hrb
  clear hw3 hG3 hb3 hA1 hbel hw1 ca d1 d2 d3 d4
  go_wp2_with fail
  go_loopw [11] (fun x11 wr => ∃ i : Nat, i ≤ m ∧ x11 = .int .i64 i ∧ wr = w3 ∧ Hid (¬ ∃ c ∈ l.take i, c.fN < 0)) (fun x11 _ => m - (intOf x11).toNat)
  case atStart => exact ⟨0, Nat.zero_le _, rfl, rfl, Lib.hid (by simp)⟩
  case round =>
    obtain ⟨i, hi, rfl, hwr, hN⟩ := hrel
    rw [hwr]
    clear hwr wr
    by_cases hin : i < m
    · have d1 : decide ((i : Int) < (m : Int)) = true := by simp; omega
      have hil : i < l.length := by rw [← hm.out]; exact hin
      have hsr := hl.imp hI3.bel (Nat.le_refl _) (fun _ _ _ h => h.imp hI3.bel (Nat.le_refl _))
      obtain ⟨b2, off2, rfl, hb2l, -⟩ := hsr.addr (by omega)
      obtain ⟨c, hc⟩ : ∃ c, l[i] = c := ⟨_, rfl⟩
      obtain ⟨e0, e1, e2, e3, -⟩ := RCount.at hsr hil hc
      have htk : l.take (i + 1) = l.take i ++ [c] := by rw [List.take_succ_eq_append_getElem hil, hc]
      have hcm : c ∈ l := by rw [← hc]; exact List.getElem_mem hil
      clear hsr hc
      by_cases hneg : c.fN < 0
      · have dn : decide (c.fN < 0) = true := by simpa using hneg
        have hE3 : E = 1 := by rw [hE2.out, if_pos ⟨c, hcm, hneg⟩]
        have hbl := hI3.bel
        clear hE2 htk hcm hneg hN
        replace hE3 := Lib.hid hE3
        go_wp2_with fail
        go_ret2
        exact hbad.out _ hE3.out hbl
      · have dn : decide (c.fN < 0) = false := by simpa using hneg
        have hN2 : ¬ ∃ c ∈ l.take (i + 1), c.fN < 0 := by
          rw [htk]
          rintro ⟨d, hd, h1⟩
          rcases List.mem_append.1 hd with hd | hd
          · exact hN.out ⟨d, hd, h1⟩
          · rw [List.mem_singleton.1 hd] at h1
            exact hneg h1
        replace hN2 := Lib.hid hN2
        clear htk hcm hneg hN
        go_wp2_with fail
        go_roundw
        case rel => first | exact ⟨i + 1, by omega, by go_num, rfl, hN2⟩ | exact ⟨i + 1, by omega, by go_num, trivial, hN2⟩ | exact ⟨i + 1, by omega, by go_num, hN2⟩
        case measure => simp [intOf]; omega
    · obtain rfl : m = i := by omega
      have d1 : decide ((m : Int) < (m : Int)) = false := by simp
      have hE3 : E = (if ue ≠ 0 then 1 else 0) := by
        rw [hE2.out, if_neg]
        have := hN.out
        rw [List.take_of_length_le (by rw [← hm.out]; exact Nat.le_refl _)] at this
        exact this
      clear hE2 hN hin hi
      replace hE3 := Lib.hid hE3
      go_wp2_with fail
      go_loopw [12] (fun x12 wr => ∃ (i : Nat) (vv yv : Value) (Vs : List TRow) (Ys : List (Int × Int)), i ≤ kk + 1 ∧ x12 = .int .i64 i ∧ Hid (Vs.length = i) ∧ Hid (Ys.length = (if i ≤ kk then i else kk) * kk) ∧ N19 w wr rb ao no cap kk vv yv L Vs Ys ∧ Blk wr w.heap.size #[.slice ao no cap] 24 ∧ Hid (i = 0 ∨ ue = 0)) (fun x12 _ => kk + 1 - (intOf x12).toNat)
      case atStart => exact ⟨0, _, _, [], [], Nat.zero_le _, rfl, Lib.hid rfl, Lib.hid (by simp), hI3, hA3, Lib.hid (.inl rfl)⟩
      case round =>
        clear hI3 hA3
        obtain ⟨i, vv, yv, Vs, Ys, hi, rfl, hVl, hYl, hI, hA, hue0⟩ := hrel
        by_cases hik : i ≤ kk
        rotate_left
        · obtain rfl : i = kk + 1 := by omega
          have di : decide (((kk + 1 : Nat) : Int) ≤ (kk : Int)) = false := by simp; omega
          have di2 : decide (kk + 1 ≤ kk) = false := by simp
          have di3 : decide ((kk : Int) + 1 ≤ (kk : Int)) = false := by simp; omega
          have hE4 : E = 0 := by
            rw [hE3.out, if_neg]
            rcases hue0.out with h | h
            · omega
            · simpa using h
          have hYl2 : Ys.length = kk * kk := by rw [hYl.out, if_neg (by omega)]
          obtain ⟨q, hq1, hq2, hq3, hq4⟩ := hI.rg hkk1 hkk8 hVl.out hYl2
          have hres : RnewP w ops (.slice ao no cap) (kk : Int) l (.returned (.tuple #[.pointer (some ⟨rb, 0, none⟩), .int .i64 0])) wr :=
            ⟨hI.bel, fun h => absurd (by rw [← hEe.out]; exact hE4) h, fun _ => ⟨q, zN7 w wr rb vv yv, by rw [hq1], ⟨by omega, hq2, hq3⟩, fun b hb => hb.1, by rw [← hL.out]; exact hq4⟩⟩
          replace hres := Lib.hid hres
          clear hYl2 hq1 hq2 hq3 hq4 hI hA hE4 hVl hYl hE3 hbad
          go_wp2_with fail
          go_ret2
          exact hres.out
        have di : decide ((i : Int) ≤ (kk : Int)) = true := by simp; omega
        have di2 : decide (i ≤ kk) = true := by simpa using hik
        have ca := hA.cellAt (i := 0) (v := .slice ao no cap) rfl
        go_upto_region 16 with fail
        refine Code.wp_world ?_
        intro w5 hw5
        have hb5 : Below wr.heap.size wr w5 := by rw [hw5]; exact below_allocJ _ _
        have hB5 : Blk w5 wr.heap.size #[.slice ao no cap, .slice none ([] : List TCount).length 0] 53 := by rw [hw5]; exact Blk.new _ _ _
        have hU5 := hUp.out w5 wr.heap.size hB5 (hI.bel.trans (hb5.mono hI.bel.size))
        obtain ⟨bx, hbx⟩ : ∃ bx, bx = wr.heap.size := ⟨_, rfl⟩
        rw [← hbx] at hU5 hB5 ⊢
        have hbxw : wr.heap.size ≤ bx := Nat.le_of_eq hbx.symm
        have hbx5 := hB5.lt
        replace hbx := Lib.hid hbx
        replace hU5 := Lib.hid hU5
        clear hw5 hB5 ca
        go_wp2_with (go_at_call 30; refine Shut.out ?ka)
        unfold Shut
        refine hU5.out.mono ?_
        rintro e w8 ⟨rfl, hc8, a8, n8, hT8, hS8, hap⟩
        have hs58 := hc8.size
        have hs5 := hb5.size
        have hb08 : Below wr.heap.size wr w8 := hb5.trans (hc8.below hs5 (fun i hi e => by omega))
        have hLt : LiZ w8 (fun b => wr.heap.size ≤ b ∧ b < w8.heap.size) a8 n8 L := ⟨hS8, fun d e => by
          rcases hap with ⟨rfl, _⟩ | hap
          · cases e
          · have := hap d e; omega⟩
        obtain ⟨s8, hs8⟩ : ∃ s8, s8 = L.length := ⟨_, rfl⟩
        rw [← hs8] at hT8
        replace hs8 := Lib.hid hs8
        clear hU5 hc8 hS8 hap
        dsimp only
        by_cases hu0 : ue = 0
        rotate_left
        · have d1 : (ue != 0) = true := by simpa using hu0
          have hE4 : E = 1 := by rw [hE3.out, if_pos hu0]
          have hbl := hI.bel.trans (hb08.mono hI.bel.size)
          clear hu0 hE3 hue0
          replace hE4 := Lib.hid hE4
          go_wp2_with fail
          go_ret2
          exact hbad.out _ hE4.out hbl
        have d1 : (ue != 0) = false := by simpa using hu0
        replace hu0 := Lib.hid hu0
        have hI8 := hI.below hb08
        have hA8 := hA.below hb08 hA.lt
        obtain ⟨av, cv, hvv, _, _, _⟩ := hI8.ov.slice
        rw [hVl.out] at hvv
        subst hvv
        have r2 := hI8.blk.cellAt (i := 2) (v := .slice av i cv) rfl
        have t0 := hT8.cellAt (i := 0) (v := .slice ao no cap) rfl
        have t1 := hT8.cellAt (i := 1) (v := .slice a8 s8 n8) rfl
        have hpe : (#[.slice ao no cap, .slice a8 s8 n8] : Array Value) = (encV7 ao no cap ⟨a8, n8, L⟩).toArray := by unfold encV7; rw [hs8.out]
        replace hpe := Lib.hid hpe
        go_upto_region 18 with fail
        refine wp_region_tree (fun wx => wx.cell? ⟨rb, 2, none⟩ = some (.slice av i cv) ∧ wx.cell? ⟨bx, 0, none⟩ = some (.slice ao no cap) ∧ wx.cell? ⟨bx, 1, none⟩ = some (.slice a8 s8 n8)) 8 11 (by kernel_rfl) rfl (by kernel_rfl) (fun d _ _ _ _ h => by cases d <;> exact h) (⟨r2, t0, t1⟩) (fun opz T hOps hT hTok hHeld => ?_)
        have hI9 := hI8.below (Below.drew (Below.refl w8.heap.size w8))
        have hA9 := hA8.below (Below.drew (Below.refl w8.heap.size w8)) hA8.lt
        have hT9 := hT8.drew
        have hb09 := hb08.drew
        have hLt9 : LiZ w8.drew (fun b => wr.heap.size ≤ b ∧ b < w8.drew.heap.size) a8 n8 L := hLt.below (Below.drew (Below.refl w8.heap.size w8)) (fun i hi => hi.2)
        have hbx8 := hT9.lt
        generalize w8.drew = w9 at hI9 hA9 hT9 hb09 hLt9 hbx8 hHeld ⊢
        clear hI8 hA8 hT8 hLt r2 t0 t1
        (refine wpTree_q 0 hTok hOps (by kernel_rfl) rfl rfl ⟨?_, ?_, ?_⟩; rotate_left; (focus (intro wx hSx; (try dsimp only at hSx); go_simp; (try with_reducible rfl))); (simp only [Act.put, List.setIfInBounds_toArray, List.set_cons_zero, List.set_cons_succ]))
        (refine wpTree_q 1 hTok hOps (by kernel_rfl) rfl rfl ⟨?_, ?_, ?_⟩; rotate_left; (focus (intro wx hSx; (try dsimp only at hSx); go_simp; (try with_reducible rfl))); (simp only [Act.put, List.setIfInBounds_toArray, List.set_cons_zero, List.set_cons_succ]))
        (refine wpTree_q 2 hTok hOps (by kernel_rfl) rfl rfl ⟨?_, ?_, ?_⟩; rotate_left; (focus (intro wx hSx; (try dsimp only at hSx); go_simp; (try with_reducible rfl))); (simp only [Act.put, List.setIfInBounds_toArray, List.set_cons_zero, List.set_cons_succ]))
        (refine wpTree_q 3 hTok hOps (by kernel_rfl) rfl rfl ⟨?_, ?_, ?_⟩; rotate_left; (focus (intro wx hSx; (try dsimp only at hSx); go_simp; (try with_reducible rfl))); (simp only [Act.put, List.setIfInBounds_toArray, List.set_cons_zero, List.set_cons_succ]))
        (refine wpTree_q 4 hTok hOps (by kernel_rfl) rfl rfl ⟨?_, ?_, ?_⟩; rotate_left; (focus (intro wx hSx; (try dsimp only at hSx); go_simp; (try with_reducible rfl))); (simp only [Act.put, List.setIfInBounds_toArray, List.set_cons_zero, List.set_cons_succ]))
        (refine wpTree_q 5 hTok hOps (by kernel_rfl) rfl rfl ⟨?_, ?_, ?_⟩; rotate_left; (focus (intro wx hSx; (try dsimp only at hSx); go_simp; (try with_reducible rfl))); (simp only [Act.put, List.setIfInBounds_toArray, List.set_cons_zero, List.set_cons_succ]))
        refine wpTree_1 6 hOps (by kernel_rfl) (by decide) rfl (fun K' hK => ?_)
        go_simp
        rw [hpe.out]
        have hrb9 := hI9.blk
        try dsimp only
        refine hK.out _ _ ⟨(hrb9.alloc _).cellAt rfl, (hT9.alloc _).cellAt rfl, (hT9.alloc _).cellAt rfl⟩ ?_
        clear hK K'
        try simp only [Act.put, List.setIfInBounds_toArray, List.set_cons_zero, List.set_cons_succ]
        refine wpTree_1 7 hOps (by kernel_rfl) (by decide) rfl (fun K' hK => ?_)
        refine step_app1g rfl _ _ 44 rfl Tryz.underlying44 hiT hT0 hT1 hT2 rfl (by decide) (enc := encV7 ao no cap) ⟨a8, n8, L⟩ rfl hI9.ov rfl (encV7_len _ _ _ _) (encV7_one _ _ _ _) (by rw [hVl.out]; omega) (by rw [hVl.out]; unfold maxLen; omega) (by have := hrb9.lt; omega) (fun g7 cap7 w7 hown7 hgr7 => ?_)
        have hI10 := hI.snocV (t := ⟨a8, n8, L⟩) hb09 rfl hLt9 hown7 hgr7
        have hvl := hI9.ov.lt
        have hB7 := hgr7.blk hrb9 (fun e => by have := hvl rb e; omega)
        have hK7 := hgr7.blk hT9 (fun e => by
          have := hI.ov.lt bx e
          omega)
        have hA7 := hgr7.blk hA9 (fun e => by have := hvl _ e; omega)
        have hA10 := hA7.set_other (p := ⟨rb, 2, none⟩) (by show w.heap.size ≠ rb; omega) (.slice (some ⟨g7, 0, none⟩) (Vs.length + 1) cap7)
        have f7 := hB7.frozen 2
        have r7 := hB7.cellAt (i := 2) (v := .slice av i cv) rfl
        rw [hVl.out] at hI10 hA10 ⊢
        have hVl2 : Hid ((Vs ++ [(⟨a8, n8, L⟩ : TRow)]).length = i + 1) := Lib.hid (by rw [List.length_append, hVl.out]; rfl)
        try dsimp only
        refine hK.out _ _ ⟨hB7.cellAt rfl, hK7.cellAt rfl, hK7.cellAt rfl⟩ ?_
        clear hK K'
        try simp only [Act.put, List.setIfInBounds_toArray, List.set_cons_zero, List.set_cons_succ]
        refine wpTree_nil hOps (by kernel_rfl) ?_
        refine hT.out _ _ ?_
        simp only [List.drop_succ_cons, List.drop_zero]
        clear hOps hT hTok
        try clear hHeld
        clear hown7 hgr7 hvl hB7 hK7 hA7 hI9 hA9 hT9 hb09 hLt9 hbx8 hI hA hb08 hb5 hrb9 hVl
        obtain ⟨Vs2, hVs2⟩ : ∃ Vs2, Vs2 = Vs ++ [(⟨a8, n8, L⟩ : TRow)] := ⟨_, rfl⟩
        rw [← hVs2] at hI10 hVl2
        clear hVs2
        go_upto_region 19 with fail
        refine Code.wp_world ?_
        intro w10 hw10
        rw [← hw10] at hI10 hA10
        clear hw10 f7 r7
        go_wp2_with fail
        go_loopw [14] (fun x14 wr => ∃ (j : Nat) (yv : Value) (Ys : List (Int × Int)), j ≤ kk ∧ x14 = .int .i64 j ∧ Hid (Ys.length = (if i ≤ kk then i else kk) * kk + (if i < kk then j else 0)) ∧ N19 w wr rb ao no cap kk (.slice (some ⟨g7, 0, none⟩) (i + 1) cap7) yv L Vs2 Ys ∧ Blk wr w.heap.size #[.slice ao no cap] 24) (fun x14 _ => kk - (intOf x14).toNat)
        case atStart => exact ⟨0, yv, Ys, Nat.zero_le _, rfl, Lib.hid (by rw [hYl.out]; simp), hI10, hA10⟩
        case round =>
          clear hI10 hA10 hYl
          obtain ⟨j, yv, Ys, hj, rfl, hYl, hI, hA⟩ := hrel
          by_cases hgo : j < kk ∧ i < kk
          · obtain ⟨hjk, hik2⟩ := hgo
            have d2 : decide ((j : Int) < (kk : Int)) = true := by simp; omega
            have d3 : decide ((i : Int) < (kk : Int)) = true := by simp; omega
            have d2' : decide (j < kk) = true := by simpa using hjk
            have d3' : decide (i < kk) = true := by simpa using hik2
            obtain ⟨s, hs⟩ : ∃ s, s = Ys.length := ⟨_, rfl⟩
            have hYl2 : s = i * kk + j := by rw [hs, hYl.out, if_pos hik, if_pos hik2]
            have hs72 : s ≤ 72 := by
              have : i * kk ≤ 8 * 8 := Nat.mul_le_mul (by omega) hkk8
              omega
            have hYl3 : Hid (∀ t : Int × Int, (Ys ++ [t]).length = (if i ≤ kk then i else kk) * kk + (if i < kk then j + 1 else 0)) := Lib.hid (fun t => by rw [List.length_append, ← hs, hYl2, if_pos hik, if_pos hik2]; rfl)
            obtain ⟨ay, cy, hyv, _, _, _⟩ := hI.oy.slice
            rw [← hs] at hyv
            subst hyv
            have e3 := hI.blk.cellAt (i := 3) (v := .slice ay s cy) rfl
            have hpe : (#[.int .i64 (i : Int), .int .i64 (j : Int), .slice none 0 0] : Array Value) = (encY7 ((i : Int), (j : Int))).toArray := rfl
            have hrbs := hI.blk.lt
            replace hpe := Lib.hid hpe
            replace hs := Lib.hid hs
            clear hYl hYl2
            go_wp2_with (at_builtin; refine Shut.out ?kY)
            unfold Shut
            rw [hpe.out]
            refine wpList_app1g rfl _ _ 45 rfl Tryz.underlying45 hiY hY0 hY1 hY2 rfl (by decide) (enc := encY7) ((i : Int), (j : Int)) rfl hI.oy rfl (encY7_len _) (encY7_one _) (by rw [← hs.out]; omega) (by rw [← hs.out]; unfold maxLen; omega) (by omega) (fun g8 cap8 w7 hown7 hgr7 => ?_)
            have hI10 := hI.snocY hown7 hgr7
            have hyl := hI.oy.lt
            have hB7 := hgr7.blk hI.blk (fun e => by have := hyl rb e; omega)
            have hA7 := hgr7.blk hA (fun e => by have := hyl _ e; omega)
            have hA10 := hA7.set_other (p := ⟨rb, 3, none⟩) (by show w.heap.size ≠ rb; omega) (.slice (some ⟨g8, 0, none⟩) (Ys.length + 1) cap8)
            have f7 := hB7.frozen 3
            have e7 := hB7.cellAt (i := 3) (v := .slice ay s cy) rfl
            rw [← hs.out] at hI10 hA10 ⊢
            clear hown7 hgr7 hyl hB7 hA7 hI hA e3
            go_upto_region 21 with fail
            refine Code.wp_world ?_
            intro w10 hw10
            rw [← hw10] at hI10 hA10
            have hYl4 := Lib.hid (hYl3.out ((i : Int), (j : Int)))
            clear hw10 f7 e7
            go_wp2_with fail
            go_roundw
            case rel => exact ⟨j + 1, _, _, by omega, by go_num, hYl4, hI10, hA10⟩
            case measure => simp [intOf]; omega
          · have hYl2 : Hid (Ys.length = (if i + 1 ≤ kk then i + 1 else kk) * kk) := Lib.hid (by
              rw [hYl.out, if_pos hik]
              by_cases h1 : i < kk
              · rw [if_pos h1, if_pos (by omega), Nat.add_mul]
                omega
              · rw [if_neg h1, if_neg (by omega), show i = kk by omega]
                rfl)
            have hu1 : Hid (i + 1 = 0 ∨ ue = 0) := Lib.hid (.inr hu0.out)
            have hcase : kk ≤ j ∨ (j < kk ∧ kk ≤ i) := by omega
            clear hYl hgo
            rcases hcase with hc | ⟨hc1, hc2⟩
            · have d2 : decide ((j : Int) < (kk : Int)) = false := by simp; omega
              have d2' : decide (j < kk) = false := by simp; omega
              go_wp2_with fail
              refine ⟨?_, ?measure⟩
              repeat apply Exists.intro
              refine ⟨?rel, rfl⟩
              case rel => exact ⟨i + 1, _, _, _, _, by omega, by go_num, hVl2, hYl2, hI, hA, hu1⟩
              case measure => simp [intOf]; omega
            · have d2 : decide ((j : Int) < (kk : Int)) = true := by simp; omega
              have d2' : decide (j < kk) = true := by simpa using hc1
              have d3 : decide ((i : Int) < (kk : Int)) = false := by simp; omega
              have d3' : decide (i < kk) = false := by simp; omega
              go_wp2_with fail
              refine ⟨?_, ?measure⟩
              repeat apply Exists.intro
              refine ⟨?rel, rfl⟩
              case rel => exact ⟨i + 1, _, _, _, _, by omega, by go_num, hVl2, hYl2, hI, hA, hu1⟩
              case measure => simp [intOf]; omega
end Go.Proofs.YtjmbafcpbagpdaaGreat
