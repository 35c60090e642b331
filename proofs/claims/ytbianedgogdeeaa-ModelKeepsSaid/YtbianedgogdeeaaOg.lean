/- Operators of the call's own; the reference's CopyGraph and SameGraph: written by wip/tpl/genog.py out of the texts of the chapter entry. -/
import Derived.Test.YtbianedgogdeeaaTyGraph
import Derived.Test.YtbianedgogdeeaaL1
import Derived.Deep.QuietTactic
import Derived.BigQuiet
import Derived.Deep.Cut
import Derived.Deep.DeepCutAuto
import Derived.Deep.RegionHeld3
namespace Go.Proofs.Ytbianedgogdeeaa
open Go.RowKit
set_option linter.unusedVariables false
set_option linter.unusedSimpArgs false

/-- A row made here is a row of the call's own. -/
theorem OwnL.of_blk {α : Type} {enc : α → List Value} {w : World} {base g cap size : Nat} {e : TypeId} {cells : Array Value} {xs : List α} (h : Blk w g cells e) (hb : base ≤ g) (h1 : xs.length ≤ cap) (h2 : cap ≤ maxLen) (h3 : cells.size = cap * size)
    (h4 : cells.toList.take (xs.length * size) = xs.flatMap enc) (hk : (xs.flatMap enc).length = xs.length * size) : OwnL enc w base e size (.slice (some ⟨g, 0, none⟩) xs.length cap) xs :=
  ⟨hk, .inr ⟨g, cap, cells, rfl, hb, h, h1, h2, h3, h4⟩⟩

theorem blk_new1 (w : World) (o : Obj) (cs : Array Value) (T : TypeId) : Blk ((w.alloc o).alloc (.cells cs T)) (w.heap.size + 1) cs T := by
  have := Blk.new (w.alloc o) cs T
  simpa using this

theorem blk_new2 (w : World) (o o2 : Obj) (cs : Array Value) (T : TypeId) : Blk (((w.alloc o).alloc o2).alloc (.cells cs T)) (w.heap.size + 1 + 1) cs T := by
  have := Blk.new ((w.alloc o).alloc o2) cs T
  simpa using this

theorem below_alloc1 (w : World) (o : Obj) : Below w.heap.size w (w.alloc o) := Below.alloc (Below.refl _ _) (Nat.le_refl _) _

theorem below_alloc2 (w : World) (o o2 : Obj) : Below w.heap.size w ((w.alloc o).alloc o2) := Below.alloc (below_alloc1 w o) (by simp) _

theorem below_alloc3 (w : World) (o o2 o3 : Obj) : Below w.heap.size w (((w.alloc o).alloc o2).alloc o3) := Below.alloc (below_alloc2 w o o2) (by simp; omega) _
theorem in_imp {B : Nat} {w w' : World} {ao : Option Addr} {cap : Nat} {xs : List Int} (h : SlA B 1 (RI .i64) w ao cap xs) (hb : Below B w w') : SlA B 1 (RI .i64) w' ao cap xs := h.imp hb (Nat.le_refl _) (fun _ _ _ h => h)

theorem in_at {B : Nat} {w : World} {b off cap i : Nat} {xs : List Int} (h : SlA B 1 (RI .i64) w (some ⟨b, off, none⟩) cap xs) (hi : i < xs.length) {x : Int} (hx : xs[i] = x) : w.cell? ⟨b, off + i, none⟩ = some (.int .i64 x) ∧ (Lit.int .i64 x).wf = true := by
  obtain ⟨cs, _, hc, hr⟩ := h.get i hi
  rw [hx] at hr
  obtain ⟨rfl, h0⟩ := hr
  exact ⟨by have := hc 0 (by omega); simpa using this, h0⟩
theorem ops_imp {B : Nat} {w w' : World} {ao : Option Addr} {cap : Nat} {xs : List TOp} (h : SlA B 7 (ROp B) w ao cap xs) (hb : Below B w w') : SlA B 7 (ROp B) w' ao cap xs := h.imp hb (Nat.le_refl _) (fun _ _ _ h => h.imp hb (Nat.le_refl _))
/-- A slice whose block is one of D. -/
def SlP {α : Type} (D : Nat → Prop) (sz : Nat) (E : World → List Value → α → Prop) (w : World) (ao : Option Addr) (cap : Nat) (xs : List α) : Prop :=
  xs.length ≤ cap ∧ cap ≤ maxLen ∧ (ao = none → cap = 0) ∧
  (xs ≠ [] → ∃ b, ao = some ⟨b, 0, none⟩ ∧ D b ∧ (∃ cells T, Blk w b cells T ∧ xs.length * sz ≤ cells.size) ∧ ∀ i (_ : i < xs.length), ∃ cs : List Value, cs.length = sz ∧ (∀ j, j < sz → w.cell? ⟨b, i * sz + j, none⟩ = cs[j]?) ∧ E w cs xs[i])

theorem SlP.imp {α : Type} {D D' : Nat → Prop} {sz : Nat} {E E' : World → List Value → α → Prop} {w w' : World} {ao : Option Addr} {cap : Nat} {xs : List α} (h : SlP D sz E w ao cap xs)
    (hD : ∀ b, D b → D' b ∧ w'.heap[b]? = w.heap[b]?) (hE : ∀ cs x, x ∈ xs → E w cs x → E' w' cs x) : SlP D' sz E' w' ao cap xs := by
  obtain ⟨h1, h2, h3, h4⟩ := h
  refine ⟨h1, h2, h3, fun hne => ?_⟩
  obtain ⟨b, rfl, hb, ⟨cells, T, hk, hks⟩, h5⟩ := h4 hne
  refine ⟨b, rfl, (hD b hb).1, ⟨cells, T, (hD b hb).2.trans hk, hks⟩, fun i hi => ?_⟩
  obtain ⟨cs, h6, h7, h8⟩ := h5 i hi
  exact ⟨cs, h6, fun j hj => by rw [World.cell?_of_block (w := w) (a := ⟨b, _, none⟩) (hD b hb).2]; exact h7 j hj, hE _ _ (List.getElem_mem _) h8⟩
structure POp where
  x : TOp
  ao : Option Addr
  cap : Nat

def encO (p : POp) : List Value := [.int .i64 p.x.fKind, .slice p.ao p.x.fIn.length p.cap, .int .i64 p.x.fArg, .int .u32 p.x.fNum, .int .i64 p.x.fRounds, .int .i64 p.x.fTest, .int .u32 p.x.fLim]

theorem encO_len (p : POp) : (encO p).length = 7 := rfl

theorem encO_one (p : POp) : ∀ u ∈ encO p, u.oneCell' = true := by
  intro u hu
  unfold encO at hu
  simp only [List.mem_cons, List.not_mem_nil, or_false] at hu
  rcases hu with rfl | rfl | rfl | rfl | rfl | rfl | rfl <;> rfl

def wfO (o : TOp) : Prop := (Lit.int IntKind.i64 o.fKind).wf = true ∧ (∀ n ∈ o.fIn, (Lit.int IntKind.i64 n).wf = true) ∧ (Lit.int IntKind.i64 o.fArg).wf = true ∧ (Lit.int IntKind.u32 o.fNum).wf = true ∧ (Lit.int IntKind.i64 o.fRounds).wf = true ∧ (Lit.int IntKind.i64 o.fTest).wf = true ∧ (Lit.int IntKind.u32 o.fLim).wf = true

/-- An operator's inputs lie in a block of D. -/
def InP (D : Nat → Prop) (w : World) (p : POp) : Prop := wfO p.x ∧ SlP D 1 (RI .i64) w p.ao p.cap p.x.fIn

theorem InP.imp {D D' : Nat → Prop} {w w' : World} {p : POp} (h : InP D w p) (hD : ∀ b, D b → D' b ∧ w'.heap[b]? = w.heap[b]?) : InP D' w' p := ⟨h.1, h.2.imp hD (fun _ _ _ h => h)⟩

/-- Operators of the call's own: the row lies in blocks from base on, the inputs in others of them. -/
def OpsR (base : Nat) (w : World) (v : Value) (ps : List POp) : Prop :=
  OwnL encO w base 51 7 v ps ∧ ∀ p ∈ ps, InP (fun b => base ≤ b ∧ b < w.heap.size ∧ v.ownBlock ≠ some b) w p

theorem OpsR.nil (base : Nat) (w : World) : OpsR base w (.slice none 0 0) [] := ⟨OwnL.nil _ _ _ _ _, by simp⟩

theorem OpsR.chg {base : Nat} {w w' : World} {v : Value} {ps : List POp} {S : Nat → Prop} (h : OpsR base w v ps) (hc : Chg S w w') (hS : ∀ b, base ≤ b → ¬ S b) : OpsR base w' v ps :=
  ⟨h.1.chg hc (fun g hg => hS g (h.1.lt g hg).1), fun p hp => (h.2 p hp).imp fun b hb => ⟨⟨hb.1, Nat.lt_of_lt_of_le hb.2.1 hc.size, hb.2.2⟩, hc.block b hb.2.1 (hS b hb.1)⟩⟩

theorem SlP.sla {α : Type} {D : Nat → Prop} {sz B : Nat} {E : World → List Value → α → Prop} {w : World} {ao : Option Addr} {cap : Nat} {xs : List α} (h : SlP D sz E w ao cap xs) (hD : ∀ b, D b → b < B) : SlA B sz E w ao cap xs :=
  ⟨h.1, h.2.1, h.2.2.1, fun hne => by
    obtain ⟨b, e, hb, _, h7⟩ := h.2.2.2 hne
    refine ⟨b, 0, e, hD b hb, fun i hi => ?_⟩
    obtain ⟨cs, h8, h9, h10⟩ := h7 i hi
    exact ⟨cs, h8, fun j hj => by rw [Nat.zero_add]; exact h9 j hj, h10⟩⟩

theorem OpsR.sla {base : Nat} {w : World} {v : Value} {ps : List POp} (h : OpsR base w v ps) : ∃ ao cap, v = .slice ao ps.length cap ∧ SlA w.heap.size 7 (ROp w.heap.size) w ao cap (ps.map (·.x)) := by
  obtain ⟨hown, hin⟩ := h
  rcases hown.form with ⟨h1, rfl⟩ | ⟨g, cap, cells, h1, h2, h3, h4, h5, h6, h7, h8⟩
  · exact ⟨none, 0, h1, SlA.nil _ _ _ _⟩
  · refine ⟨_, cap, h1, SlA.of_blk h2 h2.lt (by simpa using h3) h4 fun i hi => ?_⟩
    have hi2 : i < ps.length := by simpa using hi
    refine ⟨encO ps[i], rfl, fun j hj => ?_, ?_⟩
    · rw [← flat_at encO_len ps i j hi2 hj, ← h8, List.getElem?_take, if_pos (by omega)]
      simp
    · have hp := hin _ (List.getElem_mem hi2)
      obtain ⟨⟨w1, w2, w3, w4, w5, w6, w7⟩, hs⟩ := hp
      rw [List.getElem_map]
      exact ⟨_, _, rfl, w1, hs.sla (fun b hb => hb.2.1), w3, w4, w5, w6, w7⟩

theorem blk7 {w : World} {b : Nat} {v0 v1 v2 v3 v4 v5 v6 : Value} {T : TypeId} (h : Blk w b #[v0, v1, v2, v3, v4, v5, v6] T) :
    w.cell? ⟨b, 0, none⟩ = some v0 ∧ w.cell? ⟨b, 1, none⟩ = some v1 ∧ w.cell? ⟨b, 2, none⟩ = some v2 ∧ w.cell? ⟨b, 3, none⟩ = some v3 ∧ w.cell? ⟨b, 4, none⟩ = some v4 ∧ w.cell? ⟨b, 5, none⟩ = some v5 ∧ w.cell? ⟨b, 6, none⟩ = some v6 :=
  ⟨h.cellAt rfl, h.cellAt rfl, h.cellAt rfl, h.cellAt rfl, h.cellAt rfl, h.cellAt rfl, h.cellAt rfl⟩

theorem infoO : (Try.prog.info? 51).map (fun i => (i.zero, i.size, i.bytes)) = some (some (.agg #[.int .i64 0, .slice none 0 0, .int .i64 0, .int .u32 0, .int .i64 0, .int .i64 0, .int .u32 0]), 7, 72) := by kernel_rfl

theorem infoN : (Try.prog.info? 3).map (fun i => (i.zero, i.size, i.bytes)) = some (some (.int .i64 0), 1, 8) := by kernel_rfl

def encN (n : Int) : List Value := [.int .i64 n]

theorem encN_len (n : Int) : (encN n).length = 1 := rfl

theorem encN_one (n : Int) : ∀ u ∈ encN n, u.oneCell' = true := by
  intro u hu
  obtain rfl : u = .int .i64 n := by simpa [encN] using hu
  rfl

theorem SlP.of_ints {base : Nat} {D : Nat → Prop} {w : World} {v : Value} {xs : List Int} (h : OwnL encN w base 3 1 v xs) (hwf : ∀ n ∈ xs, (Lit.int IntKind.i64 n).wf = true) (hD : ∀ g, v.ownBlock = some g → D g) :
    ∃ ao cap, v = .slice ao xs.length cap ∧ SlP D 1 (RI .i64) w ao cap xs := by
  rcases h.form with ⟨h1, rfl⟩ | ⟨g, cap, cells, h1, h2, h3, h4, h5, h6, h7, h8⟩
  · exact ⟨none, 0, h1, ⟨Nat.le_refl _, by unfold maxLen; omega, fun _ => rfl, fun h => absurd rfl h⟩⟩
  · refine ⟨_, cap, h1, ⟨h3, h4, by simp, fun _ => ⟨g, rfl, hD g (by rw [h1]; rfl), ⟨cells, _, h2, by rw [h5]; exact Nat.mul_le_mul_right 1 h3⟩, fun i hi => ?_⟩⟩⟩
    refine ⟨encN xs[i], rfl, fun j hj => ?_, rfl, hwf _ (List.getElem_mem hi)⟩
    rw [h2.cell, ← flat_at encN_len xs i j hi hj, ← h8, List.getElem?_take, if_pos (by omega)]
    simp

theorem OpsR.snoc {base g cap n : Nat} {S : Nat → Prop} {w0 w6 w7 : World} {v : Value} {ps : List POp} {p : POp} (h : OpsR base w0 v ps) (hb : base ≤ w0.heap.size) (hc : Chg S w0 w6) (hS : ∀ b, base ≤ b → ¬ S b)
    (hown : OwnL encO w7 base 51 7 (.slice (some ⟨g, 0, none⟩) (n + 1) cap) (ps ++ [p])) (hgr : Grew w6 v w7 (.slice (some ⟨g, 0, none⟩) (n + 1) cap))
    (hp : InP (fun b => w0.heap.size ≤ b ∧ b < w6.heap.size) w6 p) : OpsR base w7 (.slice (some ⟨g, 0, none⟩) (n + 1) cap) (ps ++ [p]) := by
  refine ⟨hown, fun q hq => ?_⟩
  have hs6 := hc.size
  have hs7 := hgr.grown.size
  have hplace : ∀ b, b < w6.heap.size → v.ownBlock ≠ some b → (Value.slice (some ⟨g, 0, none⟩) (n + 1) cap).ownBlock ≠ some b := fun b hb hbo h => by
    rcases hgr.place with e | ⟨g', e, hg'⟩
    · rw [e] at h; exact hbo h
    · rw [e] at h; cases h; omega
  rcases List.mem_append.1 hq with hq | hq
  · refine (h.2 q hq).imp fun b hb => ⟨⟨hb.1, by omega, hplace b (by omega) hb.2.2⟩, ?_⟩
    rw [hgr.grown.block b (by omega) (Ne.symm hb.2.2)]
    exact hc.block b hb.2.1 (hS b hb.1)
  · obtain rfl : q = p := by simpa using hq
    have hbo : ∀ b, w0.heap.size ≤ b → v.ownBlock ≠ some b := fun b hb h' => by have := (h.1.lt b h').2; omega
    exact hp.imp fun b hb' => ⟨⟨by omega, by omega, hplace b hb'.2 (hbo b hb'.1)⟩, hgr.grown.block b hb'.2 (Ne.symm (hbo b hb'.1))⟩
theorem OpsR.base_le {b b' : Nat} {w : World} {v : Value} {ps : List POp} (h : OpsR b w v ps) (hb : b' ≤ b) : OpsR b' w v ps :=
  ⟨h.1.base_le hb, fun p hp => (h.2 p hp).imp fun k hk => ⟨⟨by omega, hk.2⟩, rfl⟩⟩

theorem OpsR.below {b B : Nat} {w w' : World} {v : Value} {ps : List POp} (h : OpsR b w v ps) (hb : Below B w w') (hB : w.heap.size ≤ B) : OpsR b w' v ps :=
  ⟨h.1.below hb hB, fun p hp => (h.2 p hp).imp fun k hk => ⟨⟨hk.1, Nat.lt_of_lt_of_le hk.2.1 hb.size, hk.2.2⟩, hb.block k (Nat.lt_of_lt_of_le hk.2.1 hB)⟩⟩
/-- The state of CopyGraph's loop. -/
structure CS (w wr : World) (ab rb ob : Nat) (va v : Value) : Prop where
  bel : Below w.heap.size w wr
  ha : Blk wr ab #[va] 24
  hr : Blk wr rb #[.slice none 0 0] 24
  ho : Blk wr ob #[v] 24
  o1 : w.heap.size ≤ ab
  o2 : ab < rb
  o3 : rb < ob

theorem CS.below {w wr u : World} {ab rb ob : Nat} {va v : Value} (h : CS w wr ab rb ob va v) (hb : Below wr.heap.size wr u) : CS w u ab rb ob va v :=
  ⟨h.bel.trans (hb.mono h.bel.size), h.ha.below hb h.ha.lt, h.hr.below hb h.hr.lt, h.ho.below hb h.ho.lt, h.o1, h.o2, h.o3⟩

theorem CS.chg {w u u' : World} {ab rb ob : Nat} {va v : Value} {S : Nat → Prop} (h : CS w u ab rb ob va v) (hc : Chg S u u') (hS : ∀ k, k ≤ ob → ¬ S k) : CS w u' ab rb ob va v := by
  obtain ⟨hb, ha, hr, ho, o1, o2, o3⟩ := h
  exact ⟨hb.trans (hc.below hb.size (fun k hk => hS _ (by omega))), ha.chg hc (hS _ (by omega)), hr.chg hc (hS _ (by omega)), ho.chg hc (hS _ (Nat.le_refl _)), o1, o2, o3⟩

theorem CS.set {w u : World} {ab rb ob : Nat} {va v y : Value} (h : CS w u ab rb ob va v) : CS w (u.setCell ⟨ob, 0, none⟩ y) ab rb ob va y := by
  obtain ⟨hb, ha, hr, ho, o1, o2, o3⟩ := h
  exact ⟨hb.setCell (by simp; omega) _, ha.set_other (by simp; omega) _, hr.set_other (by simp; omega) _, ho.set 0 y, o1, o2, o3⟩

theorem ints_sla {B cap : Nat} {w : World} {ao : Option Addr} {xs : List Int} (h : SlA B 1 (RI .i64) w ao cap xs) : SlA B 1 (fun _ cs x => cs = encN x) w ao cap xs :=
  h.imp (Below.refl _ _) (Nat.le_refl _) (fun cs x _ h => h.1)

set_option maxRecDepth 100000 in
set_option maxHeartbeats 1000000 in
theorem copyGraph_any (B : Nat) (xs : List TOp) (ao : Option Addr) (cap : Nat) (w : World) (hB : B ≤ w.heap.size) (hx : SlA B 7 (ROp B) w ao cap xs) (hz : xs.length * 72 ≤ 140737488355328) (hzi : ∀ o ∈ xs, o.fIn.length * 8 ≤ 140737488355328) :
    Calls Try.prog 21 #[.agg #[.slice ao xs.length cap]] w fun e w' => Below w.heap.size w w' ∧ ∃ v ps, e = .returned (.agg #[v]) ∧ OpsR w.heap.size w' v ps ∧ ps.map (·.x) = xs := by
  obtain ⟨n, hn⟩ : ∃ n, n = xs.length := ⟨_, rfl⟩
  rw [← hn] at hz ⊢
  replace hn := Lib.hid hn
  replace hzi := Lib.hid hzi
  obtain ⟨jN, hiN, hN0, hN1, hN2⟩ := info_parts infoN
  obtain ⟨jO, hiO, hO0, hO1, hO2⟩ := info_parts infoO
  go_enter Try.func21, Try.ntmps21
  go_upto_region 2 with fail
  refine Code.wp_world ?_
  intro w1 hw1
  obtain ⟨ab, hab⟩ : ∃ c, c = w.heap.size := ⟨_, rfl⟩
  obtain ⟨rb, hrb⟩ : ∃ c, c = w.heap.size + 1 := ⟨_, rfl⟩
  obtain ⟨ob, hob⟩ : ∃ c, c = w.heap.size + 1 + 1 := ⟨_, rfl⟩
  have hG : CS w w1 ab rb ob (.slice ao n cap) (.slice none 0 0) := by
    rw [hw1, hab, hrb, hob]
    exact ⟨below_alloc3 w _ _ _, ((Blk.new _ _ _).alloc _).alloc _, (blk_new1 _ _ _ _).alloc _, blk_new2 _ _ _ _ _, Nat.le_refl _, by omega, by omega⟩
  rw [← hob, ← hrb, ← hab]
  clear hw1
  have hwo : w.heap.size ≤ ob + 1 := by omega
  replace hab := Lib.hid hab
  replace hrb := Lib.hid hrb
  replace hob := Lib.hid hob
  have ek := hG.ha.cellAt (i := 0) (v := .slice ao n cap) rfl
  go_wp2_with fail
  go_loopw [4] (fun x4 wr => ∃ (i : Nat) (ps : List POp) (v : Value), i ≤ n ∧ x4 = .int .i64 i ∧ CS w wr ab rb ob (.slice ao n cap) v ∧ OpsR (ob + 1) wr v ps ∧ ps.map (·.x) = xs.take i) (fun x4 _ => n - (intOf x4).toNat)
  case atStart => exact ⟨0, [], _, Nat.zero_le _, rfl, hG, OpsR.nil _ _, rfl⟩
  case round =>
    clear hG ek
    obtain ⟨i, ps, v, hi, rfl, hG, hops, hpm⟩ := hrel
    have hbw := hG.bel
    have ea := hG.ha.cellAt (i := 0) (v := .slice ao n cap) rfl
    by_cases hin : i < n
    · have hdi : decide ((i : Int) < (n : Int)) = true := by simp; omega
      have hxi : i < xs.length := by rw [← hn.out]; exact hin
      obtain ⟨b, off, rfl, hb, _⟩ := hx.addr (by omega)
      obtain ⟨o, hxo⟩ : ∃ o, xs[i] = o := ⟨_, rfl⟩
      obtain ⟨ao1, cap1, e0, e1, e2, e3, e4, e5, e6, z0, hii, z2, z3, z4, z5, z6⟩ := ROp.at (ops_imp hx (hbw.mono hB)) hxi hxo
      have hti : xs.take (i + 1) = xs.take i ++ [o] := by rw [List.take_add_one, List.getElem?_eq_getElem hxi, hxo]; rfl
      have hzo := hzi.out o (by rw [← hxo]; exact List.getElem_mem hxi)
      have hpsl : ps.length = i := by have := congrArg List.length hpm; rw [List.length_map, List.length_take] at this; omega
      obtain ⟨m, hm⟩ : ∃ m, m = o.fIn.length := ⟨_, rfl⟩
      rw [← hm] at e1
      have hbwr : b < wr.heap.size := Nat.lt_of_lt_of_le hb (Nat.le_trans hB hbw.size)
      replace hxo := Lib.hid hxo
      replace hm := Lib.hid hm
      replace hti := Lib.hid hti
      replace hpm := Lib.hid hpm
      replace hpsl := Lib.hid hpsl
      replace hzo := Lib.hid hzo
      go_upto_region 6 with fail
      refine Code.wp_world ?_
      intro w2 hw2
      obtain ⟨kb, hkb⟩ : ∃ c, c = wr.heap.size := ⟨_, rfl⟩
      have hK2 : Blk w2 kb #[.int .i64 o.fKind, .slice ao1 m cap1, .int .i64 o.fArg, .int .u32 o.fNum, .int .i64 o.fRounds, .int .i64 o.fTest, .int .u32 o.fLim] 51 := by rw [hw2, hkb]; exact Blk.new _ _ _
      have hb2 : Below wr.heap.size wr w2 := by rw [hw2]; exact below_alloc1 _ _
      rw [← hkb]
      have hkb2' : kb < w2.heap.size := hK2.lt
      clear hw2 e0 e1 e2 e3 e4 e5 e6
      have k1 := hK2.cellAt (i := 1) (v := .slice ao1 m cap1) rfl
      replace hkb := Lib.hid hkb
      have k1' : (w2.alloc (.cells #[] 3)).cell? ⟨kb, 1, none⟩ = some (.slice ao1 m cap1) := (hK2.alloc _).cellAt rfl
      go_wp2_with (at_builtin; refine Shut.out ?ka)
      unfold Shut
      have hown0 : OwnL encN (w2.alloc (.cells #[] 3)) w2.heap.size 3 1 (.slice (some ⟨w2.heap.size, 0, none⟩) 0 0) [] := OwnL.of_blk (xs := []) (cap := 0) (Blk.new w2 #[] 3) (Nat.le_refl _) (Nat.le_refl 0) (by unfold maxLen; omega) rfl rfl rfl
      have hbw2 := hbw.trans (hb2.mono hbw.size)
      have hii2 := ints_sla (in_imp hii ((hb2.trans ((below_alloc1 w2 (.cells #[] 3)).mono hb2.size)).mono (Nat.le_trans hB hbw.size)))
      refine wpList_app_sla (xs := []) (ys := o.fIn) (enc := encN) (base := w2.heap.size) _ rfl _ _ 43 rfl Try.underlying43 hiN hN0 hN1 hN2 rfl (by decide) rfl hown0 (by show Value.slice ao1 m cap1 = _; rw [hm.out]) hii2 encN_len encN_one (by have := hzo.out; unfold maxLen; simp; omega) (by have := hzo.out; simp; omega) (by simp) (fun v3 w3 hown3 hgr3 => ?_)
      rw [List.nil_append] at hown3
      have hb23 : Below w2.heap.size w2 w3 := (below_alloc1 w2 (.cells #[] 3)).grown hgr3 (by simp) (fun g hg => by simp [Act.eval, Value.ownBlock] at hg; omega)
      have hK3 := hK2.below hb23 hK2.lt
      have hwf : ∀ y ∈ o.fIn, (Lit.int IntKind.i64 y).wf = true := fun y hy => by
        obtain ⟨j, hj, rfl⟩ := List.mem_iff_getElem.1 hy
        obtain ⟨b1, o1, rfl, _, _⟩ := hii.addr (by omega)
        exact (in_at hii hj rfl).2
      obtain ⟨ao3, cap3, hv3, hsI⟩ := SlP.of_ints (D := fun k => w2.heap.size ≤ k ∧ k < w3.heap.size) hown3 hwf (fun g hg => hown3.lt g hg)
      subst hv3
      rw [← hm.out]
      clear hown0 hii2 hown3 hgr3 k1 k1' hii hK2
      have f1 := hK3.frozen 1
      have k1 := hK3.cellAt (i := 1) (v := .slice ao1 m cap1) rfl
      go_upto_region 7 with fail
      refine Code.wp_world ?_
      intro w4 hw4
      have hkbe := hkb.out
      have hs2 := hb2.size
      have hs3 := hb23.size
      have hkb2 : kb < w2.heap.size := by
        have := hb2.size
        exact hkb2'
      have hK4 : Blk w4 kb #[.int .i64 o.fKind, .slice ao3 m cap3, .int .i64 o.fArg, .int .u32 o.fNum, .int .i64 o.fRounds, .int .i64 o.fTest, .int .u32 o.fLim] 51 := by rw [hw4]; exact hK3.set 1 _
      have hbr : Below wr.heap.size wr w4 := by rw [hw4]; exact (hb2.trans (hb23.mono hb2.size)).setCell (by simp; omega) _
      have hc34 : Chg (fun k => k = kb) w3 w4 := by rw [hw4]; exact (Chg.refl (fun k => k = kb) w3).setCell ⟨kb, 1, none⟩ _ (fun _ => rfl)
      have hs4 := hc34.size
      obtain ⟨p, hp⟩ : ∃ p : POp, p = ⟨o, ao3, cap3⟩ := ⟨_, rfl⟩
      have hpx : p.x = o := by rw [hp]
      have hpI : InP (fun k => wr.heap.size ≤ k ∧ k < w4.heap.size) w4 p := by
        rw [hp]
        exact ⟨⟨z0, hwf, z2, z3, z4, z5, z6⟩, hsI.imp (fun k hk => ⟨⟨by omega, by omega⟩, hc34.block k hk.2 (by omega)⟩) (fun _ _ _ h => h)⟩
      clear hw4 hK3 hc34 hsI k1 f1 hwf
      have hGr := hG.below hbr
      have hopsi := hops.below hbr (Nat.le_refl _)
      obtain ⟨k0', k1', k2', k3', k4', k5', k6'⟩ := blk7 hK4
      have hE6 : w4.cell? ⟨ob, 0, none⟩ = some v := hGr.ho.cellAt rfl
      obtain ⟨aov, capv, hvv2, _, _, _⟩ := hops.1.slice
      subst hvv2
      have hebs : ob + 1 ≤ w4.heap.size := hGr.ho.lt
      have hebq : ob + 1 ≤ wr.heap.size := hG.ho.lt
      rw [hpsl.out] at hE6 hGr hopsi
      have hpe : (#[.int .i64 o.fKind, .slice ao3 m cap3, .int .i64 o.fArg, .int .u32 o.fNum, .int .i64 o.fRounds, .int .i64 o.fTest, .int .u32 o.fLim] : Array Value) = (encO p).toArray := by rw [hp, hm.out]; rfl
      replace hpe := Lib.hid hpe
      replace hp := Lib.hid hp
      replace hpx := Lib.hid hpx
      replace hkbe := Lib.hid hkbe
      clear hkb hK4
      go_wp2_with (at_builtin; refine Shut.out ?kap)
      unfold Shut
      rw [hpe.out]
      refine wpList_app1g rfl _ _ 22 rfl Try.underlying22 hiO hO0 hO1 hO2 rfl (by decide) (enc := encO) p rfl hopsi.1 rfl (encO_len _) (encO_one _) (by rw [hpsl.out]; omega) (by rw [hpsl.out]; unfold maxLen; omega) hebs (fun g cap7 w7 hown7 hgr7 => ?_)
      rw [hpsl.out] at hown7 hgr7 ⊢
      have hgc : Chg (fun k => ob + 1 ≤ k) w4 w7 := (Chg.of_grown hgr7.grown).mono (fun k h1 h2 => (hopsi.1.lt k h2).1)
      have hopsq := hops
      rw [hpsl.out] at hopsq
      have hops7 := hopsq.snoc (S := fun _ => False) hebq ((Chg.of_below hbr).mono (fun k h1 h2 => absurd h2 (by omega))) (fun k hk e => e) hown7 hgr7 hpI
      have hG7 := hGr.chg hgc (fun k hk e => by omega)
      have e7' : w7.cell? ⟨ob, 0, none⟩ = some (.slice aov i capv) := hG7.ho.cellAt rfl
      have f7' := hG7.ho.frozen 0
      have hset := (Chg.refl (fun k => k = ob) w7).setCell ⟨ob, 0, none⟩ (.slice (some ⟨g, 0, none⟩) (i + 1) cap7) (fun _ => rfl)
      have hops8 := hops7.chg hset (fun k hk e => by omega)
      have hG8 := hG7.set (y := .slice (some ⟨g, 0, none⟩) (i + 1) cap7)
      clear hgr7 hopsi hops hopsq hG hGr hgc hG7 hown7 hops7 hset hpI k0' k1' k2' k3' k4' k5' k6' hE6
      go_wp2_with fail
      go_roundw
      case rel => exact ⟨i + 1, ps ++ [p], _, by omega, rfl, hG8, hops8, by rw [List.map_append, hpm.out, hti.out, List.map_singleton, hpx.out]⟩
      case measure => simp [intOf]; omega
    · have hdi : decide ((i : Int) < (n : Int)) = false := by simp; omega
      have hie : i = n := by omega
      have hpm2 : ps.map (·.x) = xs := by rw [hpm, hie, hn.out, List.take_length]
      obtain ⟨aov, capv, hvv2, _, _, _⟩ := hops.1.slice
      obtain ⟨np, hnp⟩ : ∃ k, k = ps.length := ⟨_, rfl⟩
      rw [← hnp] at hvv2
      replace hnp := Lib.hid hnp
      subst hvv2
      have q0 := hG.hr.cellAt (i := 0) (v := .slice none 0 0) rfl
      have qf := hG.hr.frozen 0
      have g0 := hG.ho.cellAt (i := 0) (v := .slice aov np capv) rfl
      have hGr := hG.hr
      have hG1 := hG.o1
      have hG2 := hG.o2
      have hG3 := hG.o3
      skip
      have hops8 := hops.chg ((Chg.refl (fun k => k = rb) wr).setCell ⟨rb, 0, none⟩ (.slice aov np capv) (fun _ => rfl)) (fun k hk e => by omega)
      clear hG hpm hie
      go_wp2_with fail
      refine bodyPost_ret (results_cell_row rfl _ _ rb 24 _ (0, 0) _ rfl (hGr.set 0 _) Try.underlying24 rfl (by kernel_rfl)) rfl ?_
      refine ⟨(by repeat (first | with_reducible assumption | with_reducible exact Below.refl _ _ | with_reducible refine below_drewN ?_ _ | with_reducible refine Below.drew ?_ | (refine Below.setCell ?_ (by first | omega | (simp; omega) | simp) _) | (refine Below.alloc ?_ (by first | omega | (simp; omega) | simp) _) | (refine Below.trans ?_ (Below.mono (by with_reducible assumption) (by first | omega | (simp; omega) | simp))))), _, ps, rfl, hops8.base_le (by omega), hpm2⟩
theorem drewN_drewN (w : World) (a b : Nat) : (w.drewN a).drewN b = w.drewN (a + b) := by
  unfold World.drewN
  simp [Nat.add_assoc]

set_option maxRecDepth 100000 in
set_option maxHeartbeats 4000000 in
theorem sameGraph_any (B : Nat) (xs ys : List TOp) (ao1 ao2 : Option Addr) (cap1 cap2 : Nat) (w : World) (hB : B ≤ w.heap.size) (hx : SlA B 7 (ROp B) w ao1 cap1 xs) (hy : SlA B 7 (ROp B) w ao2 cap2 ys) :
    Calls Try.prog 25 #[.agg #[.slice ao1 xs.length cap1], .agg #[.slice ao2 ys.length cap2]] w fun e w' => (∃ g, e = .returned (.bool g) ∧ (g = true ↔ xs = ys)) ∧ Below w.heap.size w w' := by
  have hl1 := hx.len
  have hl2 := hy.len
  obtain ⟨n1, hn1⟩ : ∃ n, n = xs.length := ⟨_, rfl⟩
  obtain ⟨n2, hn2⟩ : ∃ n, n = ys.length := ⟨_, rfl⟩
  rw [← hn1, ← hn2] 
  rw [← hn1] at hl1
  rw [← hn2] at hl2
  by_cases hnn : n1 = n2
  case neg =>
    have hd : ((n1 : Int) != (n2 : Int)) = true := by simp; omega
    have hne : xs ≠ ys := fun h => hnn (by rw [hn1, hn2, h])
    clear hx hy hn1 hn2
    replace hne := Lib.hid hne
    go_enter Try.func25, Try.ntmps25
    go_wp2_with fail
    go_ret
    exact ⟨⟨false, rfl, ⟨fun h => (by cases h), fun h => absurd h hne.out⟩⟩, (by repeat (first | with_reducible assumption | with_reducible exact Below.refl _ _ | with_reducible refine below_drewN ?_ _ | with_reducible refine Below.drew ?_ | (refine Below.setCell ?_ (by first | omega | (simp; omega) | simp) _) | (refine Below.alloc ?_ (by first | omega | (simp; omega) | simp) _) | (refine Below.trans ?_ (Below.mono (by with_reducible assumption) (by first | omega | (simp; omega) | simp)))))⟩
  subst hnn
  have hd : ((n1 : Int) != (n1 : Int)) = false := by simp
  replace hn1 := Lib.hid hn1
  replace hn2 := Lib.hid hn2
  go_enter Try.func25, Try.ntmps25
  go_upto_region 3 with fail
  refine Code.wp_world ?_
  intro w1 hw1
  have hb1 : Below w.heap.size w w1 := by rw [hw1]; exact below_alloc2 w _ _
  have hL : Blk w1 w.heap.size #[.slice ao1 n1 cap1] 24 := by rw [hw1]; exact (Blk.new _ _ _).alloc _
  have hM : Blk w1 (w.heap.size + 1) #[.slice ao2 n1 cap2] 24 := by rw [hw1]; exact blk_new1 _ _ _ _
  obtain ⟨la, hla⟩ : ∃ c, c = w.heap.size := ⟨_, rfl⟩
  obtain ⟨lb, hlb⟩ : ∃ c, c = w.heap.size + 1 := ⟨_, rfl⟩
  rw [← hlb] at hM
  rw [← hla] at hL
  rw [← hlb, ← hla]
  clear hw1
  have hx1 := ops_imp hx (hb1.mono hB)
  have hy1 := ops_imp hy (hb1.mono hB)
  have hB1 : B ≤ w1.heap.size := Nat.le_trans hB hb1.size
  clear hx hy
  replace hla := Lib.hid hla
  replace hlb := Lib.hid hlb
  have hlal := hL.lt
  have hlbl := hM.lt
  go_wp2_with fail
  go_loopw [5] (fun x5 wr => ∃ i : Nat, i ≤ n1 ∧ x5 = .int .i64 i ∧ Below w1.heap.size w1 wr ∧ (∀ j (h1 : j < xs.length) (h2 : j < ys.length), j < i → xs[j] = ys[j])) (fun x5 _ => n1 - (intOf x5).toNat)
  case atStart => exact ⟨0, Nat.zero_le _, rfl, Below.refl _ _, fun j _ _ h => absurd h (by omega)⟩
  case round =>
    obtain ⟨i, hi, rfl, hbr, hall⟩ := hrel
    have hb := hb1.trans (hbr.mono hb1.size)
    have hszr := hb.size
    have hsz1 := hbr.size
    have hlar : la < wr.heap.size := Nat.lt_of_lt_of_le hlal hsz1
    have hlbr : lb < wr.heap.size := Nat.lt_of_lt_of_le hlbl hsz1
    replace hall := Lib.hid hall
    have c1 : wr.cell? ⟨la, 0, none⟩ = some (.slice ao1 n1 cap1) := (hL.below hbr hL.lt).cellAt rfl
    have c2 : wr.cell? ⟨lb, 0, none⟩ = some (.slice ao2 n1 cap2) := (hM.below hbr hM.lt).cellAt rfl
    by_cases hin : i < n1
    · have hix : i < xs.length := by rw [← hn1.out]; exact hin
      have hiy : i < ys.length := by rw [← hn2.out]; exact hin
      obtain ⟨x, hxx⟩ : ∃ o, xs[i] = o := ⟨_, rfl⟩
      obtain ⟨y, hyy⟩ : ∃ o, ys[i] = o := ⟨_, rfl⟩
      have hne : x ≠ y → xs ≠ ys := by
        intro h1 h2
        subst h2
        exact h1 (hxx.symm.trans hyy)
      have hxa := ops_imp hx1 (hbr.mono hB1)
      have hya := ops_imp hy1 (hbr.mono hB1)
      obtain ⟨ba, oa, rfl, hba, _⟩ := hxa.addr (by omega)
      obtain ⟨bc, oc, rfl, hbc, _⟩ := hya.addr (by omega)
      obtain ⟨ai, ci, e0, e1, e2, e3, e4, e5, e6, _, hin1, _⟩ := ROp.at hxa hix hxx
      obtain ⟨aj, cj, g0, g1, g2, g3, g4, g5, g6, _, hin2, _⟩ := ROp.at hya hiy hyy
      have hba2 : ba < wr.heap.size := by omega
      have hbc2 : bc < wr.heap.size := by omega
      obtain ⟨m1, hm1⟩ : ∃ k, k = x.fIn.length := ⟨_, rfl⟩
      obtain ⟨m2, hm2⟩ : ∃ k, k = y.fIn.length := ⟨_, rfl⟩
      rw [← hm1] at e1
      rw [← hm2] at g1
      have hml1 := hin1.len
      have hml2 := hin2.len
      rw [← hm1] at hml1
      rw [← hm2] at hml2
      clear hxa hya
      replace hxx := Lib.hid hxx
      replace hyy := Lib.hid hyy
      replace hne := Lib.hid hne
      replace hm1 := Lib.hid hm1
      replace hm2 := Lib.hid hm2
      go_upto_region 8 with fail
      refine Code.wp_world ?_
      intro w3 hw3
      obtain ⟨pa, hpa⟩ : ∃ c, c = wr.heap.size := ⟨_, rfl⟩
      obtain ⟨pc, hpc⟩ : ∃ c, c = wr.heap.size + 1 := ⟨_, rfl⟩
      have hb3 : Below wr.heap.size wr w3 := by rw [hw3]; exact below_alloc2 _ _ _
      have hP : Blk w3 pa #[.int .i64 x.fKind, .slice ai m1 ci, .int .i64 x.fArg, .int .u32 x.fNum, .int .i64 x.fRounds, .int .i64 x.fTest, .int .u32 x.fLim] 51 := by rw [hw3, hpa]; exact (Blk.new _ _ _).alloc _
      have hQ : Blk w3 pc #[.int .i64 y.fKind, .slice aj m2 cj, .int .i64 y.fArg, .int .u32 y.fNum, .int .i64 y.fRounds, .int .i64 y.fTest, .int .u32 y.fLim] 51 := by rw [hw3, hpc]; exact blk_new1 _ _ _ _
      rw [← hpc, ← hpa]
      clear hw3 e0 e1 e2 e3 e4 e5 e6 g0 g1 g2 g3 g4 g5 g6
      have hb13 := hbr.trans (hb3.mono hsz1)
      have hbw3 := hb.trans (hb3.mono hszr)
      have hin1' := in_imp hin1 (hb3.mono (by omega))
      have hin2' := in_imp hin2 (hb3.mono (by omega))
      obtain ⟨p0, p1, p2, p3, p4, p5, p6⟩ := blk7 hP
      obtain ⟨q0, q1, q2, q3, q4, q5, q6⟩ := blk7 hQ
      replace hpa := Lib.hid hpa
      replace hpc := Lib.hid hpc
      clear hin1 hin2 c1 c2
      have hq0 : x.fKind = y.fKind ∨ ¬ x.fKind = y.fKind := Classical.em _
      rcases hq0 with h0 | h0
      case inr =>
        have d0 : (x.fKind != y.fKind) = true := by simpa using h0
        replace hq := Lib.hid h0
        clear h0
        go_wp2_with fail
        go_ret
        exact ⟨⟨false, rfl, ⟨fun h => (by cases h), fun h => absurd h (hne.out (fun h => hq.out (by rw [h])))⟩⟩, (by repeat (first | with_reducible assumption | with_reducible exact Below.refl _ _ | with_reducible refine below_drewN ?_ _ | with_reducible refine Below.drew ?_ | (refine Below.setCell ?_ (by first | omega | (simp; omega) | simp) _) | (refine Below.alloc ?_ (by first | omega | (simp; omega) | simp) _) | (refine Below.trans ?_ (Below.mono (by with_reducible assumption) (by first | omega | (simp; omega) | simp)))))⟩
      have d0 : (x.fKind != y.fKind) = false := by simpa using h0
      replace h0 := Lib.hid h0
      have hq0 : x.fArg = y.fArg ∨ ¬ x.fArg = y.fArg := Classical.em _
      rcases hq0 with h2 | h2
      case inr =>
        have d2 : (x.fArg != y.fArg) = true := by simpa using h2
        replace hq := Lib.hid h2
        clear h2
        go_wp2_with fail
        go_ret
        exact ⟨⟨false, rfl, ⟨fun h => (by cases h), fun h => absurd h (hne.out (fun h => hq.out (by rw [h])))⟩⟩, (by repeat (first | with_reducible assumption | with_reducible exact Below.refl _ _ | with_reducible refine below_drewN ?_ _ | with_reducible refine Below.drew ?_ | (refine Below.setCell ?_ (by first | omega | (simp; omega) | simp) _) | (refine Below.alloc ?_ (by first | omega | (simp; omega) | simp) _) | (refine Below.trans ?_ (Below.mono (by with_reducible assumption) (by first | omega | (simp; omega) | simp)))))⟩
      have d2 : (x.fArg != y.fArg) = false := by simpa using h2
      replace h2 := Lib.hid h2
      have hq0 : x.fNum = y.fNum ∨ ¬ x.fNum = y.fNum := Classical.em _
      rcases hq0 with h3 | h3
      case inr =>
        have d3 : (x.fNum != y.fNum) = true := by simpa using h3
        replace hq := Lib.hid h3
        clear h3
        go_wp2_with fail
        go_ret
        exact ⟨⟨false, rfl, ⟨fun h => (by cases h), fun h => absurd h (hne.out (fun h => hq.out (by rw [h])))⟩⟩, (by repeat (first | with_reducible assumption | with_reducible exact Below.refl _ _ | with_reducible refine below_drewN ?_ _ | with_reducible refine Below.drew ?_ | (refine Below.setCell ?_ (by first | omega | (simp; omega) | simp) _) | (refine Below.alloc ?_ (by first | omega | (simp; omega) | simp) _) | (refine Below.trans ?_ (Below.mono (by with_reducible assumption) (by first | omega | (simp; omega) | simp)))))⟩
      have d3 : (x.fNum != y.fNum) = false := by simpa using h3
      replace h3 := Lib.hid h3
      have hq0 : x.fRounds = y.fRounds ∨ ¬ x.fRounds = y.fRounds := Classical.em _
      rcases hq0 with h4 | h4
      case inr =>
        have d4 : (x.fRounds != y.fRounds) = true := by simpa using h4
        replace hq := Lib.hid h4
        clear h4
        go_wp2_with fail
        go_ret
        exact ⟨⟨false, rfl, ⟨fun h => (by cases h), fun h => absurd h (hne.out (fun h => hq.out (by rw [h])))⟩⟩, (by repeat (first | with_reducible assumption | with_reducible exact Below.refl _ _ | with_reducible refine below_drewN ?_ _ | with_reducible refine Below.drew ?_ | (refine Below.setCell ?_ (by first | omega | (simp; omega) | simp) _) | (refine Below.alloc ?_ (by first | omega | (simp; omega) | simp) _) | (refine Below.trans ?_ (Below.mono (by with_reducible assumption) (by first | omega | (simp; omega) | simp)))))⟩
      have d4 : (x.fRounds != y.fRounds) = false := by simpa using h4
      replace h4 := Lib.hid h4
      have hq0 : x.fTest = y.fTest ∨ ¬ x.fTest = y.fTest := Classical.em _
      rcases hq0 with h5 | h5
      case inr =>
        have d5 : (x.fTest != y.fTest) = true := by simpa using h5
        replace hq := Lib.hid h5
        clear h5
        go_wp2_with fail
        go_ret
        exact ⟨⟨false, rfl, ⟨fun h => (by cases h), fun h => absurd h (hne.out (fun h => hq.out (by rw [h])))⟩⟩, (by repeat (first | with_reducible assumption | with_reducible exact Below.refl _ _ | with_reducible refine below_drewN ?_ _ | with_reducible refine Below.drew ?_ | (refine Below.setCell ?_ (by first | omega | (simp; omega) | simp) _) | (refine Below.alloc ?_ (by first | omega | (simp; omega) | simp) _) | (refine Below.trans ?_ (Below.mono (by with_reducible assumption) (by first | omega | (simp; omega) | simp)))))⟩
      have d5 : (x.fTest != y.fTest) = false := by simpa using h5
      replace h5 := Lib.hid h5
      have hq0 : x.fLim = y.fLim ∨ ¬ x.fLim = y.fLim := Classical.em _
      rcases hq0 with h6 | h6
      case inr =>
        have d6 : (x.fLim != y.fLim) = true := by simpa using h6
        replace hq := Lib.hid h6
        clear h6
        go_wp2_with fail
        go_ret
        exact ⟨⟨false, rfl, ⟨fun h => (by cases h), fun h => absurd h (hne.out (fun h => hq.out (by rw [h])))⟩⟩, (by repeat (first | with_reducible assumption | with_reducible exact Below.refl _ _ | with_reducible refine below_drewN ?_ _ | with_reducible refine Below.drew ?_ | (refine Below.setCell ?_ (by first | omega | (simp; omega) | simp) _) | (refine Below.alloc ?_ (by first | omega | (simp; omega) | simp) _) | (refine Below.trans ?_ (Below.mono (by with_reducible assumption) (by first | omega | (simp; omega) | simp)))))⟩
      have d6 : (x.fLim != y.fLim) = false := by simpa using h6
      replace h6 := Lib.hid h6
      by_cases hmm : m1 = m2
      case neg =>
        have dm : ((m1 : Int) != (m2 : Int)) = true := by simp; omega
        replace hq := Lib.hid hmm
        clear hmm
        go_wp2_with fail
        go_ret
        exact ⟨⟨false, rfl, ⟨fun h => (by cases h), fun h => absurd h (hne.out (fun h => hq.out (by rw [hm1.out, hm2.out, h])))⟩⟩, (by repeat (first | with_reducible assumption | with_reducible exact Below.refl _ _ | with_reducible refine below_drewN ?_ _ | with_reducible refine Below.drew ?_ | (refine Below.setCell ?_ (by first | omega | (simp; omega) | simp) _) | (refine Below.alloc ?_ (by first | omega | (simp; omega) | simp) _) | (refine Below.trans ?_ (Below.mono (by with_reducible assumption) (by first | omega | (simp; omega) | simp)))))⟩
      subst hmm
      have dm : ((m1 : Int) != (m1 : Int)) = false := by simp
      go_wp2_with fail
      go_loopw [8] (fun x8 wi => ∃ j nd : Nat, j ≤ m1 ∧ x8 = .int .i64 j ∧ wi = w3.drewN nd ∧ (∀ k (h1 : k < x.fIn.length) (h2 : k < y.fIn.length), k < j → x.fIn[k] = y.fIn[k])) (fun x8 _ => m1 - (intOf x8).toNat)
      case atStart => exact ⟨0, 0, Nat.zero_le _, rfl, rfl, fun j _ _ h => absurd h (by omega)⟩
      case round =>
        obtain ⟨j, nd, hj, rfl, rfl, hallj⟩ := hrel
        replace hallj := Lib.hid hallj
        by_cases hjm : j < m1
        · have hjx : j < x.fIn.length := by rw [← hm1.out]; exact hjm
          have hjy : j < y.fIn.length := by rw [← hm2.out]; exact hjm
          obtain ⟨u, hu⟩ : ∃ o, x.fIn[j] = o := ⟨_, rfl⟩
          obtain ⟨v, hv⟩ : ∃ o, y.fIn[j] = o := ⟨_, rfl⟩
          obtain ⟨b6, o6, rfl, hb6, _⟩ := hin1'.addr (by omega)
          obtain ⟨b7, o7, rfl, hb7, _⟩ := hin2'.addr (by omega)
          have s1 := (in_at hin1' hjx hu).1
          have s2 := (in_at hin2' hjy hv).1
          have hnv : u ≠ v → x ≠ y := by
            intro h1 h2
            subst h2
            exact h1 (hu.symm.trans hv)
          replace hu := Lib.hid hu
          replace hv := Lib.hid hv
          replace hnv := Lib.hid hnv
          go_wp2_with fail
          by_cases huv : u = v
          · subst huv
            have duv : (u != u) = false := by simp
            go_quiet (fail)
            go_wp2_with fail
            go_roundw
            case rel =>
              refine ⟨j + 1, _, by omega, by go_num, (by first | rfl | exact drewN_drewN _ _ _), fun k h1' h2' hk => ?_⟩
              by_cases hkj : k < j
              · exact hallj.out k h1' h2' hkj
              · obtain rfl : k = j := by omega
                rw [hu.out, hv.out]
            case measure => simp [intOf]; omega
          · have duv : (u != v) = true := by simpa using huv
            replace huv := Lib.hid huv
            go_quiet (fail)
            go_wp2_with fail
            go_ret
            exact ⟨⟨false, rfl, ⟨fun h => (by cases h), fun h => absurd h (hne.out (hnv.out huv.out))⟩⟩, (by repeat (first | with_reducible assumption | with_reducible exact Below.refl _ _ | with_reducible refine below_drewN ?_ _ | with_reducible refine Below.drew ?_ | (refine Below.setCell ?_ (by first | omega | (simp; omega) | simp) _) | (refine Below.alloc ?_ (by first | omega | (simp; omega) | simp) _) | (refine Below.trans ?_ (Below.mono (by with_reducible assumption) (by first | omega | (simp; omega) | simp)))))⟩
        · obtain rfl : j = m1 := by omega
          have hxy : x = y := by
            have hI : x.fIn = y.fIn := by
              apply List.ext_getElem
              · rw [← hm1.out, ← hm2.out]
              · intro k h1' h2'
                exact hallj.out k h1' h2' (by rw [hm1.out]; exact h1')
            cases x
            cases y
            simp only [TOp.mk.injEq]
            exact ⟨h0.out, hI, h2.out, h3.out, h4.out, h5.out, h6.out⟩
          go_wp2_with fail
          go_roundw
          case rel =>
            refine ⟨i + 1, by omega, by go_num, below_drewN hb13 _, fun k h1' h2' hk => ?_⟩
            by_cases hki : k < i
            · exact hall.out k h1' h2' hki
            · obtain rfl : k = i := by omega
              rw [hxx.out, hyy.out, hxy]
          case measure => simp [intOf]; omega
    · obtain rfl : i = n1 := by omega
      have hxy : xs = ys := by
        apply List.ext_getElem
        · rw [← hn1.out, ← hn2.out]
        · intro k h1' h2'
          exact hall.out k h1' h2' (by rw [hn1.out]; exact h1')
      replace hxy := Lib.hid hxy
      go_wp2_with fail
      go_ret
      exact ⟨⟨true, rfl, ⟨fun _ => hxy.out, fun _ => rfl⟩⟩, hb⟩
end Go.Proofs.Ytbianedgogdeeaa
