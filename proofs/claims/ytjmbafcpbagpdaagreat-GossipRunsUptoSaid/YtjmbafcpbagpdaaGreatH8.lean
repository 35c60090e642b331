/- Gossip, the document's side: each call at any arguments; both gossips beside each other. -/
import Derived.Test.YtjmbafcpbagpdaaGreatH2
import Derived.Test.YtjmbafcpbagpdaaGreatJ15
import Derived.Test.YtjmbafcpbagpdaaGreatJ17
import Derived.Test.YtjmbafcpbagpdaaGreatL10
namespace Go.Proofs.YtjmbafcpbagpdaaGreat
open Go.RowKit Go.Shelf Go.Maps
attribute [local go_sem] Oper.semAt_some
set_option linter.unusedVariables false
set_option linter.unusedSimpArgs false

theorem rdo_any (k : Int) (l : List TCount) (la : Option Addr) (lc : Nat) {w : World} {Z : Nat → Prop} {q : RP} {ops : List TOp} {ao : Option Addr} {cap n : Nat} {V : Nat → List TCount} {Y : Nat → List (List TCount)} (h : RG w Z q (.slice ao ops.length cap) n V Y) (hg : SlA w.heap.size 7 (ROp w.heap.size) w ao cap ops) (hok : (gcheck ops).2 = 0)
    (hl : SlA w.heap.size 4 (RCount w.heap.size) w la lc l) (hz : l.length ≤ 1048576) {N : Nat} (hV : VOk n V N) (hN : N ≤ 1000000000) (hlq : l ≠ [] → ∀ a, la = some a → a.block ≠ q.vb ∧ a.block ≠ q.yb) :
    Calls Tryz.prog 8 #[.pointer (some ⟨q.rb, 0, none⟩), .int .i64 k, .slice la l.length lc] w (RdoP w Z q (.slice ao ops.length cap) ops n V Y k l (rdoE ops n V Y k l)) := by
  by_cases hk : 0 ≤ k ∧ k < n
  · obtain ⟨j, rfl⟩ : ∃ j : Nat, k = j := ⟨k.toNat, by omega⟩
    exact rdo_go j l la lc h (by omega) hg hok hl hz hV hN hlq
  · exact rdo_arg k _ l h hk

set_option maxRecDepth 100000 in
set_option maxHeartbeats 2000000 in
theorem rdlv_arg (a b : Int) {w : World} {Z : Nat → Prop} {q : RP} {gv : Value} {n : Nat} {V : Nat → List TCount} {Y : Nat → List (List TCount)} (h : RG w Z q gv n V Y) (hab : ¬ ((0 ≤ a ∧ a < n) ∧ (0 ≤ b ∧ b < n))) :
    Calls Tryz.prog 10 #[.pointer (some ⟨q.rb, 0, none⟩), .int .i64 a, .int .i64 b] w fun e w' => e = .returned (.int .i64 1) ∧ Below w.heap.size w w' := by
  obtain ⟨c0, c1, c2, c3⟩ := h.cells
  clear h
  by_cases h1 : a < 0
  · have d1 : decide (a < 0) = true := by simpa using h1
    go_enter Tryz.func10, Tryz.ntmps10
    go_wp2_with fail
    go_ret
    exact ⟨rfl, Below.refl _ _⟩
  have d1 : decide (a < 0) = false := by simpa using h1
  by_cases h2 : (n : Int) ≤ a
  · have d2 : decide ((n : Int) ≤ a) = true := by simpa using h2
    go_enter Tryz.func10, Tryz.ntmps10
    go_wp2_with fail
    go_ret
    exact ⟨rfl, Below.refl _ _⟩
  have d2 : decide ((n : Int) ≤ a) = false := by simpa using h2
  by_cases h3 : b < 0
  · have d3 : decide (b < 0) = true := by simpa using h3
    go_enter Tryz.func10, Tryz.ntmps10
    go_wp2_with fail
    go_ret
    exact ⟨rfl, Below.refl _ _⟩
  have d3 : decide (b < 0) = false := by simpa using h3
  have d4 : decide ((n : Int) ≤ b) = true := by simp; omega
  go_enter Tryz.func10, Tryz.ntmps10
  go_wp2_with fail
  go_ret
  exact ⟨rfl, Below.refl _ _⟩
/-- What a call of Deliver leaves. -/
def RdlvP (w : World) (Z : Nat → Prop) (q : RP) (gv : Value) (ops : List TOp) (n : Nat) (V : Nat → List TCount) (Y : Nat → List (List TCount)) (a b : Int) (e : Ending) (w' : World) : Prop :=
  e = .returned (.int .i64 (rdlvE n Y a b)) ∧ (rdlvE n Y a b ≠ 0 → Below w.heap.size w w') ∧ (rdlvE n Y a b = 0 → RgP w Z q gv n (rdlvV ops V b.toNat ((Y (a.toNat * n + b.toNat)).headD [])) (rdlvY Y (a.toNat * n + b.toNat)) w')
theorem rdlv_any (a b : Int) {w : World} {Z : Nat → Prop} {q : RP} {ops : List TOp} {ao : Option Addr} {cap n : Nat} {V : Nat → List TCount} {Y : Nat → List (List TCount)} (h : RG w Z q (.slice ao ops.length cap) n V Y)
    (hg : SlA w.heap.size 7 (ROp w.heap.size) w ao cap ops) (hok : (gcheck ops).2 = 0) {N : Nat} (hV : VOk n V N) (hN : N ≤ 1000000000) (hl : (0 ≤ a ∧ a < n) → (0 ≤ b ∧ b < n) → ((Y (a.toNat * n + b.toNat)).headD []).length ≤ 1048576) :
    Calls Tryz.prog 10 #[.pointer (some ⟨q.rb, 0, none⟩), .int .i64 a, .int .i64 b] w (RdlvP w Z q (.slice ao ops.length cap) ops n V Y a b) := by
  by_cases hab : (0 ≤ a ∧ a < n) ∧ (0 ≤ b ∧ b < n)
  rotate_left
  · have e1 : rdlvE n Y a b = 1 := by unfold rdlvE; rw [if_pos hab]
    refine (rdlv_arg a b h hab).mono ?_
    rintro e w' ⟨rfl, hb⟩
    exact ⟨by rw [e1], fun _ => hb, fun h0 => absurd (e1.symm.trans h0) (by decide)⟩
  have hl' := hl hab.1 hab.2
  obtain ⟨k, rfl⟩ : ∃ k : Nat, a = k := ⟨a.toNat, by omega⟩
  obtain ⟨j, rfl⟩ : ∃ j : Nat, b = j := ⟨b.toNat, by omega⟩
  rw [Int.toNat_natCast, Int.toNat_natCast] at hl'
  have e2 : rdlvE n Y (k : Int) (j : Int) = if Y (k * n + j) = [] then 7 else 0 := by unfold rdlvE; rw [if_neg (by simpa using hab)]; rfl
  by_cases hy : Y (k * n + j) = []
  · rw [if_pos hy] at e2
    refine (rdlv_none k j h (by omega) (by omega) hy).mono ?_
    rintro e w' ⟨rfl, hb⟩
    exact ⟨by rw [e2], fun _ => hb, fun h0 => absurd (e2.symm.trans h0) (by decide)⟩
  · rw [if_neg hy] at e2
    obtain ⟨l, r, hlr⟩ := list_hd hy
    rw [hlr] at hl'
    refine (rdlv_some k j l r h (by omega) (by omega) hlr hg hok hV hN hl').mono ?_
    rintro e w' ⟨rfl, hP⟩
    refine ⟨by rw [e2], fun h0 => absurd e2 h0, fun _ => ?_⟩
    rw [Int.toNat_natCast, Int.toNat_natCast, hlr]
    exact hP

/-- The program's gossip and the document's beside each other; the cells of the statement's own variables. -/
structure GR (w W : World) (rz mb : Nat) (gv kv bv : Value) (A U : Nat) (X : Nat → Prop) (gb : Nat) (p : GP) (ops : List TOp) (m : GM) (N : Nat) (Z : Nat → Prop) (q : RP) (n : Nat) (V : Nat → List TCount) (Y : Nat → List (List TCount)) : Prop where
  gx : Gos W A U X gb p ops m N 1048576
  rg : RG W Z q gv n V Y
  cb : Blk W w.heap.size #[gv, kv, bv] 27
  rzb : Blk W rz #[.bool false] 4
  mbb : Blk W mb #[.pointer (some ⟨q.rb, 0, none⟩)] 35
  bel : Below w.heap.size w W
  sep : ∀ b, (Z b ∨ b = q.rb ∨ b = q.vb ∨ b = q.yb) → ¬ Foot A U X b
  own : ∀ b, (b = w.heap.size ∨ b = rz ∨ b = mb) → ¬ Foot A U X b ∧ b ≠ q.vb ∧ b ≠ q.yb
  geA : w.heap.size ≤ A
  geR : w.heap.size ≤ q.vb ∧ w.heap.size ≤ q.yb
  geZ : w.heap.size ≤ rz ∧ w.heap.size ≤ mb
namespace GR
variable {w W W' : World} {rz mb : Nat} {gv kv bv : Value} {A U gb : Nat} {X : Nat → Prop} {p : GP} {ops : List TOp} {m : GM} {N : Nat} {Z : Nat → Prop} {q : RP} {n : Nat} {V : Nat → List TCount} {Y : Nat → List (List TCount)}
theorem below (h : GR w W rz mb gv kv bv A U X gb p ops m N Z q n V Y) (hb : Below W.heap.size W W') : GR w W' rz mb gv kv bv A U X gb p ops m N Z q n V Y :=
  ⟨h.gx.below hb, h.rg.below hb, h.cb.below hb h.cb.lt, h.rzb.below hb h.rzb.lt, h.mbb.below hb h.mbb.lt, h.bel.trans (hb.mono h.bel.size), h.sep, h.own, h.geA, h.geR, h.geZ⟩
theorem mono (h : GR w W rz mb gv kv bv A U X gb p ops m N Z q n V Y) {N' : Nat} (hN : N ≤ N') : GR w W rz mb gv kv bv A U X gb p ops m N' Z q n V Y :=
  ⟨h.gx.mono hN, h.rg, h.cb, h.rzb, h.mbb, h.bel, h.sep, h.own, h.geA, h.geR, h.geZ⟩
theorem doX (h : GR w W rz mb gv kv bv A U X gb p ops m N Z q n V Y) {m' : GM} {N' : Nat} (hp : DoP W A U X gb p ops m' N' 1048576 W') : ∃ X', GR w W' rz mb gv kv bv A U X' gb p ops m' N' Z q n V Y := by
  obtain ⟨hc, X', hX, hg⟩ := hp
  have hl := h.rg.lts
  have hF : ∀ b, b < W.heap.size → ¬ Foot A U X b → ¬ Foot A U X' b := fun b hb hn e => by
    rcases e with e | e
    · exact hn (.inl e)
    · rcases hX b e with e | e
      · exact hn (.inr e)
      · omega
  have hcl := h.cb.lt
  have hrl := h.rzb.lt
  have hml := h.mbb.lt
  refine ⟨X', hg, h.rg.chg hc (fun k hk => ⟨fun z => h.sep k (.inl z) hk, fun e => h.sep k (.inr (.inl e)) hk, fun e => h.sep k (.inr (.inr (.inl e))) hk, fun e => h.sep k (.inr (.inr (.inr e))) hk⟩), h.cb.chg hc (h.own _ (.inl rfl)).1, h.rzb.chg hc (h.own _ (.inr (.inl rfl))).1, h.mbb.chg hc (h.own _ (.inr (.inr rfl))).1, h.bel.trans (hc.below (by have := h.bel.size; omega) (fun k hk e => by have := h.gx.foot_ge e; have := h.geA; omega)), fun b hb => ?_, fun b hb => ⟨?_, (h.own b hb).2⟩, h.geA, h.geR, h.geZ⟩
  · refine hF b ?_ (h.sep b hb)
    rcases hb with z | rfl | rfl | rfl
    · exact h.rg.zlt b z
    · omega
    · omega
    · omega
  · refine hF b ?_ (h.own b hb).1
    rcases hb with rfl | rfl | rfl <;> omega
theorem doR (h : GR w W rz mb gv kv bv A U X gb p ops m N Z q n V Y) {V' : Nat → List TCount} {Y' : Nat → List (List TCount)} (hp : RgP W Z q gv n V' Y' W') : ∃ Z', GR w W' rz mb gv kv bv A U X gb p ops m N Z' q n V' Y' := by
  obtain ⟨hc, Z', hZ, hg⟩ := hp
  refine ⟨Z', h.gx.chg hc (fun k hk => ?_), hg, h.cb.chg hc (fun e => ?_), h.rzb.chg hc (fun e => ?_), h.mbb.chg hc (fun e => ?_), h.bel.trans (hc.below (by have := h.bel.size; omega) (fun k hk e => by have := h.geR; omega)), fun b hb => ?_, h.own, h.geA, h.geR, h.geZ⟩
  · rcases hk with e | e
    · exact h.sep k (.inr (.inr (.inl e)))
    · exact h.sep k (.inr (.inr (.inr e)))
  · have := (h.own _ (.inl rfl)).2; omega
  · have := (h.own _ (.inr (.inl rfl))).2; omega
  · have := (h.own _ (.inr (.inr rfl))).2; omega
  · rcases hb with z | hb
    · rcases hZ b z with z | z
      · exact h.sep b (.inl z)
      · exact h.gx.out z
    · exact h.sep b (.inr hb)
theorem do1 {ao : Option Addr} {cap : Nat} (h : GR w W rz mb (.slice ao ops.length cap) kv bv A U X gb p ops m N Z q n V Y) (hpg : p.gops = ops) (k : Int) (l : List TCount) (la : Option Addr) (lc : Nat) (hl : SlA w.heap.size 4 (RCount w.heap.size) W la lc l) (hlz : l.length ≤ 1048576) (hN : N ≤ 67108864) :
    Calls Tryz.prog 7 #[.pointer (some ⟨gb, 0, none⟩), .int .i64 k, .slice la l.length lc] W fun e W1 => e = .returned (.int .i64 (doE ops m k l)) ∧ Chg (Foot A U X) W W1 ∧ ∃ X', GR w W1 rz mb (.slice ao ops.length cap) kv bv A U X' gb p ops (doM ops m k l) (N + 1048576) Z q n V Y := by
  have hW := h.bel.size
  refine (do_any k l la lc W h.gx hpg ((sla_base hl hW).imp (Below.refl _ _) (Nat.le_refl _) (fun _ _ _ h => rcount_free h)) (by omega) (by omega) hlz (fun hne a e hf => ?_)).mono ?_
  · have h1 := h.gx.foot_ge hf
    have h2 := h.geA
    obtain ⟨b, off, e2, h3, _⟩ := hl.addr (List.length_pos_iff.2 hne)
    rw [e] at e2
    cases e2
    show False
    have : (⟨b, off, none⟩ : Addr).block = b := rfl
    omega
  · rintro e W1 ⟨rfl, hP⟩
    obtain ⟨X', hG⟩ := h.doX hP
    exact ⟨rfl, hP.1, X', hG.mono (by omega)⟩
theorem do2 {ao : Option Addr} {cap N' : Nat} {m' : GM} (h : GR w W rz mb (.slice ao ops.length cap) kv bv A U X gb p ops m' N' Z q n V Y) (hAk : AlikeG m n V Y N) (hx : SlA W.heap.size 7 (ROp W.heap.size) W ao cap ops) (hok : (gcheck ops).2 = 0) (k : Int) (l : List TCount) (la : Option Addr) (lc : Nat) (hl : SlA w.heap.size 4 (RCount w.heap.size) W la lc l) (hlz : l.length ≤ 1048576) (hN : N ≤ 67108864) :
    Calls Tryz.prog 8 #[.pointer (some ⟨q.rb, 0, none⟩), .int .i64 k, .slice la l.length lc] W fun e W2 => e = .returned (.int .i64 (doE ops m k l)) ∧ Chg (fun i => i = q.vb ∨ i = q.yb) W W2 ∧ ∃ Z' V' Y', GR w W2 rz mb (.slice ao ops.length cap) kv bv A U X gb p ops m' N' Z' q n V' Y' ∧ AlikeG (doM ops m k l) n V' Y' (N + 1048576) := by
  have hW := h.bel.size
  have hE := hAk.doE (ops := ops) k l (by omega)
  refine (rdo_any k l la lc h.rg hx hok ((sla_base hl hW).imp (Below.refl _ _) (Nat.le_refl _) (fun _ _ _ h => rcount_free h)) hlz hAk.vok (by omega) (fun hne a e => ?_)).mono ?_
  · obtain ⟨b, off, e2, h3, _⟩ := hl.addr (List.length_pos_iff.2 hne)
    rw [e] at e2
    cases e2
    show b ≠ q.vb ∧ b ≠ q.yb
    have := h.geR
    omega
  · rintro e W1 ⟨rfl, hbad, hgood⟩
    rw [hE] at hbad hgood
    refine ⟨by rw [hE], ?_⟩
    by_cases h0 : doE ops m k l = 0
    · obtain ⟨Z', hG⟩ := h.doR (hgood h0)
      exact ⟨(hgood h0).1, Z', _, _, hG, (hAk.did h.rg.n8 k l h0 (by omega)).mono (by omega)⟩
    · exact ⟨(Chg.of_below (hbad h0)).mono (fun k h1 h2 => absurd h2 (by omega)), Z, V, Y, h.below (hbad h0), (hAk.did0 k l h0).mono (by omega)⟩
theorem _root_.Go.Proofs.YtjmbafcpbagpdaaGreat.Gos.headlen {w : World} {A U gb N M : Nat} {X : Nat → Prop} {p : GP} {ops : List TOp} {m : GM} (hG : Gos w A U X gb p ops m N M) {i : Nat} (hi : i < 64) : ((m.wy i).headD []).length ≤ M := by
  cases hw : m.wy i with
  | nil => exact Nat.zero_le _
  | cons l r =>
    obtain ⟨g, k, cap, u, _, _, _, _, _, hl, _⟩ := hG.first hi hw
    exact hl.len
theorem dlv1 (h : GR w W rz mb gv kv bv A U X gb p ops m N Z q n V Y) (a b : Int) (hN : N ≤ 67108864) :
    Calls Tryz.prog 9 #[.pointer (some ⟨gb, 0, none⟩), .int .i64 a, .int .i64 b] W fun e W1 => e = .returned (.int .i64 (dlvE m a b)) ∧ Chg (Foot A U X) W W1 ∧ ∃ X', GR w W1 rz mb gv kv bv A U X' gb p ops (dlvM ops m a b) (N + 1048576) Z q n V Y := by
  refine (dlv_any a b h.gx (by decide) (by omega)).mono ?_
  rintro e W1 ⟨rfl, h1, h2⟩
  exact ⟨rfl, h1, h.doX (DoP.of_dlv h1 h2)⟩
theorem dlv2 {ao : Option Addr} {cap N' : Nat} {m' : GM} (h : GR w W rz mb (.slice ao ops.length cap) kv bv A U X gb p ops m' N' Z q n V Y) (hAk : AlikeG m n V Y N) (hx : SlA W.heap.size 7 (ROp W.heap.size) W ao cap ops) (hok : (gcheck ops).2 = 0) (a b : Int) (hN : N ≤ 67108864) (hh : ∀ i, i < 64 → ((m.wy i).headD []).length ≤ 1048576) :
    Calls Tryz.prog 10 #[.pointer (some ⟨q.rb, 0, none⟩), .int .i64 a, .int .i64 b] W fun e W2 => e = .returned (.int .i64 (dlvE m a b)) ∧ Chg (fun i => i = q.vb ∨ i = q.yb) W W2 ∧ ∃ Z' V' Y', GR w W2 rz mb (.slice ao ops.length cap) kv bv A U X gb p ops m' N' Z' q n V' Y' ∧ AlikeG (dlvM ops m a b) n V' Y' (N + 1048576) := by
  have hE := hAk.dlvE a b
  have h8 := h.rg.n8
  have hhd : (0 ≤ a ∧ a < n) → (0 ≤ b ∧ b < n) → ((Y (a.toNat * n + b.toNat)).headD []).length ≤ 1048576 := fun h1 h2 => by
    rw [hAk.wy a.toNat b.toNat (by omega) (by omega)]
    exact hh _ (by omega)
  refine (rdlv_any a b h.rg hx hok hAk.vok (by omega) hhd).mono ?_
  rintro e W1 ⟨rfl, hbad, hgood⟩
  rw [hE] at hbad hgood
  refine ⟨by rw [hE], ?_⟩
  by_cases h0 : dlvE m a b = 0
  · obtain ⟨Z', hG⟩ := h.doR (hgood h0)
    have hr : (0 ≤ a ∧ a < n) ∧ (0 ≤ b ∧ b < n) := by
      rw [← hE] at h0
      unfold rdlvE at h0
      split at h0
      · simp at h0
      · rename_i h1; exact Decidable.not_not.1 h1
    exact ⟨(hgood h0).1, Z', _, _, hG, hAk.dlvd h8 a b h0 (hhd hr.1 hr.2) (by decide)⟩
  · exact ⟨(Chg.of_below (hbad h0)).mono (fun k h1 h2 => absurd h2 (by omega)), Z, V, Y, h.below (hbad h0), hAk.dlvd0 a b h0 1048576⟩
end GR
end Go.Proofs.YtjmbafcpbagpdaaGreat

/- Gossip: how the steps of GossipRuns read. -/
namespace Go.Proofs.YtjmbafcpbagpdaaGreat
open Go.RowKit Go.Maps
set_option linter.unusedVariables false
set_option linter.unusedSimpArgs false
set_option maxRecDepth 100000

structure TStepG where
  kind : Int
  fr : Int
  tg : Int
  l : List TCount
def RStepG (B : Nat) (w : World) (cs : List Value) (x : TStepG) : Prop :=
  ∃ a c, cs = [.int .i64 x.kind, .int .i64 x.fr, .int .i64 x.tg, .slice a x.l.length c] ∧ SlA B 4 (RCount B) w a c x.l ∧ x.l.length ≤ 1048576
theorem RStepG.imp {B B' : Nat} {w w' : World} {cs : List Value} {x : TStepG} (h : RStepG B w cs x) (hb : Below B w w') (hB : B ≤ B') : RStepG B' w' cs x := by
  obtain ⟨a, c, h1, h2, h3⟩ := h
  exact ⟨a, c, h1, h2.imp hb hB (fun _ _ _ h => h.imp hb hB), h3⟩
theorem RStepG.at {B : Nat} {w : World} {x : TStepG} {b off i : Nat} {cap : Nat} {xs : List TStepG} (h : SlA B 4 (RStepG B) w (some ⟨b, off, none⟩) cap xs) (hi : i < xs.length) (hx : xs[i] = x) :
    ∃ a c, w.cell? ⟨b, off + i * 4, none⟩ = some (.int .i64 x.kind) ∧ w.cell? ⟨b, off + i * 4 + 1, none⟩ = some (.int .i64 x.fr) ∧ w.cell? ⟨b, off + i * 4 + 2, none⟩ = some (.int .i64 x.tg) ∧ w.cell? ⟨b, off + i * 4 + 3, none⟩ = some (.slice a x.l.length c) ∧ SlA B 4 (RCount B) w a c x.l ∧ x.l.length ≤ 1048576 := by
  obtain ⟨cs, _, hc, hr⟩ := h.get i hi
  rw [hx] at hr
  obtain ⟨a, c, rfl, h1, h2⟩ := hr
  exact ⟨a, c, by have := hc 0 (by omega); simpa using this, by have := hc 1 (by omega); simpa [Nat.add_assoc] using this, by have := hc 2 (by omega); simpa [Nat.add_assoc] using this, by have := hc 3 (by omega); simpa [Nat.add_assoc] using this, h1, h2⟩
section
variable {H : Type} {enc : TypeId × Value → H} {held : Bool} {B : Nat} {w : World} {fuel : Nat} {cs : List Value} {x : DataW H × List MemPlace}
theorem step_bulk (h : DataW.trod enc Tryz.prog w 0 (fun _ => true) held fuel 39 cs = some x) (hp : ∀ p ∈ x.2, p.block < B) (hw : Rows.uptoBulk x.1 ≤ 1048576) : ∃ a, RStepG B w cs a := by
  obtain ⟨ys, n, _, rfl, hl, hlen, hf⟩ := DataW.trod_struct Tryz.underlying39 h
  have hsz : Tryz.prog.cellsOf 39 = 4 := by kernel_rfl
  rw [hsz] at hl
  match cs, hl, ys, hlen, hf, hp with
  | [c0, c1, c2, c3], _, [y0, y1, y2, y3], _, hf, hp =>
    simp only [Rows.uptoBulk] at hw
    have g0 : DataW.trod enc Tryz.prog w 0 (fun _ => true) held n 3 (([c0, c1, c2, c3].drop 0).take (Tryz.prog.cellsOf 3)) = some y0 := hf 0 _ rfl
    rw [show Tryz.prog.cellsOf 3 = 1 by kernel_rfl] at g0
    obtain ⟨a0, r0⟩ := RI.of_trod Tryz.underlying3 g0
    have g1 : DataW.trod enc Tryz.prog w 0 (fun _ => true) held n 3 (([c0, c1, c2, c3].drop 1).take (Tryz.prog.cellsOf 3)) = some y1 := hf 1 _ rfl
    rw [show Tryz.prog.cellsOf 3 = 1 by kernel_rfl] at g1
    obtain ⟨a1, r1⟩ := RI.of_trod Tryz.underlying3 g1
    have g2 : DataW.trod enc Tryz.prog w 0 (fun _ => true) held n 3 (([c0, c1, c2, c3].drop 2).take (Tryz.prog.cellsOf 3)) = some y2 := hf 2 _ rfl
    rw [show Tryz.prog.cellsOf 3 = 1 by kernel_rfl] at g2
    obtain ⟨a2, r2⟩ := RI.of_trod Tryz.underlying3 g2
    have g3 : DataW.trod enc Tryz.prog w 0 (fun _ => true) held n 25 (([c0, c1, c2, c3].drop 3).take (Tryz.prog.cellsOf 25)) = some y3 := hf 3 _ rfl
    rw [show Tryz.prog.cellsOf 25 = 1 by kernel_rfl] at g3
    have q3 : ∀ p ∈ y3.2, p.block < B := fun p hq => hp p (List.mem_flatMap.2 ⟨y3, by simp, hq⟩)
    have b3 := bulk_part (d := y3.1) (l := [y0, y1, y2, y3].map (·.1)) (by simp)
    obtain ⟨a3, r3, z3⟩ := countsJ g3 q3 (by omega)
    obtain ⟨e0, w0⟩ := r0
    obtain ⟨e1, w1⟩ := r1
    obtain ⟨e2, w2⟩ := r2
    obtain ⟨ba, bc, e3, s3⟩ := r3
    simp only [List.drop_zero, List.take_succ_cons, List.take_zero, List.cons.injEq, and_true] at e0
    simp only [List.drop_succ_cons, List.drop_zero, List.take_succ_cons, List.take_zero, List.cons.injEq, and_true] at e1 e2 e3
    exact ⟨⟨a0, a1, a2, a3⟩, ba, bc, by rw [e0, e1, e2, e3], s3, z3⟩
theorem steps_bulk (h : DataW.trod enc Tryz.prog w 0 (fun _ => true) held fuel 28 cs = some x) (hp : ∀ p ∈ x.2, p.block < B) (hw : Rows.uptoBulk x.1 ≤ 1048576) : ∃ a, RSl B 4 (RStepG B) w cs a := by
  obtain ⟨ao, cap, xs, rfl, hsl⟩ := SlA.of_trodW (B := B) (sz := 4) (E := RStepG B) (Wt := fun d => Rows.uptoBulk d ≤ 1048576) Tryz.underlying28 (by kernel_rfl) (by decide) h hp
    (fun elems sp he d hd => by
      have h3 := bulk_part hd
      rw [he] at hw
      simp only [Rows.uptoBulk] at hw
      omega) (fun n cs y h hp hw => step_bulk h hp hw)
  exact ⟨xs, ao, cap, rfl, hsl⟩
end
end Go.Proofs.YtjmbafcpbagpdaaGreat

/- Gossip: the truth is never below 0; its list is all of what True tells: plain Lean. -/
namespace Go.Proofs.YtjmbafcpbagpdaaGreat
open Go.RowKit Go.Shelf Go.Maps
set_option linter.unusedVariables false
set_option linter.unusedSimpArgs false

theorem pos_dlv {ops : List TOp} {m : GM} (h : ∀ s, 0 ≤ m.c 0 s) (a b : Int) : ∀ s, 0 ≤ (dlvM ops m a b).c 0 s := by
  intro s
  unfold dlvM
  split
  · show 0 ≤ (if 0 = b.toNat + 1 then nextF ops (m.c 0) ((m.wy (a.toNat * 8 + b.toNat)).headD []) else m.c 0) s
    rw [if_neg (by omega)]
    exact h s
  · exact h s
theorem pos_do {ops : List TOp} {m : GM} {n : Nat} {V : Nat → List TCount} {Y : Nat → List (List TCount)} {N : Nat} (hA : AlikeG m n V Y N) (h : ∀ s, 0 ≤ m.c 0 s) (k : Int) (l : List TCount) (hl : l.length ≤ 1048576) : ∀ s, 0 ≤ (doM ops m k l).c 0 s := by
  intro s
  unfold doM
  split
  · rename_i h0
    show 0 ≤ (if 0 = 0 then addF (m.c 0) l else m.c 0) s
    rw [if_pos rfl]
    unfold Go.Proofs.YtjmbafcpbagpdaaGreat.doE at h0
    split at h0
    · simp at h0
    split at h0
    · simp at h0
    rename_i hok
    split at h0
    · simp at h0
    rename_i hst
    have hok' : l.all (okC ops) = true := by simpa using hok
    have hst' : standsF ops (m.c 0) l = true := by simpa using hst
    have ht := tot_smallH (ops := ops) s hok' (by omega)
    have hb := hA.tr.bnd s
    rw [hA.tr.cnt] at hb
    have hc := h s
    unfold addF
    rw [IntWalk.wrap64_in _ (by omega)]
    by_cases h2 : totC l s < 0
    · have h3 : ∃ d ∈ l, d.fS = s := by
        by_cases h3 : ∃ d ∈ l, d.fS = s
        · exact h3
        · have := tot_none (l := l) (s := s) (fun d hd e => h3 ⟨d, hd, e⟩)
          omega
      obtain ⟨p, hp, e⟩ := nxL_has _ l h3
      have hv := nxL_val hp
      rw [e, IntWalk.wrap64_in _ (by omega)] at hv
      unfold standsF at hst'
      rw [List.all_eq_true] at hst'
      have h4 := hst' p hp
      unfold standB at h4
      rw [Bool.and_eq_true] at h4
      have h5 := h4.1
      rw [hv, e, decide_eq_true h2, Bool.true_and, Bool.not_eq_true', decide_eq_false_iff_not, IntWalk.wrap64_in _ (by omega)] at h5
      omega
    · omega
  · exact h s
theorem tot_ge0 {l : List TCount} (h : ¬ ∃ c ∈ l, c.fN < 0) (s : TStamp) : 0 ≤ totC l s := by
  induction l with
  | nil => exact Int.le_refl _
  | cons c r ih =>
    rw [totC_cons]
    have h1 : 0 ≤ c.fN := by
      by_cases h2 : c.fN < 0
      · exact absurd ⟨c, by simp, h2⟩ h
      · omega
    have := ih (fun ⟨d, hd, h2⟩ => h ⟨d, by simp [hd], h2⟩)
    split <;> omega
theorem newGE_parts {ops : List TOp} {k : Int} {l : List TCount} (h : newGE ops k l = 0) : (¬ ∃ c ∈ l, c.fN < 0) ∧ updF ops (fun _ => 0) l = 0 := by
  unfold newGE at h
  split at h
  · simp at h
  split at h
  · simp at h
  split at h
  · simp at h
  rename_i hn
  split at h
  · simp at h
  · rename_i h1
    exact ⟨hn, by simpa using h1⟩
theorem pos_new {ops : List TOp} {k : Int} {l : List TCount} (h : newGE ops k l = 0) (hl : l.length ≤ 1048576) (i : Nat) : ∀ s, 0 ≤ (newGM i l).c 0 s := by
  intro s
  obtain ⟨h1, h2⟩ := newGE_parts h
  have hok := updF_ok h2
  have ht := tot_smallH (ops := ops) s hok (by omega)
  have h0 := tot_ge0 h1 s
  show 0 ≤ wrap64 ((0 : Int) + totC l s)
  rw [IntWalk.wrap64_in _ (by omega)]
  omega
theorem AlikeG.start {ops : List TOp} {k : Int} {l : List TCount} (h : newGE ops k l = 0) (hl : l.length ≤ 1048576) : AlikeG (newGM k.toNat l) k.toNat (fun _ => (updL ops [] l).2) (fun _ => []) 1048576 := by
  have h1 : (updL ops [] l).1 = 0 := by rw [← (Alk.zero 0).upd (by omega)]; exact (newGE_parts h).2
  have h2 := ((Alk.zero 0).next h1).mono (N' := 1048576) (by omega)
  exact ⟨rfl, h2, fun i hi => h2, fun a b ha hb => rfl⟩
open Classical in
theorem doneF_pos (ops : List TOp) (c : CF) (s : TStamp) : doneF ops (posF c) s = doneF ops c s := by
  unfold doneF posF
  congr 2
  apply propext
  constructor
  · intro h a ha
    exact h a (by rw [if_pos ha]; exact ha)
  · intro h a ha
    split at ha
    · rename_i h1; exact h a h1
    · omega
/-- The truth's list is all of what a tracker of the truth holds. -/
theorem isAll_of {cs : List (TStamp × Int)} {L : List TCount} (hL : SrtL L) (hnz : ∀ x ∈ L, x.fN ≠ 0) (hn : (cs.map Prod.fst).Nodup) (hz : ∀ p ∈ cs, p.2 ≠ 0) (he : ∀ s, cntC cs s = cntL L s) : IsAll cs L := by
  have hLn : (L.map (·.fS)).Nodup := List.Pairwise.imp (fun {a b} hab e => by rw [e] at hab; exact ltS_irrefl _ hab) hL
  refine ⟨(List.perm_ext_iff_of_nodup hLn hn).2 (fun s => ?_), hL, fun c hc => by rw [he, cntL_mem hL c hc]⟩
  constructor
  · intro hs
    obtain ⟨x, hx, rfl⟩ := List.mem_map.1 hs
    by_cases h1 : x.fS ∈ cs.map Prod.fst
    · exact h1
    · exfalso
      have h2 := he x.fS
      rw [cntC_out (fun p hp e => h1 (List.mem_map.2 ⟨p, hp, e⟩)), cntL_mem hL x hx] at h2
      exact hnz x hx h2.symm
  · intro hs
    obtain ⟨p, hp, rfl⟩ := List.mem_map.1 hs
    by_cases h1 : p.1 ∈ L.map (·.fS)
    · exact h1
    · exfalso
      have h2 := he p.1
      rw [cntL_out h1] at h2
      unfold cntC at h2
      rw [getC_of_mem hn (show (p.1, p.2) ∈ cs from hp)] at h2
      exact hz p hp h2
theorem Alk.all {c : CF} {L : List TCount} {N : Nat} (h : Alk c L N) (hp : ∀ s, 0 ≤ c s) {cs : List (TStamp × Int)} (hn : (cs.map Prod.fst).Nodup) (hz : ∀ p ∈ cs, p.2 ≠ 0) (he : cntC cs = posF c) : IsAll cs L :=
  isAll_of h.srt h.nz hn hz (fun s => by
    rw [he, h.cnt]
    unfold posF
    have := hp s
    split <;> omega)
theorem front_alike {ops : List TOp} {c : CF} {L : List TCount} {N : Nat} (h : Alk c L N) {loc : Int} {cs : List (TStamp × Int)} {f : List TTime} (hn : (cs.map Prod.fst).Nodup) (he : cntC cs = c) (hf : IsFront (timesS ops loc (aliveC cs)) f) : frontT (timesS ops loc (aliveL L)) = f :=
  IsFront.unique (frontT_front _) (IsFront.congr (times_mem (fun s => by rw [alive_mem hn, h.alive, he])) hf)
theorem gos_good {w : World} {A U gb N M : Nat} {X : Nat → Prop} {p : GP} {ops : List TOp} {m : GM} (h : Gos w A U X gb p ops m N M) {i : Nat} (hi : i ≤ m.n) {a : TStamp} (ha : 0 < m.c i a) : goodS ops a.fLoc a.fT.fEpoch a.fT.fRound = true := by
  obtain ⟨⟨cs, hT, hc, _⟩, _⟩ := h.trs i hi
  rw [← hc] at ha
  have hm := (alive_mem hT.nodup a).2 ha
  unfold aliveC at hm
  obtain ⟨p, h6, rfl⟩ := List.mem_map.1 hm
  exact hT.good p (List.mem_filter.1 h6).1
theorem wpIn_act {F : Fence} {n : Nat} {P : Program} {c : Code} {Q : Exit → Act → World → Prop} {a : Act} {w : World} (h : ∀ a0, Hid (a0 = a) → c.wpIn F n P Q a w) : c.wpIn F n P Q a w := h a (Lib.hid rfl)
/-- Between two rounds over the truth's counts. -/
def RunI (w5 w6 : World) (nx : Nat) {cs : List (TStamp × Int)} (L : List TCount) (pre : List (CountOf cs)) (W : World) : Prop :=
  Blk W nx #[.int .i64 pre.length] 3 ∧ pre.map (·.1) <+: L ∧ Below w5.heap.size w5 W ∧ w6.heap.size ≤ W.heap.size
theorem RunI.own {w5 w6 : World} {nx : Nat} {cs : List (TStamp × Int)} {L : List TCount} (hw : w5.heap.size ≤ w6.heap.size) : OwnFrom w6.heap.size (RunI (cs := cs) w5 w6 nx L) := by
  rintro s X Y row ⟨h1, h2, h3, h4⟩ hg hr
  exact ⟨h1.grownN hg (fun r e => (hr r e).2), h2, h3.grown hg h3.size (fun g e => by have := (hr g e).1; omega), Nat.le_trans h4 hg.size⟩
end Go.Proofs.YtjmbafcpbagpdaaGreat
