/- Gossip: two gossips side by side. -/
import Derived.Test.YtjmbafcpbagpdaaJd
namespace Go.Proofs.Ytjmbafcpbagpdaa
open Go.RowKit Go.Shelf Go.Maps
set_option linter.unusedVariables false
set_option linter.unusedSimpArgs false

/-- Two gossips beside each other; what was there below B stays. -/
structure Two (w0 wr : World) (B : Nat) (A1 U1 : Nat) (X1 : Nat → Prop) (g1 : Nat) (p1 : GP) (m1 : GM) (A2 U2 : Nat) (X2 : Nat → Prop) (g2 : Nat) (p2 : GP) (m2 : GM) (ops : List TOp) (N M : Nat) : Prop where
  gx : Gos wr A1 U1 X1 g1 p1 ops m1 N M
  gy : Gos wr A2 U2 X2 g2 p2 ops m2 N M
  apart : ∀ k, Foot A1 U1 X1 k → ¬ Foot A2 U2 X2 k
  bel : Below B w0 wr
  b0 : B ≤ w0.heap.size
  b1 : B ≤ A1
  b2 : B ≤ A2
theorem Gos.foot_ge {w : World} {A U gb N M : Nat} {X : Nat → Prop} {p : GP} {ops : List TOp} {m : GM} (h : Gos w A U X gb p ops m N M) {k : Nat} (hk : Foot A U X k) : A ≤ k := by
  rcases hk with e | e
  · exact e.1
  · have := (h.xU k e).1; have := h.inG.1; omega
namespace Two
variable {w0 wr w' : World} {B A1 U1 g1 A2 U2 g2 N N' M : Nat} {X1 X2 : Nat → Prop} {p1 p2 : GP} {m1 m2 m' : GM} {ops : List TOp}
theorem chg (h : Two w0 wr B A1 U1 X1 g1 p1 m1 A2 U2 X2 g2 p2 m2 ops N M) {S : Nat → Prop} (hc : Chg S wr w') (hS : ∀ k, S k → ¬ Foot A1 U1 X1 k ∧ ¬ Foot A2 U2 X2 k ∧ B ≤ k) : Two w0 w' B A1 U1 X1 g1 p1 m1 A2 U2 X2 g2 p2 m2 ops N M :=
  ⟨h.gx.chg hc (fun k hk => (hS k hk).1), h.gy.chg hc (fun k hk => (hS k hk).2.1), h.apart, h.bel.trans (hc.below (Nat.le_trans h.b0 (by have := h.bel.size; omega)) (fun k hk e => by have := (hS k e).2.2; omega)), h.b0, h.b1, h.b2⟩
theorem below (h : Two w0 wr B A1 U1 X1 g1 p1 m1 A2 U2 X2 g2 p2 m2 ops N M) (hb : Below wr.heap.size wr w') : Two w0 w' B A1 U1 X1 g1 p1 m1 A2 U2 X2 g2 p2 m2 ops N M :=
  h.chg (Chg.of_below hb) (fun k hk => ⟨h.gx.out hk, h.gy.out hk, by have := h.bel.size; have := h.b0; omega⟩)
theorem doX (h : Two w0 wr B A1 U1 X1 g1 p1 m1 A2 U2 X2 g2 p2 m2 ops N M) (hN : N ≤ N') (hp : DoP wr A1 U1 X1 g1 p1 ops m' N' M w') : ∃ X', (∀ j, X' j → X1 j ∨ wr.heap.size ≤ j) ∧ Two w0 w' B A1 U1 X' g1 p1 m' A2 U2 X2 g2 p2 m2 ops N' M := by
  obtain ⟨hc, X', hX, hg⟩ := hp
  refine ⟨X', hX, hg, (h.gy.chg hc (fun k hk => h.apart k hk)).mono hN, fun k hk hk2 => ?_, h.bel.trans (hc.below (by have := h.bel.size; have := h.b0; omega) (fun k hk e => by have := h.gx.foot_ge e; have := h.b1; omega)), h.b0, h.b1, h.b2⟩
  have hlt := h.gy.foot_lt hk2
  rcases hk with e | e
  · exact h.apart k (.inl e) hk2
  · rcases hX k e with e2 | e2
    · exact h.apart k (.inr e2) hk2
    · omega
theorem doY (h : Two w0 wr B A1 U1 X1 g1 p1 m1 A2 U2 X2 g2 p2 m2 ops N M) (hN : N ≤ N') (hp : DoP wr A2 U2 X2 g2 p2 ops m' N' M w') : ∃ X', (∀ j, X' j → X2 j ∨ wr.heap.size ≤ j) ∧ Two w0 w' B A1 U1 X1 g1 p1 m1 A2 U2 X' g2 p2 m' ops N' M := by
  obtain ⟨hc, X', hX, hg⟩ := hp
  refine ⟨X', hX, (h.gx.chg hc (fun k hk h2 => h.apart k h2 hk)).mono hN, hg, fun k hk1 hk => ?_, h.bel.trans (hc.below (by have := h.bel.size; have := h.b0; omega) (fun k hk e => by have := h.gy.foot_ge e; have := h.b2; omega)), h.b0, h.b1, h.b2⟩
  have hlt := h.gx.foot_lt hk1
  rcases hk with e | e
  · exact h.apart k hk1 (.inl e)
  · rcases hX k e with e2 | e2
    · exact h.apart k hk1 (.inr e2)
    · omega
end Two
theorem DoP.of_dlv {w w' : World} {A U gb N M : Nat} {X : Nat → Prop} {p : GP} {ops : List TOp} {m : GM} (h1 : Chg (Foot A U X) w w') (h2 : Gos w' A U X gb p ops m N M) : DoP w A U X gb p ops m N M w' := ⟨h1, X, fun j hj => .inl hj, h2⟩
/-- The calls on the nil gossip. -/
theorem fronts_same {ops : List TOp} {loc : Int} {cs cs' : List (TStamp × Int)} {f f' : List TTime} (hn : (cs.map Prod.fst).Nodup) (hn' : (cs'.map Prod.fst).Nodup) (he : cntC cs = cntC cs') (hf : IsFront (timesS ops loc (aliveC cs)) f) (hf' : IsFront (timesS ops loc (aliveC cs')) f') : f = f' :=
  (IsFront.congr (times_mem (fun s => by rw [alive_mem hn, alive_mem hn', he])) hf).unique hf'
theorem sameTimes_eq {w wA : World} {v v' : Value} {f : List TTime} {B B' : Nat} (h : OwnT wA B v f) (hb : Below wA.heap.size wA w) (h' : OwnT w B' v' f) : Calls Try.prog 15 #[v, v'] w fun e w' => e = .returned (.bool true) ∧ Below w.heap.size w w' := by
  obtain ⟨ao, cap, rfl, hs⟩ := OwnT.sla (w := w) (base := B) ⟨h.1.below hb (Nat.le_refl _), h.2⟩
  obtain ⟨bo, cb, rfl, hs'⟩ := h'.sla
  have := sameTimes_any f f ao bo cap cb w w.heap.size (Nat.le_refl _) hs hs'
  rw [sameTs_self] at this
  exact this
/-- A row of counts whose first i numbers have turned. -/
def RowB (wr : World) (a : Option Addr) (L : List TCount) (i lo hi : Nat) : Prop :=
  L = [] ∨ ∃ g cells, a = some ⟨g, 0, none⟩ ∧ Blk wr g cells 57 ∧ lo ≤ g ∧ g < hi ∧ L.length * 4 ≤ cells.size ∧ ∀ j (h : j < L.length), ∀ t, t < 4 → (t < 3 ∨ i ≤ j) → cells[j * 4 + t]? = (encK L[j])[t]?
theorem RowB.of_own {wr : World} {a : Option Addr} {n c lo : Nat} {L : List TCount} (h : OwnL encK wr lo 57 4 (.slice a n c) L) : RowB wr a L 0 lo wr.heap.size := by
  rcases h.form with ⟨_, e⟩ | ⟨g, cap, cells, e, h2, h3, h4, h5, h6, h7, h8⟩
  · exact .inl e
  · simp only [Value.slice.injEq] at e
    refine .inr ⟨g, cells, e.1, h2, h6, h7, by rw [h5]; omega, fun j hj t ht _ => ?_⟩
    have h9 := flat_at encK_len L j t hj ht
    rw [← h8, List.getElem?_take, if_pos (by omega)] at h9
    simpa using h9
theorem RowB.chg {wr w' : World} {a : Option Addr} {L : List TCount} {i lo hi : Nat} {S : Nat → Prop} (h : RowB wr a L i lo hi) (hc : Chg S wr w') (hS : ∀ g, lo ≤ g → g < hi → ¬ S g) : RowB w' a L i lo hi := by
  rcases h with h | ⟨g, cells, h1, h2, h3, h4, h5, h6⟩
  · exact .inl h
  · exact .inr ⟨g, cells, h1, h2.chg hc (hS g h3 h4), h3, h4, h5, h6⟩
theorem RowB.at' {wr : World} {a : Option Addr} {L : List TCount} {i lo hi : Nat} (h : RowB wr a L i lo hi) {j : Nat} (hj : j < L.length) (hij : i ≤ j) : ∃ g, a = some ⟨g, 0, none⟩ ∧ lo ≤ g ∧ g < hi ∧ wr.cell? ⟨g, j * 4, none⟩ = some (.int .i64 L[j].fS.fLoc) ∧ wr.cell? ⟨g, j * 4 + 1, none⟩ = some (.int .i64 L[j].fS.fT.fEpoch) ∧ wr.cell? ⟨g, j * 4 + 2, none⟩ = some (.int .i64 L[j].fS.fT.fRound) ∧ wr.cell? ⟨g, j * 4 + 3, none⟩ = some (.int .i64 L[j].fN) ∧ (∀ o, wr.frozen? ⟨g, o, none⟩ = false) ∧ g < wr.heap.size ∧
    ∀ (w3 : World) (v : Value), RowB w3 a L i lo hi → RowB (w3.setCell ⟨g, i * 4 + 3, none⟩ v) a L (i + 1) lo hi := by
  rcases h with h | ⟨g, cells, h1, h2, h3, h4, h5, h6⟩
  · rw [h] at hj; simp at hj
  · refine ⟨g, h1, h3, h4, h2.cellAt (h6 j hj 0 (by omega) (.inl (by omega))), h2.cellAt (h6 j hj 1 (by omega) (.inl (by omega))), h2.cellAt (h6 j hj 2 (by omega) (.inl (by omega))), h2.cellAt (h6 j hj 3 (by omega) (.inr hij)), fun o => h2.frozen o, h2.lt, fun w3 v h => ?_⟩
    rcases h with h | ⟨g', cells', q1, q2, q3, q4, q5, q6⟩
    · exact .inl h
    · obtain rfl : g = g' := by rw [h1] at q1; simpa using q1
      refine .inr ⟨g, _, q1, q2.set (i * 4 + 3) v, q3, q4, by simpa using q5, fun j' hj' t ht hc => ?_⟩
      rw [Array.getElem?_setIfInBounds]
      by_cases e : i * 4 + 3 = j' * 4 + t
      · exfalso
        rcases hc with hc | hc
        · omega
        · omega
      · rw [if_neg e]
        exact q6 j' hj' t ht (by omega)
end Go.Proofs.Ytjmbafcpbagpdaa
