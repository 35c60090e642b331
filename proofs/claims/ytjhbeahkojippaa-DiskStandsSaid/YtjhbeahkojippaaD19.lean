/- Disk: two pairs of disks beside each other; DiskCopies. -/
import Derived.Test.YtjhbeahkojippaaD18
namespace Go.Proofs.Ytjhbeahkojippaa
open Go.RowKit Go.Maps
attribute [local go_sem] Oper.semAt_some
set_option linter.unusedVariables false
set_option linter.unusedSimpArgs false

theorem Rf.noU8 {w : World} {base mb : Nat} {r : RX} {M : DM} (h : Rf w base mb r M) : ∀ k, RS r mb k → ∀ cs, ¬ Blk w k cs 5 := fun k hk cs hb => by
  obtain ⟨cs2, T, hb2, hT⟩ := h.types k hk
  unfold Blk at hb hb2
  rw [hb] at hb2
  simp at hb2
  rcases hT with rfl | rfl <;> exact absurd hb2.2 (by decide)
/-- The document's disk stays where another one's own blocks turn. -/
theorem Rf.keep2 {w w' : World} {base mb : Nat} {r : RX} {M : DM} {S : Nat → Prop} (h : Rf w base mb r M) (hc : Chg S w w') (hS : ∀ k, S k → ¬ RS r mb k ∧ ∀ cs T, Blk w k cs T → T ≠ 83 ∧ T ≠ 5) : Rf w' base mb r M := by
  have hrow : ∀ {v : Value} {l : List (ByteArray × FV)}, FlAt w base v l → FlAt w' base v l := fun ho => ho.chg hc (fun g e s => by
    rcases ho.form with ⟨h1, _⟩ | ⟨g', cap, cells, h1, h2, _⟩
    · rw [h1] at e; cases e
    · rw [h1] at e
      obtain rfl : g' = g := by simpa [Value.ownBlock] using e
      exact ((hS g' s).2 _ _ h2).1 rfl)
  have hU : ∀ k, S k → ∀ cs, ¬ Blk w k cs 5 := fun k hk cs hb => ((hS k hk).2 cs _ hb).2 rfl
  exact ⟨h.blk.chg hc (fun s => (hS _ s).1 (.inl rfl)), hrow h.now, hrow h.safe, h.row.chg hc (fun g e s => (hS g s).1 (.inr e)),
    fun p hp => (h.filn p hp).chg hc hU, fun p hp => (h.fils p hp).chg hc hU, fun c hc3 => (h.filc c hc3).chg hc hU, h.nq, h.sq, h.chq, h.bb⟩
theorem Rf.types2 {w : World} {base mb : Nat} {r : RX} {M : DM} (h : Rf w base mb r M) : ∀ k, RS r mb k → ∀ cs T, Blk w k cs T → T ≠ 83 ∧ T ≠ 5 := fun k hk cs T hb => by
  obtain ⟨cs2, T2, hb2, hT⟩ := h.types k hk
  unfold Blk at hb hb2
  rw [hb] at hb2
  simp at hb2
  obtain ⟨_, rfl⟩ := hb2
  rcases hT with rfl | rfl <;> exact ⟨by decide, by decide⟩
theorem Dsk.types2 {w : World} {base b : Nat} {x : DX} {M : DM} (h : Dsk w base b x M) : ∀ k, DS x b k → ∀ cs T, Blk w k cs T → T ≠ 83 ∧ T ≠ 5 := fun k hk cs T hb => by
  rcases h.types k hk cs T hb with rfl | rfl <;> exact ⟨by decide, by decide⟩

/-- A disk, the document's, and another one of the document's. -/
structure Tri (w : World) (base b mb nb : Nat) (x : DX) (r r2 : RX) (M M2 : DM) : Prop where
  d : Dsk w base b x M
  m : Rf w base mb r M
  n : Rf w base nb r2 M2
  rr : ∀ k, RS r mb k → ¬ RS r2 nb k
section
variable {w w' : World} {base b mb nb cb : Nat} {x x2 : DX} {r r2 : RX} {M M' M2 M2' : DM}
theorem Both.chg2 (h : Both w base b mb x r M' M2' w') (hD : Dsk w base b x M) (hR : Rf w base mb r M2) (hb : base ≤ w.heap.size) : Below base w w' := by
  obtain ⟨_, _, _, _, hc, _, _⟩ := h
  exact hc.below hb (fun k hk e => by
    rcases e with e | e
    · have := hD.base_le k e; omega
    · have := hR.base_le k e; omega)
theorem Tri.step (h : Tri w base b mb nb x r r2 M M2) (hb : Both w base b mb x r M' M' w') : ∃ x' r', Tri w' base b mb nb x' r' r2 M' M2 := by
  obtain ⟨x', r', hD, hR, hc, hn1, hn2⟩ := hb
  refine ⟨x', r', hD, hR, h.n.keep2 hc (fun k hk => ?_), fun k hk hk2 => ?_⟩
  · rcases hk with hk | hk
    · exact ⟨sides h.d h.n k hk, h.d.types2 k hk⟩
    · exact ⟨h.rr k hk, h.m.types2 k hk⟩
  · rcases hn2 k hk with h3 | h3
    · exact h.rr k h3 hk2
    · have := h.n.lt k hk2; omega
theorem Tri.twin (h : Tri w base b mb nb x r r2 M M2) (hs : RStep w base nb r2 M2' w') : ∃ r2', Tri w' base b mb nb x r r2' M M2' := by
  obtain ⟨r', hR, hc, hn⟩ := hs
  refine ⟨r', h.d.keepR h.n hc, h.m.keep2 hc (fun k hk => ⟨fun e => h.rr k e hk, h.n.types2 k hk⟩), hR, fun k hk hk2 => ?_⟩
  rcases hn k hk2 with h3 | h3
  · exact h.rr k hk h3
  · have := h.m.lt k hk; omega
theorem Tri.below (h : Tri w base b mb nb x r r2 M M2) (hb : Below w.heap.size w w') : Tri w' base b mb nb x r r2 M M2 := ⟨h.d.below hb, h.m.below hb, h.n.below hb, h.rr⟩
end
/-- Two pairs. -/
structure Quad (w : World) (base b mb cb nb : Nat) (x : DX) (r : RX) (M : DM) (x2 : DX) (r2 : RX) (M2 : DM) : Prop where
  d : Dsk w base b x M
  m : Rf w base mb r M
  c : Dsk w base cb x2 M2
  n : Rf w base nb r2 M2
  dd : ∀ k, DS x b k → ¬ DS x2 cb k
  rr : ∀ k, RS r mb k → ¬ RS r2 nb k
namespace Quad
variable {w w' : World} {base b mb nb cb : Nat} {x x2 : DX} {r r2 : RX} {M M' M2 M2' : DM}
theorem swap (h : Quad w base b mb cb nb x r M x2 r2 M2) : Quad w base cb nb b mb x2 r2 M2 x r M := ⟨h.c, h.n, h.d, h.m, fun k h1 h2 => h.dd k h2 h1, fun k h1 h2 => h.rr k h2 h1⟩
theorem below (h : Quad w base b mb cb nb x r M x2 r2 M2) (hb : Below w.heap.size w w') : Quad w' base b mb cb nb x r M x2 r2 M2 := ⟨h.d.below hb, h.m.below hb, h.c.below hb, h.n.below hb, h.dd, h.rr⟩
theorem step (h : Quad w base b mb cb nb x r M x2 r2 M2) (hb : Both w base b mb x r M' M' w') : ∃ x' r', Quad w' base b mb cb nb x' r' M' x2 r2 M2 := by
  obtain ⟨x', r', hD, hR, hc, hn1, hn2⟩ := hb
  refine ⟨x', r', hD, hR, h.c.keep hc (fun k hk hk2 => ?_) (fun k hk => ?_), h.n.keep2 hc (fun k hk => ?_), fun k hk hk2 => ?_, fun k hk hk2 => ?_⟩
  · rcases hk with hk | hk
    · exact h.dd k hk hk2
    · exact sides h.c h.m k hk2 hk
  · rcases hk with hk | hk
    · exact h.d.noU8 k hk
    · exact h.m.noU8 k hk
  · rcases hk with hk | hk
    · exact ⟨sides h.d h.n k hk, h.d.types2 k hk⟩
    · exact ⟨h.rr k hk, h.m.types2 k hk⟩
  · rcases hn1 k hk with h3 | h3
    · exact h.dd k h3 hk2
    · have := h.c.lt k hk2; omega
  · rcases hn2 k hk with h3 | h3
    · exact h.rr k h3 hk2
    · have := h.n.lt k hk2; omega
end Quad
/-- The i-th step of a script, as a call of 'step' finds it. -/
def StepAt (w : World) (B b off : Nat) (i : Nat) (s : SM) (dl pl : Nat) (da : Option Addr) (dc : Nat) (pa : Option Addr) (pc : Nat) : Prop :=
  dl = s.data.length ∧ pl = s.picks.length ∧ s.name.size ≤ maxLen ∧ SlA B 1 EU w da dc s.data ∧ SlA B 1 (RI .i64) w pa pc s.picks ∧ s.data.length ≤ 140737488355328
theorem SlA.stepAt2 {B : Nat} {w : World} {ao : Option Addr} {cap : Nat} {xs : List SM} (h : SlA B 5 (StP B) w ao cap xs) {i : Nat} (hi : i < xs.length) :
    ∃ b off s dl pl da dc pa pc, ao = some ⟨b, off, none⟩ ∧ b < B ∧ w.cell? ⟨b, off + i * 5, none⟩ = some (.int .i64 s.kind) ∧ w.cell? ⟨b, off + i * 5 + 1, none⟩ = some (.string s.name) ∧ w.cell? ⟨b, off + i * 5 + 2, none⟩ = some (.int .i64 s.pos) ∧ w.cell? ⟨b, off + i * 5 + 3, none⟩ = some (.slice da dl dc) ∧ w.cell? ⟨b, off + i * 5 + 4, none⟩ = some (.slice pa pl pc) ∧
      Hid (s = xs[i]) ∧ Hid (StepAt w B b off i s dl pl da dc pa pc) := by
  obtain ⟨b, off, rfl, hb, _⟩ := h.addr (by omega)
  obtain ⟨da, dc, pa, pc, e0, e1, e2, e3, e4, h1, h2, h3, h4⟩ := SlA.stepAt h hi
  exact ⟨b, off, xs[i], _, _, da, dc, pa, pc, rfl, hb, e0, e1, e2, e3, e4, Lib.hid rfl, Lib.hid ⟨rfl, rfl, h1, h2, h3, h4⟩⟩
theorem StepAt.call {base b mb : Nat} {x : DX} {r : RX} {M M2 : DM} {N : Nat} {w w' : World} {sb so i : Nat} {s : SM} {dl pl : Nat} {da : Option Addr} {dc : Nat} {pa : Option Addr} {pc : Nat} (h : StepAt w base sb so i s dl pl da dc pa pc) (hw : Below base w w') (hD : Dsk w' base b x M) (hR : Rf w' base mb r M2) (hok : OkM N M) (hok2 : OkM N M2) (hN : N ≤ 1000000) (hb : base ≤ w'.heap.size) :
    Calls Try.prog 15 #[.pointer (some ⟨b, 0, none⟩), .pointer (some ⟨mb, 0, none⟩), .agg #[.int .i64 s.kind, .string s.name, .int .i64 s.pos, .slice da dl dc, .slice pa pl pc]] w' fun e w'' =>
      (∃ ok, e = .returned (.bool ok) ∧ (M = M2 → ok = true)) ∧ Both w' base b mb x r (stepM s M) (stepM s M2) w'' := by
  obtain ⟨rfl, rfl, h1, h2, h3, h4⟩ := h
  exact step_any s da dc pa pc w' h1 hD hR hok hok2 hN hb (h2.imp hw (Nat.le_refl _) (fun cs x _ h => h)) h4 (h3.imp hw (Nat.le_refl _) (fun cs x _ h => h))
theorem StepAt.twin {base mb : Nat} {r : RX} {M : DM} {N : Nat} {w w' : World} {sb so i : Nat} {s : SM} {dl pl : Nat} {da : Option Addr} {dc : Nat} {pa : Option Addr} {pc : Nat} (h : StepAt w base sb so i s dl pl da dc pa pc) (hw : Below base w w') (hR : Rf w' base mb r M) (hok : OkM N M) (hN : N ≤ 1000000) (hb : base ≤ w'.heap.size) :
    Calls Try.prog 28 #[.pointer (some ⟨mb, 0, none⟩), .agg #[.int .i64 s.kind, .string s.name, .int .i64 s.pos, .slice da dl dc, .slice pa pl pc]] w' fun e w'' =>
      (∃ v, e = .returned v) ∧ RStep w' base mb r (stepM s M) w'' := by
  obtain ⟨rfl, rfl, h1, h2, h3, h4⟩ := h
  exact twin_any s da dc pa pc w' h1 hR hok hN hb (h2.imp hw (Nat.le_refl _) (fun cs x _ h => h)) h4 (h3.imp hw (Nat.le_refl _) (fun cs x _ h => h))
end Go.Proofs.Ytjhbeahkojippaa
