/- Gossip: one tracker is told something; one way turns. -/
import Derived.Test.YtjmbafcpbagpdaaJ2
namespace Go.Proofs.Ytjmbafcpbagpdaa
open Go.RowKit Go.Shelf Go.Maps
set_option linter.unusedVariables false
set_option linter.unusedSimpArgs false

theorem gcells_at (p : GP) (n : Nat) (ws : List Value) (i : Nat) : (gcells p n ws)[3 + i]? = ws[i]? := by
  unfold gcells
  rw [List.getElem?_toArray, show 3 + i = i + 1 + 1 + 1 by omega]
  simp
theorem gcells_set (p : GP) (n : Nat) (ws : List Value) (i : Nat) (v : Value) : (gcells p n ws).setIfInBounds (3 + i) v = gcells p n (ws.set i v) := by
  unfold gcells
  rw [List.setIfInBounds_toArray, show 3 + i = i + 1 + 1 + 1 by omega]
  simp
theorem TrF.mono {w : World} {base tb : Nat} {x : TrX} {ops : List TOp} {c : CF} {N N' : Nat} (h : TrF w base tb x ops c N) (hN : N ≤ N') : TrF w base tb x ops c N' := by
  obtain ⟨cs, h1, h2, h3⟩ := h
  exact ⟨cs, h1, h2, by omega⟩
namespace Gos
variable {w w' : World} {A U gb N M : Nat} {X : Nat → Prop} {p : GP} {ops : List TOp} {m : GM}
/-- Tracker i is told l. -/
theorem upd (h : Gos w A U X gb p ops m N M) {i : Nat} (hi : i ≤ m.n) {cs cs' : List (TStamp × Int)} {l : List TCount} {N' : Nat} (hc : Chg (fun k => k = (p.tp i).x.mb) w w') (h0 : cntC cs = m.c i) (hN : N ≤ N') (hT : Tr w' (p.tp i).base (p.tp i).tb (p.tp i).x ops cs') (hcnt : ∀ s, cntC cs' s = wrap64 (cntC cs s + totC l s)) (hlen : cs'.length ≤ N') :
    Gos w' A U X gb p ops ⟨m.n, fun j => if j = i then addF (m.c i) l else m.c j, m.wy⟩ N' M := by
  have hs := hc.size
  obtain ⟨ws, b1, b2⟩ := h.blk
  obtain ⟨cs2, v1, v2⟩ := h.vws
  obtain ⟨g1, g2, g3, g4⟩ := h.inG
  obtain ⟨t1, t2, t3⟩ := h.trs i hi
  have hiA := h.inT i hi
  have hbm := hT.bmb
  have hmU : (p.tp i).x.mb < U := by omega
  refine ⟨h.n1, h.n8, ⟨ws, b1.chg hc (fun e => h.dg i hi ⟨by omega, by omega⟩), ⟨b2.len, fun j v hv => (b2.at' j v hv).chg hc (fun b hb e => by have := (h.xU b hb).1; omega), b2.ne⟩⟩, ⟨cs2, v1.chg hc (fun e => h.dv i hi ⟨by omega, by omega⟩), v2⟩, h.gr.chg hc (fun k hk e => by have := h.dtr i hi; omega), fun j hj => ?_, h.dis, h.dg, h.dv, h.dgr, h.dtr, h.inT, h.inG, fun k hk => ⟨(h.xU k hk).1, by have := (h.xU k hk).2; omega⟩, by have := h.uw; omega, h.ok⟩
  show TrI w' (p.tp j) ops (if j = i then addF (m.c i) l else m.c j) N'
  by_cases e : j = i
  · subst e
    rw [if_pos rfl]
    exact ⟨⟨cs', hT, funext fun s => by rw [hcnt s, h0]; rfl, hlen⟩, t2, t3⟩
  · rw [if_neg e]
    obtain ⟨u1, u2, u3⟩ := h.trs j hj
    refine ⟨(u1.chgR hc (fun k hk e2 => ?_) u2 u3).mono (by omega), u2, u3⟩
    rcases Nat.lt_or_gt_of_ne e with x | x
    · have := h.dis j i x hi; omega
    · have := h.dis i j x hj; omega
/-- Way i0 turns: its row (and what is new) may turn, then its cell. -/
theorem setWay (h : Gos w A U X gb p ops m N M) {ws : List Value} (hB : Blk w gb (gcells p m.n ws) 72) (hW : Ways w U X ws m.wy M) {i0 : Nat} {v v' : Value} (hi : i0 < 64) (hv : ws[i0]? = some v) {S : Nat → Prop} {w3 : World} (hc : Chg S w w3) (hS : ∀ k, S k → v.ownBlock = some k)
    {X' : Nat → Prop} (hX : ∀ k, X k → X' k) (hX' : ∀ k, X' k → X k ∨ (w.heap.size ≤ k ∧ k < w3.heap.size)) {Ls : List (List TCount)} (hN : WayV w3 U X' v' Ls M) (hp : ∀ g, v'.ownBlock = some g → v.ownBlock = some g ∨ w.heap.size ≤ g) :
    Gos (w3.setCell ⟨gb, 3 + i0, none⟩ v') A U X' gb p ops ⟨m.n, m.c, fun i => if i = i0 then Ls else m.wy i⟩ N M := by
  obtain ⟨g1, g2, g3, g4⟩ := h.inG
  have hvw := hW.at' i0 v hv
  have hvX : ∀ k, v.ownBlock = some k → U ≤ k ∧ k < w.heap.size := hvw.lt
  have huw := h.uw
  have hs := hc.size
  have hB3 : Blk w3 gb (gcells p m.n ws) 72 := hB.chg hc (fun e => by have := hvX _ (hS _ e); omega)
  have hB4 := hB3.set (3 + i0) v'
  rw [gcells_set] at hB4
  have hc4 : Chg (fun k => v.ownBlock = some k ∨ k = gb) w (w3.setCell ⟨gb, 3 + i0, none⟩ v') := (hc.mono (fun k _ e => .inl (hS k e))).setCell ⟨gb, 3 + i0, none⟩ v' (fun _ => .inr rfl)
  have hc34 : Chg (fun k => k = gb) w3 (w3.setCell ⟨gb, 3 + i0, none⟩ v') := (Chg.refl (fun k => k = gb) w3).setCell ⟨gb, 3 + i0, none⟩ v' (fun _ => rfl)
  have hs4 := hc4.size
  obtain ⟨cs2, v1, v2⟩ := h.vws
  have hXU : ∀ k, X' k → U ≤ k ∧ k < (w3.setCell ⟨gb, 3 + i0, none⟩ v').heap.size := fun k hk => by
    have := hc34.size
    rcases hX' k hk with e | e
    · have := h.xU k e; omega
    · omega
  refine ⟨h.n1, h.n8, ⟨ws.set i0 v', hB4, ⟨by rw [List.length_set]; exact hW.len, fun i u hu => ?_, fun i j a b g hij ha hb hg => ?_⟩⟩, ⟨cs2, v1.chg hc4 (fun e => by
      rcases e with e | e
      · have := hvX _ e; omega
      · exact h.dgr.2.2 e.symm), v2⟩, h.gr.chg hc4 (fun k hk e => by
      rcases hk with hk | rfl
      · have := hvX _ hk; omega
      · exact h.dgr.1 e), fun i hi => ?_, h.dis, h.dg, h.dv, h.dgr, h.dtr, h.inT, h.inG, hXU, by omega, h.ok⟩
  · show WayV _ U X' u (if i = i0 then Ls else m.wy i) M
    rw [List.getElem?_set] at hu
    by_cases e : i0 = i
    · subst e
      rw [if_pos rfl, if_pos (by rw [hW.len]; exact hi)] at hu
      cases hu
      rw [if_pos rfl]
      exact hN.chg hc34 (fun b hb e => by
        have := hXU b hb
        omega)
    · rw [if_neg e] at hu
      rw [if_neg (fun x => e x.symm)]
      refine ((hW.at' i u hu).chg2 hc4 (fun b hb hk => ?_) (fun b hk => ?_)).sub hX
      · rcases hk with hk | rfl
        · exact hW.ne i0 i v u b e hv hu hk hb
        · have := (hW.at' i u hu).lt _ hb; omega
      · rintro ⟨cells, hcells⟩
        rcases hk with hk | rfl
        · obtain ⟨_, ps, o1, _⟩ := hvw
          exact o1.ne_blk hcells (by decide) hk
        · unfold Blk at hB hcells
          rw [hB] at hcells
          simp only [Option.some.injEq, Obj.cells.injEq] at hcells
          exact absurd hcells.2.1 (by decide)
  · rw [List.getElem?_set] at ha hb
    by_cases ei : i0 = i
    · subst ei
      rw [if_pos rfl, if_pos (by rw [hW.len]; exact hi)] at ha
      cases ha
      rw [if_neg hij] at hb
      rcases hp g hg with e | e
      · exact hW.ne i0 j v b g hij hv hb e
      · intro e2
        have := (hW.at' j b hb).lt g e2
        omega
    · rw [if_neg ei] at ha
      by_cases ej : i0 = j
      · subst ej
        rw [if_pos rfl, if_pos (by rw [hW.len]; exact hi)] at hb
        cases hb
        intro e2
        have hgl := (hW.at' i a ha).lt g hg
        rcases hp g e2 with e | e
        · exact hW.ne i0 i v a g ei hv ha e hg
        · omega
      · rw [if_neg ej] at hb
        exact hW.ne i j a b g hij ha hb hg
  · obtain ⟨u1, u2, u3⟩ := h.trs i hi
    refine ⟨u1.chgR hc4 (fun k hk e => ?_) u2 u3, u2, u3⟩
    rcases hk with hk | rfl
    · have := hvX _ hk
      have := h.inT i hi
      omega
    · exact h.dg i hi e
end Gos
end Go.Proofs.Ytjmbafcpbagpdaa
