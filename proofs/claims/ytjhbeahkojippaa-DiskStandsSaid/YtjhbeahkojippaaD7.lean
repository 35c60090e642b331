/- Disk: the document's disk: its steps; Write. -/
import Derived.Test.YtjhbeahkojippaaD6
namespace Go.Proofs.Ytjhbeahkojippaa
open Go.RowKit Go.Maps
attribute [local go_sem] Oper.semAt_some
set_option linter.unusedVariables false
set_option linter.unusedSimpArgs false

def RS (r : RX) (mb k : Nat) : Prop := k = mb ∨ r.cv.ownBlock = some k
/-- Rows of two types lie apart. -/
theorem own_apart {α β : Type} {e1 : α → List Value} {e2 : β → List Value} {w : World} {b1 b2 s1 s2 : Nat} {T1 T2 : TypeId} {v1 v2 : Value} {l1 : List α} {l2 : List β} (h1 : OwnL e1 w b1 T1 s1 v1 l1) (h2 : OwnL e2 w b2 T2 s2 v2 l2) (hT : T1 ≠ T2) : ∀ g, v1.ownBlock = some g → v2.ownBlock ≠ some g := fun g q1 q2 => by
  rcases h2.form with ⟨p1, _⟩ | ⟨g', cap, cells, p1, p2, _⟩
  · rw [p1] at q2; cases q2
  · rw [p1] at q2
    obtain rfl : g' = g := by simpa [Value.ownBlock] using q2
    exact h1.ne_blk p2 hT q1
namespace Rf
variable {w w1 : World} {base mb : Nat} {r : RX} {M : DM}
theorem setNow (h : Rf w base mb r M) {nv' : Value} {l : List (ByteArray × FV)} {L : Files} (hl : FlAt w base nv' l) (hf : ∀ p ∈ l, FileAt w base p.2.v p.2.bs) (hq : mapL FV.bs l = L) :
    Rf (w.setCell ⟨mb, 2, none⟩ nv') base mb { r with nv := nv', now := l } { M with now := L } := by
  have hc : Chg (fun k => k = mb) w (w.setCell ⟨mb, 2, none⟩ nv') := (Chg.refl _ _).setCell _ _ (fun _ => rfl)
  have hU : ∀ k, k = mb → ∀ cs, ¬ Blk w k cs 5 := fun k hk cs hb => by
    have hb1 := h.blk
    rw [hk] at hb
    unfold Blk at hb hb1
    rw [hb1] at hb
    simp at hb
  exact ⟨by simpa using h.blk.set 2 nv', hl.chg hc (fun g e1 e2 => hl.ne_blk h.blk (by decide) (by rw [e1, e2])), h.safe.chg hc (fun g e1 e2 => h.safe.ne_blk h.blk (by decide) (by rw [e1, e2])), h.row.chg hc (fun g e1 e2 => h.row.ne_blk h.blk (by decide) (by rw [e1, e2])),
    fun p hp => (hf p hp).chg hc hU, fun p hp => (h.fils p hp).chg hc hU, fun c hc3 => (h.filc c hc3).chg hc hU, hq, h.sq, h.chq, h.bb⟩
theorem push (h : Rf w base mb r M) {v' : Value} {c : CH} (hg : Grew w r.cv w1 v') (hown : OwnL encC w1 base 91 4 v' (r.chs ++ [c])) (hfc : FileAt w1 base c.d.v c.d.bs) :
    Rf (w1.setCell ⟨mb, 4, none⟩ v') base mb { r with cv := v', chs := r.chs ++ [c] } { M with chs := M.chs ++ [c.abs] } := by
  have hc1 : Chg (fun k => r.cv.ownBlock = some k) w w1 := Chg.of_grown hg.grown
  have hb1 : Blk w1 mb #[.int .i64 M.room, .bool M.fails, r.nv, r.sv, r.cv] 45 := h.blk.chg hc1 (fun e => h.row.ne_blk h.blk (by decide) e)
  have hn1 : FlAt w1 base r.nv r.now := h.now.chg hc1 (fun g e s => own_apart h.row h.now (by decide) g s e)
  have hs1 : FlAt w1 base r.sv r.safe := h.safe.chg hc1 (fun g e s => own_apart h.row h.safe (by decide) g s e)
  have hU1 : ∀ k, r.cv.ownBlock = some k → ∀ cs, ¬ Blk w k cs 5 := fun k hk cs hb => h.row.ne_blk hb (by decide) hk
  have hc : Chg (fun k => k = mb) w1 (w1.setCell ⟨mb, 4, none⟩ v') := (Chg.refl _ _).setCell _ _ (fun _ => rfl)
  have hU : ∀ k, k = mb → ∀ cs, ¬ Blk w1 k cs 5 := fun k hk cs hb => by
    have hb2 := hb1
    rw [hk] at hb
    unfold Blk at hb hb2
    rw [hb2] at hb
    simp at hb
  refine ⟨by simpa using hb1.set 4 v', hn1.chg hc (fun g e1 e2 => hn1.ne_blk hb1 (by decide) (by rw [e1, e2])), hs1.chg hc (fun g e1 e2 => hs1.ne_blk hb1 (by decide) (by rw [e1, e2])), hown.chg hc (fun g e1 e2 => hown.ne_blk hb1 (by decide) (by rw [e1, e2])),
    fun p hp => ((h.filn p hp).chg hc1 hU1).chg hc hU, fun p hp => ((h.fils p hp).chg hc1 hU1).chg hc hU, fun c2 hc3 => ?_, h.nq, h.sq, by simp [h.chq], h.bb⟩
  rcases List.mem_append.1 hc3 with hc3 | hc3
  · exact ((h.filc c2 hc3).chg hc1 hU1).chg hc hU
  · obtain rfl : c2 = c := by simpa using hc3
    exact hfc.chg hc hU
theorem lt (h : Rf w base mb r M) : ∀ k, RS r mb k → k < w.heap.size := by
  rintro k (rfl | hk)
  · exact h.blk.lt
  · exact (h.row.lt k hk).2
theorem base_le (h : Rf w base mb r M) : ∀ k, RS r mb k → base ≤ k := by
  rintro k (rfl | hk)
  · exact h.bb
  · exact (h.row.lt k hk).1
theorem len_now (h : Rf w base mb r M) {N : Nat} (hok : OkM N M) : r.now.length ≤ N := by
  have := congrArg List.length h.nq
  simp only [mapL, List.length_map] at this
  have := hok.ln
  omega
theorem get_now (h : Rf w base mb r M) (s : ByteArray) : getL M.now s = (getL r.now s).map FV.bs := by rw [← h.nq, getL_map]
theorem file_now (h : Rf w base mb r M) (s : ByteArray) : (fileOf r.now s).bs = bytesOf M.now s := by
  unfold fileOf bytesOf
  rw [h.get_now]
  cases getL r.now s <;> rfl
end Rf
/-- What a call does to the document's disk. -/
def RStep (w : World) (base mb : Nat) (r : RX) (M' : DM) (w' : World) : Prop :=
  ∃ r', Rf w' base mb r' M' ∧ Chg (RS r mb) w w' ∧ ∀ k, RS r' mb k → RS r mb k ∨ w.heap.size ≤ k
theorem RStep.same {w w' : World} {base mb : Nat} {r : RX} {M : DM} (h : Rf w base mb r M) (hb : Below w.heap.size w w') : RStep w base mb r M w' :=
  ⟨r, h.below hb, (Chg.of_below hb).mono (fun k hk h2 => by omega), fun k hk => .inl hk⟩
theorem RStep.then {w w1 w2 : World} {base mb : Nat} {r r1 r2 : RX} {M2 : DM} (h1 : Chg (RS r mb) w w1) (h1' : ∀ k, RS r1 mb k → RS r mb k ∨ w.heap.size ≤ k) (h2 : Rf w2 base mb r2 M2) (hc : Chg (RS r1 mb) w1 w2) (h2' : ∀ k, RS r2 mb k → RS r1 mb k ∨ w1.heap.size ≤ k) : RStep w base mb r M2 w2 := by
  have hs := h1.size
  refine ⟨r2, h2, h1.then_new hc (fun i hi t => ?_), fun k hk => ?_⟩
  · rcases h1' i t with h | h
    · exact h
    · omega
  · rcases h2' k hk with h | h
    · exact h1' k h
    · exact .inr (by omega)
theorem rpush_chg {w w1 : World} {mb : Nat} {r : RX} {v' : Value} {u : Value} (hg : Grew w r.cv w1 v') : Chg (RS r mb) w (w1.setCell ⟨mb, 4, none⟩ u) :=
  ((Chg.of_grown hg.grown).mono (fun k _ e => .inr e)).setCell _ _ (fun _ => .inl rfl)
theorem rpush_rs {w w1 : World} {mb : Nat} {r r' : RX} {v' : Value} (hg : Grew w r.cv w1 v') (h3 : r'.cv = v') : ∀ k, RS r' mb k → RS r mb k ∨ w.heap.size ≤ k := by
  rintro k (h | h)
  · exact .inl (.inl h)
  · rw [h3] at h
    rcases hg.place with e | ⟨g, e, hl⟩
    · exact .inl (.inr (by rw [← e]; exact h))
    · rw [e] at h
      cases h
      exact .inr hl
theorem infoRc : (Try.prog.info? 91).map (fun i => (i.zero, i.size, i.bytes)) = some (some (.agg #[.int .i64 0, .string ⟨#[]⟩, .int .i64 0, .slice none 0 0]), 4, 56) := by kernel_rfl
theorem partsRc : ∃ i, Try.prog.info? 91 = some i ∧ i.zero = some (.agg #[.int .i64 0, .string ⟨#[]⟩, .int .i64 0, .slice none 0 0]) ∧ i.size = 4 ∧ i.bytes = 56 := infoParts infoRc
end Go.Proofs.Ytjhbeahkojippaa
