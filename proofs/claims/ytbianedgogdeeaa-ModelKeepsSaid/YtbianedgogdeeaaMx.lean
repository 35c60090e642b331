/- Model: the order of records never counts (ModelOrders). -/
import Derived.Test.YtbianedgogdeeaaMw
namespace Go.Proofs.Ytbianedgogdeeaa
open Go.RowKit Go.Maps Fold Go.Lib
attribute [local go_sem] Oper.semAt_some
set_option linter.unusedVariables false
set_option linter.unusedSimpArgs false

theorem encD_len (r : TRecord) : (encD r).length = 5 := rfl
theorem encD_one (r : TRecord) : ∀ u ∈ encD r, u.oneCell' = true := by
  intro u hu
  simp only [encD, List.mem_cons, List.not_mem_nil, or_false] at hu
  rcases hu with rfl | rfl | rfl | rfl | rfl <;> rfl
theorem infoD : (Try.prog.info? 47).map (fun i => (i.zero, i.size, i.bytes)) = some (some (.agg #[.int .i64 0, .int .i64 0, .int .i64 0, .string ⟨#[]⟩, .int .u32 0]), 5, 48) := by kernel_rfl
theorem partsD : ∃ i, Try.prog.info? 47 = some i ∧ i.zero = some (.agg #[.int .i64 0, .int .i64 0, .int .i64 0, .string ⟨#[]⟩, .int .u32 0]) ∧ i.size = 5 ∧ i.bytes = 48 := infoParts infoD
abbrev OwnD (w : World) (base : Nat) (v : Value) (l : List TRecord) : Prop := OwnL encD w base 47 5 v l
theorem flat_set {α : Type} {enc : α → List Value} {size : Nat} (hk : ∀ x, (enc x).length = size) {j : Nat} (hj : j < size) : ∀ (xs : List α) (i : Nat) (hi : i < xs.length) {x' : α} {c : Value}, enc x' = (enc xs[i]).set j c → (xs.set i x').flatMap enc = (xs.flatMap enc).set (i * size + j) c
  | [], i, hi, _, _, _ => absurd hi (Nat.not_lt_zero _)
  | x :: r, 0, hi, x', c, hx => by
    rw [List.set_cons_zero, List.flatMap_cons, List.flatMap_cons, List.set_append_left _ _ (by rw [hk, Nat.zero_mul, Nat.zero_add]; exact hj), Nat.zero_mul, Nat.zero_add]
    rw [show enc x' = (enc x).set j c from hx]
  | x :: r, i + 1, hi, x', c, hx => by
    rw [List.set_cons_succ, List.flatMap_cons, List.flatMap_cons, flat_set hk hj r i (by simpa using hi) hx, List.set_append_right _ _ (by rw [hk, Nat.succ_mul]; omega)]
    congr 2
    rw [hk, Nat.succ_mul]
    omega
theorem own_setD {base g n cap : Nat} {w : World} {xs : List TRecord} (h : OwnD w base (.slice (some ⟨g, 0, none⟩) n cap) xs) {i j : Nat} (hi : i < xs.length) (hj : j < 5) {x' : TRecord} {c : Value} (hx : encD x' = (encD xs[i]).set j c) :
    OwnD (w.setCell ⟨g, i * 5 + j, none⟩ c) base (.slice (some ⟨g, 0, none⟩) n cap) (xs.set i x') := by
  rcases h.form with ⟨h1, _⟩ | ⟨g', cap', cells, h1, h2, h3, h4, h5, h6, h7, h8⟩
  · cases h1
  · simp only [Value.slice.injEq, Option.some.injEq, Addr.mk.injEq] at h1
    obtain ⟨⟨rfl, _⟩, rfl, rfl⟩ := h1
    have := ownBlk (enc := encD) (size := 5) (xs := xs.set i x') (h2.set (i * 5 + j) c) h6 (by rw [List.length_set]; exact h3) h4 (by simpa using h5) (by rw [List.length_set, flat_set encD_len hj xs i hi hx, ← h8, Array.toList_setIfInBounds, List.take_set]) (flat_len encD_len _)
    rwa [List.length_set] at this
theorem own_cellD {base g n cap : Nat} {w : World} {xs : List TRecord} (h : OwnD w base (.slice (some ⟨g, 0, none⟩) n cap) xs) {i : Nat} (hi : i < xs.length) : (∀ j, j < 5 → w.cell? ⟨g, i * 5 + j, none⟩ = (encD xs[i])[j]?) ∧ ∀ k, w.frozen? ⟨g, k, none⟩ = false := by
  rcases h.form with ⟨h1, _⟩ | ⟨g', cap', cells, h1, h2, h3, h4, h5, h6, h7, h8⟩
  · cases h1
  · simp only [Value.slice.injEq, Option.some.injEq, Addr.mk.injEq] at h1
    obtain ⟨⟨rfl, _⟩, rfl, rfl⟩ := h1
    refine ⟨fun j hj => ?_, fun k => h2.frozen k⟩
    rw [h2.cell, ← flat_at encD_len xs i j hi hj, ← h8, List.getElem?_take, if_pos (by omega)]
    simp
/-- A whole record is written over. -/
theorem own_putD {base g n cap : Nat} {w : World} {xs : List TRecord} (h : OwnD w base (.slice (some ⟨g, 0, none⟩) n cap) xs) {i : Nat} (hi : i < xs.length) (r : TRecord) :
    OwnD (((((w.setCell ⟨g, i * 5, none⟩ (.int .i64 r.fProducer)).setCell ⟨g, i * 5 + 1, none⟩ (.int .i64 r.fSeq)).setCell ⟨g, i * 5 + 2, none⟩ (.int .i64 r.fPart)).setCell ⟨g, i * 5 + 3, none⟩ (.string r.fKey)).setCell ⟨g, i * 5 + 4, none⟩ (.int .u32 r.fVal)) base (.slice (some ⟨g, 0, none⟩) n cap) (xs.set i r) := by
  obtain ⟨⟨x0, x1, x2, x3, x4⟩, hx⟩ : ∃ x, x = xs[i] := ⟨_, rfl⟩
  have e1 := own_setD h hi (j := 0) (by omega) (x' := ⟨r.fProducer, x1, x2, x3, x4⟩) (c := .int .i64 r.fProducer) (by rw [← hx]; rfl)
  rw [Nat.add_zero] at e1
  have e2 := own_setD e1 (i := i) (by rw [List.length_set]; exact hi) (j := 1) (by omega) (x' := ⟨r.fProducer, r.fSeq, x2, x3, x4⟩) (c := .int .i64 r.fSeq) (by rw [List.getElem_set_self]; rfl)
  rw [List.set_set] at e2
  have e3 := own_setD e2 (i := i) (by rw [List.length_set]; exact hi) (j := 2) (by omega) (x' := ⟨r.fProducer, r.fSeq, r.fPart, x3, x4⟩) (c := .int .i64 r.fPart) (by rw [List.getElem_set_self]; rfl)
  rw [List.set_set] at e3
  have e4 := own_setD e3 (i := i) (by rw [List.length_set]; exact hi) (j := 3) (by omega) (x' := ⟨r.fProducer, r.fSeq, r.fPart, r.fKey, x4⟩) (c := .string r.fKey) (by rw [List.getElem_set_self]; rfl)
  rw [List.set_set] at e4
  have e5 := own_setD e4 (i := i) (by rw [List.length_set]; exact hi) (j := 4) (by omega) (x' := r) (c := .int .u32 r.fVal) (by rw [List.getElem_set_self]; rfl)
  rw [List.set_set] at e5
  exact e5
theorem below_putD {g i : Nat} {B : Nat} {w0 w : World} (hb : Below B w0 w) (hg : B ≤ g) (a b c d e : Value) :
    Below B w0 (((((w.setCell ⟨g, i * 5, none⟩ a).setCell ⟨g, i * 5 + 1, none⟩ b).setCell ⟨g, i * 5 + 2, none⟩ c).setCell ⟨g, i * 5 + 3, none⟩ d).setCell ⟨g, i * 5 + 4, none⟩ e) := by
  have h1 := hb.setCell (p := ⟨g, i * 5, none⟩) hg a
  have h2 := h1.setCell (p := ⟨g, i * 5 + 1, none⟩) hg b
  have h3 := h2.setCell (p := ⟨g, i * 5 + 2, none⟩) hg c
  have h4 := h3.setCell (p := ⟨g, i * 5 + 3, none⟩) hg d
  exact h4.setCell (p := ⟨g, i * 5 + 4, none⟩) hg e

/-- What Run hands back, as it reads. -/
theorem RunPost.read {w w' : World} {R : PRS × ST × Nat} {e : Ending} (h : RunPost w R e w') : ∃ ao ac so sc, e = .returned (.tuple #[.slice ao R.1.length ac, .agg #[.slice so R.2.1.length sc], .int .i64 (R.2.2 : Nat)]) ∧ PrA w'.heap.size w' ao ac R.1 ∧ StA w' w'.heap.size so sc R.2.1 ∧ Below w.heap.size w w' := by
  obtain ⟨v, sv, rfl, h1, h2, h3⟩ := h
  obtain ⟨ao, ac, rfl, h4⟩ := OwnR.pra h1
  obtain ⟨so, sc, rfl, h5⟩ := h2.sta
  exact ⟨ao, ac, so, sc, rfl, h4, h5, h3⟩
theorem recs_sla {w : World} {B : Nat} {ao : Option Addr} {cap : Nat} {recs : List TRecord} (h : SlA B 5 (RRecord B) w ao cap recs) : SlA B 5 (fun _ cs r => cs = encD r) w ao cap recs ∧ ∀ r ∈ recs, wfD r :=
  ⟨h.imp (Below.refl _ _) (Nat.le_refl _) (fun cs x _ h => h.enc.1), fun r hr => by
    obtain ⟨cs, h1⟩ := SlA.all h r hr
    exact h1.enc.2⟩
theorem own_recs {w : World} {base : Nat} {v : Value} {l : List TRecord} (h : OwnD w base v l) (hw : ∀ r ∈ l, wfD r) : ∃ ao cap, v = .slice ao l.length cap ∧ SlA w.heap.size 5 (RRecord w.heap.size) w ao cap l :=
  h.sla encD_len (fun x hx => encD_r (hw x hx))
end Go.Proofs.Ytbianedgogdeeaa
