/- Model: what lies in memory while ModelSums walks. -/
import Derived.Test.YtbianedgogdeeaaNg
namespace Go.Proofs.Ytbianedgogdeeaa
open Go.RowKit Go.Maps Fold Go.Lib
set_option linter.unusedVariables false

def FS (T : TypeId) : Prop := T = 9 ∨ T = 45 ∨ T = 47
/-- What may turn: rows of texts, numbers, records. -/
def Tn (w : World) (S : Nat → Prop) : Prop := ∀ k, S k → ∃ cs T, Blk w k cs T ∧ FS T
theorem Tn.not {w : World} {S : Nat → Prop} (h : Tn w S) {b : Nat} {cs : Array Value} {T : TypeId} (hb : Blk w b cs T) (hT : ¬ FS T) : ¬ S b := fun hs => by
  obtain ⟨ds, U, h1, h2⟩ := h b hs
  have : T = U := by
    unfold Blk at h1 hb
    rw [h1] at hb
    simp only [Option.some.injEq, Obj.cells.injEq] at hb
    exact hb.2.1.symm
  exact hT (this ▸ h2)
theorem own_blkT {α : Type} {enc : α → List Value} {size base : Nat} {e : TypeId} {w : World} {v : Value} {xs : List α} (h : OwnL enc w base e size v xs) : ∀ g, v.ownBlock = some g → ∃ cs, Blk w g cs e := fun g hg => by
  rcases h.form with ⟨rfl, _⟩ | ⟨g', cap, cells, rfl, h2, _⟩
  · cases hg
  · simp only [Value.ownBlock, Option.some.injEq] at hg
    subst hg
    exact ⟨cells, h2⟩
theorem Tn.own {α : Type} {enc : α → List Value} {size base : Nat} {e : TypeId} {w : World} {v : Value} {xs : List α} (h : OwnL enc w base e size v xs) (he : FS e) : Tn w (fun k => v.ownBlock = some k) := fun k hk => by
  obtain ⟨cs, hb⟩ := own_blkT h k hk
  exact ⟨cs, e, hb, he⟩
theorem own_far {α β : Type} {e1 : α → List Value} {e2 : β → List Value} {w : World} {b1 b2 s1 s2 : Nat} {T1 T2 : TypeId} {v1 v2 : Value} {l1 : List α} {l2 : List β} (h1 : OwnL e1 w b1 T1 s1 v1 l1) (h2 : OwnL e2 w b2 T2 s2 v2 l2) (hT : T1 ≠ T2) : ∀ g, v1.ownBlock = some g → v2.ownBlock ≠ some g := fun g q1 q2 => by
  obtain ⟨cells, p2⟩ := own_blkT h2 g q2
  exact h1.ne_blk p2 hT q1
theorem StO.chgT {w w' : World} {base : Nat} {sv : Value} {st : ST} {S : Nat → Prop} (h : StO w base sv st) (hc : Chg S w w') (hS : Tn w S) : StO w' base sv st := by
  rcases h with h | ⟨nr, ns, rfl, hB, h1, hl, h0, hr⟩
  · exact .inl h
  · refine .inr ⟨nr, ns, rfl, hB.chg hc (hS.not hB (by unfold FS; decide)), h1, hl, h0, fun j hj => ?_⟩
    obtain ⟨v, h2, h3⟩ := hr j hj
    exact ⟨v, h2, h3.chg hc (fun g e => by
      obtain ⟨cs, hb⟩ := own_blkT h3 g e
      exact hS.not hb (by unfold FS; decide))⟩
theorem SvB.chgT {w w' : World} {base zb n sc : Nat} {so : Option Addr} {st : ST} {S : Nat → Prop} (h : SvB w base zb so n sc st) (hc : Chg S w w') (hS : Tn w S) : SvB w' base zb so n sc st :=
  ⟨h.box.chg hc (hS.not h.box (by unfold FS; decide)), h.own.chgT hc hS⟩
theorem EpB.chgT {w wr w' : World} {xb ob i1 i2 : Nat} {arg : Int} {S : Nat → Prop} (h : EpB w wr xb ob i1 i2 arg) (hc : Chg S wr w') (hS : Tn wr S) (hb : Below w.heap.size w w') : EpB w w' xb ob i1 i2 arg :=
  ⟨hb, h.box.chg hc (hS.not h.box (by unfold FS; decide)), ⟨h.sums.ops.chg hc (hS.not h.sums.ops (by unfold FS; decide)), h.sums.in1.chg hc (hS.not h.sums.in1 (by unfold FS; decide)), h.sums.in2.chg hc (hS.not h.sums.in2 (by unfold FS; decide)), h.sums.b0, h.sums.b1, h.sums.b2⟩⟩

theorem own_setG {α : Type} {enc : α → List Value} {size base g n cap : Nat} {e : TypeId} {w : World} {xs : List α} (h : OwnL enc w base e size (.slice (some ⟨g, 0, none⟩) n cap) xs) (hk : ∀ x, (enc x).length = size) {i j : Nat} (hi : i < xs.length) (hj : j < size) {x' : α} {c : Value} (hx : enc x' = (enc xs[i]).set j c) :
    OwnL enc (w.setCell ⟨g, i * size + j, none⟩ c) base e size (.slice (some ⟨g, 0, none⟩) n cap) (xs.set i x') := by
  rcases h.form with ⟨h1, _⟩ | ⟨g', cap', cells, h1, h2, h3, h4, h5, h6, h7, h8⟩
  · cases h1
  · simp only [Value.slice.injEq, Option.some.injEq, Addr.mk.injEq] at h1
    obtain ⟨⟨rfl, _⟩, rfl, rfl⟩ := h1
    have := ownBlk (enc := enc) (size := size) (xs := xs.set i x') (h2.set (i * size + j) c) h6 (by rw [List.length_set]; exact h3) h4 (by simpa using h5) (by rw [List.length_set, flat_set hk hj xs i hi hx, ← h8, Array.toList_setIfInBounds, List.take_set]) (flat_len hk _)
    rwa [List.length_set] at this
theorem own_cellG {α : Type} {enc : α → List Value} {size base g n cap : Nat} {e : TypeId} {w : World} {xs : List α} (h : OwnL enc w base e size (.slice (some ⟨g, 0, none⟩) n cap) xs) (hk : ∀ x, (enc x).length = size) {i : Nat} (hi : i < xs.length) : (∀ j, j < size → w.cell? ⟨g, i * size + j, none⟩ = (enc xs[i])[j]?) ∧ ∀ k, w.frozen? ⟨g, k, none⟩ = false := by
  rcases h.form with ⟨h1, _⟩ | ⟨g', cap', cells, h1, h2, h3, h4, h5, h6, h7, h8⟩
  · cases h1
  · simp only [Value.slice.injEq, Option.some.injEq, Addr.mk.injEq] at h1
    obtain ⟨⟨rfl, _⟩, rfl, rfl⟩ := h1
    refine ⟨fun j hj => ?_, fun k => h2.frozen k⟩
    have hm1 : (i + 1) * size ≤ xs.length * size := Nat.mul_le_mul_right size hi
    have hm2 : (i + 1) * size = i * size + size := Nat.succ_mul i size
    rw [h2.cell, ← flat_at hk xs i j hi hj, ← h8, List.getElem?_take, if_pos (by omega)]
    simp
abbrev OwnT' (w : World) (base : Nat) (v : Value) (l : List ByteArray) : Prop := OwnL encT w base 9 1 v l
abbrev OwnU' (w : World) (base : Nat) (v : Value) (l : List Nat) : Prop := OwnL encV w base 45 1 v l
structure Sm (w wr : World) (gx ob i1 i2 sb : Nat) (so : Option Addr) (sc : Nat) (K : PRS) (kv uv cv lv : Value) (keys : List ByteArray) (sums : List Nat) (came : List ByteArray) (l : List TRecord) : Prop where
  ep : EpB w wr gx ob i1 i2 0
  sv : SvB wr w.heap.size sb so 3 sc [[], K, []]
  ks : OwnT' wr w.heap.size kv keys
  us : OwnU' wr w.heap.size uv sums
  cs : OwnT' wr w.heap.size cv came
  ls : OwnD wr w.heap.size lv l
  ap : ∀ g, kv.ownBlock = some g → cv.ownBlock ≠ some g
namespace Sm
variable {w wr w' : World} {gx ob i1 i2 sb : Nat} {so : Option Addr} {sc : Nat} {K : PRS} {kv uv cv lv : Value} {keys : List ByteArray} {sums : List Nat} {came : List ByteArray} {l : List TRecord}
theorem below (h : Sm w wr gx ob i1 i2 sb so sc K kv uv cv lv keys sums came l) (hb : Below wr.heap.size wr w') : Sm w w' gx ob i1 i2 sb so sc K kv uv cv lv keys sums came l :=
  ⟨h.ep.below hb, h.sv.below hb, h.ks.below hb (Nat.le_refl _), h.us.below hb (Nat.le_refl _), h.cs.below hb (Nat.le_refl _), h.ls.below hb (Nat.le_refl _), h.ap⟩
theorem belg {v v' : Value} (h : Below w.heap.size w wr) (hg : Grew wr v w' v') (hv : ∀ g, v.ownBlock = some g → w.heap.size ≤ g ∧ g < wr.heap.size) : Below w.heap.size w w' :=
  h.grown hg.grown h.size (fun g e => (hv g e).1)
theorem putL (h : Sm w wr gx ob i1 i2 sb so sc K kv uv cv lv keys sums came l) {lv' : Value} {l' : List TRecord} (hg : Grew wr lv w' lv') (hown : OwnD w' w.heap.size lv' l') : Sm w w' gx ob i1 i2 sb so sc K kv uv cv lv' keys sums came l' := by
  have hc := Chg.of_grown hg.grown
  have hS : Tn wr (fun k => lv.ownBlock = some k) := Tn.own h.ls (.inr (.inr rfl))
  exact ⟨h.ep.chgT hc hS (belg h.ep.bel hg h.ls.lt), h.sv.chgT hc hS, h.ks.chg hc (fun g e => own_far h.ks h.ls (by decide) g e), h.us.chg hc (fun g e => own_far h.us h.ls (by decide) g e), h.cs.chg hc (fun g e => own_far h.cs h.ls (by decide) g e), hown, h.ap⟩
theorem putU (h : Sm w wr gx ob i1 i2 sb so sc K kv uv cv lv keys sums came l) {uv' : Value} {sums' : List Nat} (hg : Grew wr uv w' uv') (hown : OwnU' w' w.heap.size uv' sums') : Sm w w' gx ob i1 i2 sb so sc K kv uv' cv lv keys sums' came l := by
  have hc := Chg.of_grown hg.grown
  have hS : Tn wr (fun k => uv.ownBlock = some k) := Tn.own h.us (.inr (.inl rfl))
  exact ⟨h.ep.chgT hc hS (belg h.ep.bel hg h.us.lt), h.sv.chgT hc hS, h.ks.chg hc (fun g e => own_far h.ks h.us (by decide) g e), hown, h.cs.chg hc (fun g e => own_far h.cs h.us (by decide) g e), h.ls.chg hc (fun g e => own_far h.ls h.us (by decide) g e), h.ap⟩
theorem putK (h : Sm w wr gx ob i1 i2 sb so sc K kv uv cv lv keys sums came l) {kv' : Value} {keys' : List ByteArray} (hg : Grew wr kv w' kv') (hown : OwnT' w' w.heap.size kv' keys') : Sm w w' gx ob i1 i2 sb so sc K kv' uv cv lv keys' sums came l := by
  have hc := Chg.of_grown hg.grown
  have hS : Tn wr (fun k => kv.ownBlock = some k) := Tn.own h.ks (.inl rfl)
  refine ⟨h.ep.chgT hc hS (belg h.ep.bel hg h.ks.lt), h.sv.chgT hc hS, hown, h.us.chg hc (fun g e => own_far h.us h.ks (by decide) g e), h.cs.chg hc (fun g e e2 => h.ap g e2 e), h.ls.chg hc (fun g e => own_far h.ls h.ks (by decide) g e), fun g e e2 => ?_⟩
  rcases hg.place with hp | ⟨q, hq, hql⟩
  · exact h.ap g (by rw [← hp]; exact e) e2
  · rw [hq] at e
    simp only [Option.some.injEq] at e
    have := (h.cs.lt g e2).2
    omega
theorem putC (h : Sm w wr gx ob i1 i2 sb so sc K kv uv cv lv keys sums came l) {cv' : Value} {came' : List ByteArray} (hg : Grew wr cv w' cv') (hown : OwnT' w' w.heap.size cv' came') : Sm w w' gx ob i1 i2 sb so sc K kv uv cv' lv keys sums came' l := by
  have hc := Chg.of_grown hg.grown
  have hS : Tn wr (fun k => cv.ownBlock = some k) := Tn.own h.cs (.inl rfl)
  refine ⟨h.ep.chgT hc hS (belg h.ep.bel hg h.cs.lt), h.sv.chgT hc hS, h.ks.chg hc (fun g e => h.ap g e), h.us.chg hc (fun g e => own_far h.us h.cs (by decide) g e), hown, h.ls.chg hc (fun g e => own_far h.ls h.cs (by decide) g e), fun g e e2 => ?_⟩
  rcases hg.place with hp | ⟨q, hq, hql⟩
  · exact h.ap g e (by rw [← hp]; exact e2)
  · rw [hq] at e2
    simp only [Option.some.injEq] at e2
    have := (h.ks.lt g e).2
    omega
/-- A sum is written over. -/
theorem setU {ug n cap : Nat} (h : Sm w wr gx ob i1 i2 sb so sc K kv (.slice (some ⟨ug, 0, none⟩) n cap) cv lv keys sums came l) {j : Nat} (hj : j < sums.length) (a : Nat) : Sm w (wr.setCell ⟨ug, j, none⟩ (.int .u32 (a : Nat))) gx ob i1 i2 sb so sc K kv (.slice (some ⟨ug, 0, none⟩) n cap) cv lv keys (sums.set j a) came l := by
  have hc : Chg (fun k => (Value.slice (some ⟨ug, 0, none⟩) n cap).ownBlock = some k) wr (wr.setCell ⟨ug, j, none⟩ (.int .u32 (a : Nat))) := (Chg.refl _ _).setCell _ _ (fun _ => rfl)
  have hS : Tn wr (fun k => (Value.slice (some ⟨ug, 0, none⟩) n cap).ownBlock = some k) := Tn.own h.us (.inr (.inl rfl))
  have hown : OwnU' (wr.setCell ⟨ug, j, none⟩ (.int .u32 (a : Nat))) w.heap.size (.slice (some ⟨ug, 0, none⟩) n cap) (sums.set j a) := by
    have h1 := own_setG h.us encV_len hj (j := 0) (by omega) (x' := a) (c := .int .u32 (a : Nat)) rfl
    simpa using h1
  exact ⟨h.ep.chgT hc hS (h.ep.bel.setCell (h.us.lt ug rfl).1 _), h.sv.chgT hc hS, h.ks.chg hc (fun g e => own_far h.ks h.us (by decide) g e), hown, h.cs.chg hc (fun g e => own_far h.cs h.us (by decide) g e), h.ls.chg hc (fun g e => own_far h.ls h.us (by decide) g e), h.ap⟩
end Sm
end Go.Proofs.Ytbianedgogdeeaa
