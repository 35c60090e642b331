/- Wire: wipe. -/
import Derived.Test.YthemljefmgphkaaWap
namespace Go.Proofs.Ythemljefmgphkaa
open Go.RowKit
set_option linter.unusedVariables false

/-- A list that wipe may go over: each row's last cell is such a list again. -/
def VL : Nat → (Nat → Prop) → World → Option Addr → Nat → Prop
  | 0, _, _, _, len => len = 0
  | d + 1, D, w, ao, len => len = 0 ∨ ∃ b, ao = some ⟨b, 0, none⟩ ∧ D b ∧ ∃ cells T, Blk w b cells T ∧ len * 4 ≤ cells.size ∧ ∀ i, i < len → ∃ (ao' : Option Addr) (len' cap' : Nat), cells[i * 4 + 3]? = some (.slice ao' len' cap') ∧ len' ≤ 9223372036854775807 ∧ VL d D w ao' len'
theorem VL.zero (d : Nat) (D : Nat → Prop) (w : World) (ao : Option Addr) : VL d D w ao 0 := by cases d <;> simp [VL]
theorem VL.of_items {D : Nat → Prop} {w : World} : ∀ {d : Nat} {ao : Option Addr} {cap : Nat} {l : List Itm}, RItsP d D w ao cap l → VL (d + 1) D w ao l.length
  | d, ao, cap, l, h => by
    rw [VL]
    by_cases hne : l = []
    · left; rw [hne]; rfl
    · obtain ⟨b, rfl, hb, ⟨cells, T, hk, hks⟩, h5⟩ := h.1.2.2.2 hne
      refine .inr ⟨b, rfl, hb, cells, T, hk, hks, fun i hi => ?_⟩
      obtain ⟨cs, h6, h7, h8⟩ := h5 i hi
      cases d with
      | zero => exact h8.elim
      | succ d =>
        obtain ⟨⟨k, n, s, r⟩, hx⟩ : ∃ x, l[i] = x := ⟨_, rfl⟩
        rw [hx] at h8
        obtain ⟨ao', cap', rfl, _, _, _, hl', hr⟩ := h8
        refine ⟨ao', r.length, cap', ?_, by omega, VL.of_items ⟨hr, hl'⟩⟩
        have := h7 3 (by omega)
        rw [hk.cell] at this
        simpa using this
def Pres (D : Nat → Prop) (w w' : World) : Prop := ∀ d ao len, VL d D w ao len → VL d D w' ao len
theorem Pres.refl (D : Nat → Prop) (w : World) : Pres D w w := fun _ _ _ h => h
theorem Pres.trans {D : Nat → Prop} {a b c : World} (h : Pres D a b) (k : Pres D b c) : Pres D a c := fun d ao len hv => k d ao len (h d ao len hv)

theorem set4_get (cells : Array Value) (r : Nat) (v0 v1 v2 v3 : Value) (h : r * 4 + 3 < cells.size) (i : Nat) :
    ((((cells.setIfInBounds (r * 4) v0).setIfInBounds (r * 4 + 1) v1).setIfInBounds (r * 4 + 2) v2).setIfInBounds (r * 4 + 3) v3)[i * 4 + 3]? = if i = r then some v3 else cells[i * 4 + 3]? := by
  by_cases hi : i = r
  · subst hi
    rw [if_pos rfl, Array.getElem?_setIfInBounds]
    simp
    omega
  · rw [if_neg hi, Array.getElem?_setIfInBounds, if_neg (by omega), Array.getElem?_setIfInBounds, if_neg (by omega), Array.getElem?_setIfInBounds, if_neg (by omega), Array.getElem?_setIfInBounds, if_neg (by omega)]

theorem pres_set {D : Nat → Prop} {w : World} {b r : Nat} {cells : Array Value} {T : TypeId} (hk : Blk w b cells T) (hr : r * 4 + 3 < cells.size) (v0 v1 v2 : Value) :
    Pres D w ((((w.setCell ⟨b, r * 4, none⟩ v0).setCell ⟨b, r * 4 + 1, none⟩ v1).setCell ⟨b, r * 4 + 2, none⟩ v2).setCell ⟨b, r * 4 + 3, none⟩ (.slice none 0 0)) := by
  intro d
  induction d with
  | zero => intro ao len h; rw [VL] at h ⊢; exact h
  | succ d ih =>
    intro ao len h
    rw [VL] at h ⊢
    rcases h with h | ⟨b', rfl, hb', cells', T', hk', hs', hel⟩
    · exact .inl h
    · right
      have hkn := (((hk.set (r * 4) v0).set (r * 4 + 1) v1).set (r * 4 + 2) v2).set (r * 4 + 3) (.slice none 0 0)
      by_cases hbb : b' = b
      · subst hbb
        have : cells' = cells ∧ T' = T := by
          unfold Blk at hk hk'
          rw [hk'] at hk
          simp only [Option.some.injEq, Obj.cells.injEq] at hk
          exact ⟨hk.1, hk.2.1⟩
        obtain ⟨rfl, rfl⟩ := this
        refine ⟨b', rfl, hb', _, _, hkn, by simpa using hs', fun i hi => ?_⟩
        rw [set4_get cells' r _ _ _ _ hr i]
        by_cases hir : i = r
        · exact ⟨none, 0, 0, by rw [if_pos hir], by omega, VL.zero _ _ _ _⟩
        · obtain ⟨ao', len', cap', h1, h2, h3⟩ := hel i hi
          exact ⟨ao', len', cap', by rw [if_neg hir]; exact h1, h2, ih _ _ h3⟩
      · refine ⟨b', rfl, hb', cells', T', (((hk'.set_other (p := ⟨b, _, none⟩) hbb _).set_other (p := ⟨b, _, none⟩) hbb _).set_other (p := ⟨b, _, none⟩) hbb _).set_other (p := ⟨b, _, none⟩) hbb _, hs', fun i hi => ?_⟩
        obtain ⟨ao', len', cap', h1, h2, h3⟩ := hel i hi
        exact ⟨ao', len', cap', h1, h2, ih _ _ h3⟩

set_option maxRecDepth 100000 in
set_option maxHeartbeats 4000000 in
theorem wipe_any : ∀ (d : Nat) (D : Nat → Prop) (ao : Option Addr) (len cap : Nat) (w : World), VL d D w ao len → len ≤ 9223372036854775807 →
    Calls Try.prog 23 #[.slice ao len cap] w fun e w' => e = .returned (.tuple #[]) ∧ Chg D w w' ∧ Pres D w w' := by
  intro d
  induction d with
  | zero =>
    intro D ao len cap w h hlen
    obtain rfl : len = 0 := h
    go_enter Try.func23, Try.ntmps23
    go_wp2_with fail
    go_loopw [2] (fun x2 wr => x2 = .int .i64 0 ∧ wr = w) (fun _ _ => 0)
    case atStart => exact ⟨rfl, rfl⟩
    case round =>
      obtain ⟨rfl, rfl⟩ := hrel
      go_wp2_with fail
      go_end0
      exact ⟨rfl, Chg.refl _ _, Pres.refl _ _⟩
  | succ d ih =>
    intro D ao len cap w h hlen
    go_enter Try.func23, Try.ntmps23
    go_wp2_with fail
    go_loopw [2] (fun x2 wr => ∃ k : Nat, k ≤ len ∧ x2 = .int .i64 k ∧ Chg D w wr ∧ Pres D w wr) (fun x2 _ => len - (intOf x2).toNat)
    case atStart => exact ⟨0, Nat.zero_le _, rfl, Chg.refl _ _, Pres.refl _ _⟩
    case round =>
      obtain ⟨k, hk, rfl, hch, hpr⟩ := hrel
      by_cases hlt : k < len
      · have hv := hpr _ _ _ h
        rw [VL] at hv
        obtain ⟨b, rfl, hb, cells, T, hkb, hks, hel⟩ := hv.resolve_left (by omega)
        obtain ⟨ao', len', cap', h1, h2, h3⟩ := hel k hlt
        have c3 : wr.cell? ⟨b, k * 4 + 3, none⟩ = some (.slice ao' len' cap') := by rw [hkb.cell]; exact h1
        have hcall := ih D ao' len' cap' wr h3 h2
        have hv0 := h
        clear hel hkb hks
        go_wp2_with (go_at_call 23; refine Shut.out ?kw)
        unfold Shut
        refine hcall.mono ?_
        rintro e w2 ⟨rfl, hch2, hpr2⟩
        dsimp only
        have hv := hpr2 _ _ _ (hpr _ _ _ h)
        rw [VL] at hv
        obtain ⟨b', hbe, hb', cells, T, hkb, hks, _⟩ := hv.resolve_left (by omega)
        cases hbe
        have hin : k * 4 + 3 < cells.size := by omega
        obtain ⟨v0, q0⟩ : ∃ v, w2.cell? ⟨b, k * 4, none⟩ = some v := ⟨cells[k * 4]'(by omega), by rw [hkb.cell]; exact Array.getElem?_eq_getElem _⟩
        obtain ⟨v1, q1⟩ : ∃ v, w2.cell? ⟨b, k * 4 + 1, none⟩ = some v := ⟨cells[k * 4 + 1]'(by omega), by rw [hkb.cell]; exact Array.getElem?_eq_getElem _⟩
        obtain ⟨v2, q2⟩ : ∃ v, w2.cell? ⟨b, k * 4 + 2, none⟩ = some v := ⟨cells[k * 4 + 2]'(by omega), by rw [hkb.cell]; exact Array.getElem?_eq_getElem _⟩
        obtain ⟨v3, q3⟩ : ∃ v, w2.cell? ⟨b, k * 4 + 3, none⟩ = some v := ⟨cells[k * 4 + 3], by rw [hkb.cell]; exact Array.getElem?_eq_getElem _⟩
        have f0 := hkb.frozen (k * 4)
        have f1 := hkb.frozen (k * 4 + 1)
        have f2 := hkb.frozen (k * 4 + 2)
        have f3 := hkb.frozen (k * 4 + 3)
        have hps := pres_set (D := D) hkb hin (.int .i64 (-1)) (.int .i64 0) (.string ⟨#[]⟩)
        have hcs : Chg D w ((((w2.setCell ⟨b, k * 4, none⟩ (.int .i64 (-1))).setCell ⟨b, k * 4 + 1, none⟩ (.int .i64 0)).setCell ⟨b, k * 4 + 2, none⟩ (.string ⟨#[]⟩)).setCell ⟨b, k * 4 + 3, none⟩ (.slice none 0 0)) :=
          ((((hch.trans hch2).setCell ⟨b, k * 4, none⟩ _ (fun _ => hb)).setCell ⟨b, k * 4 + 1, none⟩ _ (fun _ => hb)).setCell ⟨b, k * 4 + 2, none⟩ _ (fun _ => hb)).setCell ⟨b, k * 4 + 3, none⟩ _ (fun _ => hb)
        clear hkb hks hcall h3 h1 c3
        go_wp2_with fail
        go_roundw
        case rel => exact ⟨k + 1, by omega, rfl, hcs, (hpr.trans hpr2).trans hps⟩
        case measure => simp [intOf]; omega
      · go_wp2_with fail
        go_end0
        exact ⟨rfl, hch, hpr⟩
end Go.Proofs.Ythemljefmgphkaa
