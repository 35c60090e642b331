/- Disk: the chapter's example. -/
import Derived.Test.YtjgiphoolfhlmaaDl
import Derived.Laws.BytesString
import Derived.Laws.IdiomStrings
namespace Go.Proofs.Ytjgiphoolfhlmaa
open Go.RowKit Go.Maps
attribute [local go_sem] Oper.semAt_some
set_option linter.unusedVariables false
set_option linter.unusedSimpArgs false

def strU (bs : List UInt8) : ByteArray := ⟨bs.toArray⟩
theorem strU_inj {a b : List UInt8} (h : strU a = strU b) : a = b := by
  unfold strU at h
  injection h with h
  simpa using h
theorem strU_eq (a b : List UInt8) : ((strU a).toList == (strU b).toList) = decide (a = b) := by
  rw [str_eq]
  apply decide_eq_decide.2
  exact ⟨strU_inj, fun h => by rw [h]⟩
/-- Bytes as a text. -/
theorem textU {B : Nat} {w : World} {ao : Option Addr} {cap : Nat} {bs : List UInt8} (h : SlA B 1 EU w ao cap bs) : (convert 44 9 (.slice ao bs.length cap)).run Try.prog w = .ok (.string (strU bs)) w := by
  cases ao with
  | none =>
    obtain rfl : cap = 0 := h.2.2.1 rfl
    obtain rfl : bs = [] := List.length_eq_zero_iff.1 (by have := h.1; omega)
    rw [List.length_nil, run_convert_bytes_string w _ _ _ none 0 0 Try.underlying44 Try.underlying5 Try.underlying9]
    rfl
  | some a =>
    refine run_convert_bytes_back (P := Try.prog) w 44 9 _ a cap bs Try.underlying44 Try.underlying5 Try.underlying9 (fun j hj => ?_)
    obtain ⟨b, off, he, _, _⟩ := h.addr (by omega)
    cases he
    exact slaU_cells h bs.length j _ (by unfold cellsU; rw [List.take_length, List.getElem?_map, List.getElem?_eq_getElem hj]; rfl)
/-- Bytes that are built. -/
theorem sla_lit {w : World} {g : Nat} {cells : Array Value} {bs : List UInt8} (h : Blk w g cells 5) (hc : cells.toList = cellsU bs) (hm : bs.length ≤ maxLen) : SlA w.heap.size 1 EU w (some ⟨g, 0, none⟩) bs.length bs :=
  slaf (f := ⟨some ⟨g, 0, none⟩, bs.length, bs⟩) (FileAt.of_blk (base := g) h (Nat.le_refl _) hc hm)
theorem DStep.to {w w' : World} {base b : Nat} {x : DX} {M M' : DM} (h : Dsk w base b x M) (hs : DStep w base b x M' w') (hb : base ≤ w.heap.size) : ∃ x', Dsk w' base b x' M' ∧ Below base w w' := by
  obtain ⟨x', h1, h2, h3, _⟩ := hs
  exact ⟨x', h1, h2.below hb (fun k hk e => by have := h.base_le k e; omega)⟩
section
variable {base b : Nat} {x : DX} {M M' : DM} {N : Nat}
theorem write_ok (e0 : Nat) (s : ByteArray) (n : Int) (da : Option Addr) (dc : Nat) (db : List UInt8) (w : World) (hs : s.size ≤ maxLen) (h : Dsk w base b x M) (hok : OkM N M) (hN : N ≤ 1000000) (hb : base ≤ w.heap.size) (hd : SlA w.heap.size 1 EU w da dc db) (hdz : db.length ≤ 140737488355328) (hm : writeM M s n db = (e0, M')) :
    Calls Try.prog 24 #[.pointer (some ⟨b, 0, none⟩), .string s, .int .i64 n, .slice da db.length dc] w fun e w' => e = .returned (.int .i64 e0) ∧ ∃ x', Dsk w' base b x' M' ∧ Below base w w' := by
  refine (write_any s n da dc db w hs h hok hN hb hd hdz).mono ?_
  rintro e w' ⟨rfl, hst⟩
  rw [hm] at hst ⊢
  exact ⟨rfl, hst.to h hb⟩
theorem sync_ok (e0 : Nat) (s : ByteArray) (w : World) (hs : s.size ≤ maxLen) (h : Dsk w base b x M) (hok : OkM N M) (hN : N ≤ 1000000) (hb : base ≤ w.heap.size) (hm : syncM M s = (e0, M')) :
    Calls Try.prog 26 #[.pointer (some ⟨b, 0, none⟩), .string s] w fun e w' => e = .returned (.int .i64 e0) ∧ ∃ x', Dsk w' base b x' M' ∧ Below base w w' := by
  refine (sync_any s w hs h hok hN hb).mono ?_
  rintro e w' ⟨rfl, hst⟩
  rw [hm] at hst ⊢
  exact ⟨rfl, hst.to h hb⟩
theorem crash_ok (picks : List Int) (pa : Option Addr) (pc : Nat) (w : World) (h : Dsk w base b x M) (hok : OkM N M) (hN : N ≤ 1000000) (hb : base ≤ w.heap.size) (hpk : SlA w.heap.size 1 (RI .i64) w pa pc picks) :
    Calls Try.prog 11 #[.pointer (some ⟨b, 0, none⟩), .slice pa picks.length pc] w fun e w' => (∃ v, e = .returned v) ∧ ∃ x', Dsk w' base b x' (crashM M picks) ∧ Below base w w' := by
  refine (crash_any picks pa pc w h hok hN hb hpk).mono ?_
  rintro e w' ⟨he, x', h1, h2, h3, h4, _⟩
  exact ⟨he, DStep.to h ⟨x', h1, h2, h3, h4⟩ hb⟩
theorem OkM.empty (r : Int) (h0 : 0 ≤ r) (h1 : r ≤ 1073741824) : OkM 0 (emptyM r) := by
  refine ⟨⟨h0, h1⟩, List.Pairwise.nil, List.Pairwise.nil, fun p hp => ?_, fun p hp => ?_, fun c hc => ?_, Nat.le_refl _, Nat.le_refl _⟩
  · cases hp
  · cases hp
  · cases hc
end

def sA : ByteArray := ⟨#[97]⟩
theorem right_a : rightN sA = true := by
  unfold rightN sA
  rw [ByteArray.toList_eq]
  decide
def M1 : DM := ⟨100, false, [(sA, [120, 121, 122])], [], [⟨0, sA, 0, [120, 121, 122]⟩]⟩
def M2 : DM := ⟨100, false, [(sA, [120, 121, 122])], [(sA, [120, 121, 122])], []⟩
def M3 : DM := ⟨100, false, [(sA, [120, 49, 50])], [(sA, [120, 121, 122])], [⟨0, sA, 1, [49, 50]⟩]⟩
theorem less_self (s : ByteArray) : Op.bytesLess s.toList s.toList = false := less_irr _
theorem m1 : writeM (emptyM 100) sA 0 [120, 121, 122] = (0, M1) := by
  have hr : readyM (emptyM 100) sA 0 = 0 := by unfold readyM; simp [emptyM, right_a]
  unfold writeM
  rw [hr]
  simp [emptyM, bytesOf, getL, withL, sumL, overB, M1]
theorem m2 : syncM M1 sA = (0, M2) := by
  have hr : readyM M1 sA 0 = 0 := by unfold readyM; simp [M1, right_a]
  unfold syncM
  rw [hr]
  simp [getL, withL, leftC, M1, M2]
theorem m3 : writeM M2 sA 1 [49, 50] = (0, M3) := by
  have hr : readyM M2 sA 1 = 0 := by unfold readyM; simp [M2, right_a]
  unfold writeM
  rw [hr]
  simp [bytesOf, getL, withL, sumL, overB, M2, M3, less_self]
theorem m4 : bytesOf (crashM M3 [1]).now sA = [120, 49, 122] ∧ (getL (crashM M3 [1]).now sA).isSome = true ∧ (crashM M3 [1]).chs.length = 0 := by
  simp [crashM, M3, fallsM, fallM, pickM, bytesOf, getL, withL, overB, less_self]
end Go.Proofs.Ytjgiphoolfhlmaa
