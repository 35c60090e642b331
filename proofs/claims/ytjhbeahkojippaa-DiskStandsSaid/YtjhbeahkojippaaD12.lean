/- Disk: the document's disk: Crash: what its walk wants. -/
import Derived.Test.YtjhbeahkojippaaD11
namespace Go.Proofs.Ytjhbeahkojippaa
open Go.RowKit Go.Maps
set_option linter.unusedVariables false

theorem fallsM_snoc (picks : List Int) (c : CM) : ∀ (j : Nat) (l : List CM) (S : Files), fallsM picks j (l ++ [c]) S = fallM (fallsM picks j l S) c (pickM picks (j + l.length))
  | _, [], S => rfl
  | j, d :: l, S => by
    show fallsM picks (j + 1) (l ++ [c]) (fallM S d (pickM picks j)) = _
    rw [fallsM_snoc picks c (j + 1) l, List.length_cons, show j + 1 + l.length = j + (l.length + 1) by omega]
    rfl
theorem fallsM_take (picks : List Int) (l : List CM) (S : Files) {i : Nat} (h : i < l.length) : fallsM picks 0 (l.take (i + 1)) S = fallM (fallsM picks 0 (l.take i) S) l[i] (pickM picks i) := by
  rw [List.take_succ_eq_append_getElem h, fallsM_snoc, List.length_take, Nat.min_eq_left (Nat.le_of_lt h), Nat.zero_add]
/-- How the files are bound in the midst of a crash. -/
theorem OkM.mid {N : Nat} {M : DM} (h : OkM N M) (picks : List Int) {i : Nat} (hi : i ≤ M.chs.length) : OkF (M.safe.length + i) (fallsM picks 0 (M.chs.take i) M.safe) := by
  have := OkF.falls picks (M.chs.take i) 0 M.safe.length ⟨h.safe, h.safen, Nat.le_refl _⟩ (fun c hc => ⟨(h.chn c (List.mem_of_mem_take hc)).2.1, (h.chn c (List.mem_of_mem_take hc)).2.2.1⟩)
  rwa [List.length_take, Nat.min_eq_left hi] at this
/-- A crash's end: the three stores. -/
theorem Rf.crash {w : World} {base mb : Nat} {r : RX} {M : DM} (h : Rf w base mb r M) :
    Rf (((w.setCell ⟨mb, 2, none⟩ r.sv).setCell ⟨mb, 4, none⟩ (.slice none 0 0)).setCell ⟨mb, 1, none⟩ (.bool false)) base mb { r with nv := r.sv, now := r.safe, cv := .slice none 0 0, chs := [] } { M with fails := false, now := M.safe, chs := [] } ∧
    Chg (fun k => k = mb) w (((w.setCell ⟨mb, 2, none⟩ r.sv).setCell ⟨mb, 4, none⟩ (.slice none 0 0)).setCell ⟨mb, 1, none⟩ (.bool false)) := by
  have hc : Chg (fun k => k = mb) w (((w.setCell ⟨mb, 2, none⟩ r.sv).setCell ⟨mb, 4, none⟩ (.slice none 0 0)).setCell ⟨mb, 1, none⟩ (.bool false)) := by
    have a1 : Chg (fun k => k = mb) w (w.setCell ⟨mb, 2, none⟩ r.sv) := (Chg.refl _ _).setCell _ _ (fun _ => rfl)
    have a2 : Chg (fun k => k = mb) w ((w.setCell ⟨mb, 2, none⟩ r.sv).setCell ⟨mb, 4, none⟩ (.slice none 0 0)) := a1.setCell _ _ (fun _ => rfl)
    exact a2.setCell _ _ (fun _ => rfl)
  have hU := h.noU
  have hs := h.safe.chg hc (fun g e1 e2 => h.safe.ne_blk h.blk (by decide) (by rw [e1, e2]))
  refine ⟨⟨by simpa using ((h.blk.set 2 r.sv).set 4 (.slice none 0 0)).set 1 (.bool false), hs, hs, OwnL.nil _ _ _ _ _, fun p hp => (h.fils p hp).chg hc hU, fun p hp => (h.fils p hp).chg hc hU, fun c hc3 => (by cases hc3), h.sq, h.sq, rfl, h.bb⟩, hc⟩
end Go.Proofs.Ytjhbeahkojippaa
