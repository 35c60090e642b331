/- Progress: pointstamps as a map's keys; what a tracker is. -/
import Derived.Test.YtjmbafcpbagpdaaGreatL3
import Derived.Test.YtjmbafcpbagpdaaGreatTyReach

namespace Go.Proofs.YtjmbafcpbagpdaaGreat
open Go.RowKit Go.Maps
set_option linter.unusedVariables false
set_option linter.unusedSimpArgs false

theorem TStamp.ext' {a b : TStamp} (h0 : a.fLoc = b.fLoc) (h1 : a.fT.fEpoch = b.fT.fEpoch) (h2 : a.fT.fRound = b.fT.fRound) : a = b := by
  obtain ⟨l, e, r⟩ := a
  obtain ⟨l', e', r'⟩ := b
  simp only at h0 h1 h2
  subst h0 h1 h2
  rfl
instance : DecidableEq TStamp := fun a b => decidable_of_iff (a.fLoc = b.fLoc ∧ a.fT.fEpoch = b.fT.fEpoch ∧ a.fT.fRound = b.fT.fRound) ⟨fun ⟨h0, h1, h2⟩ => TStamp.ext' h0 h1 h2, fun h => by rw [h]; exact ⟨rfl, rfl, rfl⟩⟩

def mkS (s : TStamp) : Value := .agg #[.int .i64 s.fLoc, .int .i64 s.fT.fEpoch, .int .i64 s.fT.fRound]
def litsS (s : TStamp) : List Lit := [.int .i64 s.fLoc, .int .i64 s.fT.fEpoch, .int .i64 s.fT.fRound]
def klS (s : TStamp) : Lit := .string (keyBytes (litsS s))
def wfS (s : TStamp) : Prop := (Lit.int .i64 s.fLoc).wf = true ∧ (Lit.int .i64 s.fT.fEpoch).wf = true ∧ (Lit.int .i64 s.fT.fRound).wf = true

theorem laidOut0 : laidOutB Tryz.prog = true := by kernel_rfl
theorem size0 : ∃ d, Tryz.prog.types.size + 1 = d + 3 := ⟨Tryz.prog.types.size - 2, by
  have h : decide (2 ≤ Tryz.prog.types.size) = true := by kernel_rfl
  have := of_decide_eq_true h
  omega⟩
theorem cellsS : Tryz.prog.cellsOf 59 = 3 := by kernel_rfl
theorem cellsT : Tryz.prog.cellsOf 57 = 2 := by kernel_rfl
theorem cellsI : Tryz.prog.cellsOf 3 = 1 := by kernel_rfl
theorem keyLits_int (d : Nat) (v : Value) : Tryz.prog.keyLits (d + 1) 3 [v] = (match v with | .int q n => if q = .i64 ∧ (Lit.int .i64 n).wf = true then some [.int .i64 n] else none | _ => none) := by
  unfold Program.keyLits
  rw [Tryz.underlying3]
  cases v <;> rfl
set_option maxRecDepth 100000 in
theorem keyLits_time (d : Nat) (a b : Value) : Tryz.prog.keyLits (d + 2) 57 [a, b] = (Tryz.prog.keyLits (d + 1) 3 [a]).bind fun x => (Tryz.prog.keyLits (d + 1) 3 [b]).map fun y => x ++ y := by
  obtain ⟨X, hX⟩ : ∃ X, X = ((Tryz.prog.keyLits (d + 1) 3 [a]).bind fun x => (Tryz.prog.keyLits (d + 1) 3 [b]).map fun y => x ++ y) := ⟨_, rfl⟩
  rw [← hX]
  unfold Program.keyLits
  rw [Tryz.underlying57, hX]
  simp only [cellsT, cellsI, List.length_cons, List.length_nil, Array.toList, List.mapM_cons, List.mapM_nil, List.drop_zero, List.drop_succ_cons, List.take_succ_cons, List.take_zero]
  cases Tryz.prog.keyLits (d + 1) 3 [a] <;> cases Tryz.prog.keyLits (d + 1) 3 [b] <;> simp
set_option maxRecDepth 100000 in
theorem keyLits_stamp (d : Nat) (a b c : Value) : Tryz.prog.keyLits (d + 3) 59 [a, b, c] = (Tryz.prog.keyLits (d + 2) 3 [a]).bind fun x => (Tryz.prog.keyLits (d + 2) 57 [b, c]).map fun y => x ++ y := by
  obtain ⟨X, hX⟩ : ∃ X, X = ((Tryz.prog.keyLits (d + 2) 3 [a]).bind fun x => (Tryz.prog.keyLits (d + 2) 57 [b, c]).map fun y => x ++ y) := ⟨_, rfl⟩
  rw [← hX]
  unfold Program.keyLits
  rw [Tryz.underlying59, hX]
  simp only [cellsS, cellsT, cellsI, List.length_cons, List.length_nil, Array.toList, List.mapM_cons, List.mapM_nil, List.drop_zero, List.drop_succ_cons, List.take_succ_cons, List.take_zero]
  cases Tryz.prog.keyLits (d + 2) 3 [a] <;> cases Tryz.prog.keyLits (d + 2) 57 [b, c] <;> simp
set_option maxRecDepth 100000 in
theorem keyLits_len (d : Nat) (cs : List Value) {L : List Lit} (h : Tryz.prog.keyLits (d + 1) 59 cs = some L) : cs.length = 3 := by
  unfold Program.keyLits at h
  rw [Tryz.underlying59] at h
  simp only [cellsS] at h
  split at h
  · rename_i hc; exact hc.1
  · cases h
theorem keyLitsI {d : Nat} {v : Value} {L : List Lit} (h : Tryz.prog.keyLits (d + 1) 3 [v] = some L) : ∃ n, v = .int .i64 n ∧ L = [.int .i64 n] ∧ (Lit.int .i64 n).wf = true := by
  rw [keyLits_int] at h
  cases v <;> simp at h
  obtain ⟨⟨rfl, hw⟩, rfl⟩ := h
  exact ⟨_, rfl, rfl, hw⟩

theorem lawS : WideMaps.KeyLaw Tryz.prog 59 := deep_law_laid laidOut0 (m := 5) (by omega) (of_decide_eq_true (by kernel_rfl)) (by kernel_rfl) (by kernel_rfl)

set_option maxRecDepth 100000 in
theorem keyS : KeyL Tryz.prog 59 mkS klS wfS where
  law := lawS
  key := fun x ⟨h0, h1, h2⟩ => by
    obtain ⟨d, hd⟩ := size0
    have hk : Tryz.prog.keyType 59 = true := by kernel_rfl
    have hf : (mkS x).formed Tryz.prog 59 = true := by
      unfold mkS Value.formed
      rw [Tryz.underlying59]
      simp [cellsS]
    have hl : Tryz.prog.keyLits (Tryz.prog.types.size + 1) 59 (mkS x).cells.toList = some (litsS x) := by
      rw [hd]
      show Tryz.prog.keyLits (d + 3) 59 [_, _, _] = _
      rw [keyLits_stamp, keyLits_time, keyLits_int, keyLits_int, keyLits_int]
      simp [h0, h1, h2, litsS]
    unfold keyOf
    rw [Tryz.underlying59]
    simp only [hk, hf, hl, Bool.and_self, if_true, Option.map_some]
    rfl
  inv := fun v l h => by
    obtain ⟨xs, L, rfl, h1, rfl⟩ := keyOf_top (by kernel_rfl) h
    obtain ⟨d, hd⟩ := size0
    rw [hd] at h1
    have hlen := keyLits_len (d + 2) _ h1
    obtain ⟨cs⟩ := xs
    match cs, hlen, h1 with
    | [a, b, c], _, h1 =>
      have h1 : Tryz.prog.keyLits (d + 3) 59 [a, b, c] = some L := h1
      rw [keyLits_stamp, keyLits_time] at h1
      simp only [Option.bind_eq_some_iff, Option.map_eq_some_iff] at h1
      obtain ⟨x, hx, y, ⟨x1, hx1, y1, hy1, rfl⟩, rfl⟩ := h1
      obtain ⟨n0, rfl, rfl, w0⟩ := keyLitsI hx
      obtain ⟨n1, rfl, rfl, w1⟩ := keyLitsI hx1
      obtain ⟨n2, rfl, rfl, w2⟩ := keyLitsI hy1
      exact ⟨⟨n0, ⟨n1, n2⟩⟩, ⟨w0, w1, w2⟩, rfl, rfl⟩
  inj := fun x y h => by
    unfold mkS at h
    simp only [Value.agg.injEq, Array.mk.injEq, List.cons.injEq, Value.int.injEq, true_and, and_true] at h
    exact TStamp.ext' h.1 h.2.1 h.2.2
end Go.Proofs.YtjmbafcpbagpdaaGreat
