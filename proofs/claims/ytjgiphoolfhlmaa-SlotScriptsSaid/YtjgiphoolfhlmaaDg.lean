/- Disk: Cut, Remove. -/
import Derived.Test.YtjgiphoolfhlmaaDf
namespace Go.Proofs.Ytjgiphoolfhlmaa
open Go.RowKit Go.Maps
attribute [local go_sem] Oper.semAt_some
set_option linter.unusedVariables false
set_option linter.unusedSimpArgs false

theorem FileAt.place {w : World} {base : Nat} {f : FV} (h : FileAt w base f.v f.bs) : f.cap = 0 ∨ ∃ g, f.ao = some ⟨g, 0, none⟩ := by
  rcases h with ⟨h1, ao, h2⟩ | ⟨g, cap, cells, h1, _⟩
  · unfold FV.v at h2
    simp only [Value.slice.injEq] at h2
    exact .inl h2.2.2
  · unfold FV.v at h1
    simp only [Value.slice.injEq] at h1
    exact .inr ⟨g, h1.1⟩
theorem sizeOfU (w : World) : (sizeOf 5).run Try.prog w = .ok 1 w := Try.sizeOf5 w
theorem run_cut {w0 : World} {base : Nat} {f : FV} (h : FileAt w0 base f.v f.bs) (n m : Nat) (hm : m = f.bs.length) (hn : n ≤ m) (w : World) :
    (Instr.slice 44 (.slice f.ao m f.cap) none (some (.int .i64 n)) none).run Try.prog w = .ok (.slice f.ao n f.cap) w := by
  have hcap : m ≤ f.cap := by rw [hm]; exact (slaf h).1
  have h1 : ¬ ((f.cap : Int) < (n : Int)) := by omega
  have h2 : ¬ ((n : Int) < 0) := by omega
  unfold Instr.slice
  simp [run_underlying Try.underlying44, Instr.sliceBounds, sizeOfU, go_sem]
  intro h
  omega
theorem run_cut3 {w0 : World} {base : Nat} {f : FV} (h : FileAt w0 base f.v f.bs) (n m : Nat) (hm : m = f.bs.length) (hn : n ≤ m) (w : World) :
    (Instr.slice 44 (.slice f.ao m f.cap) none (some (.int .i64 n)) (some (.int .i64 n))).run Try.prog w = .ok (.slice f.ao n n) w := by
  have hcap : m ≤ f.cap := by rw [hm]; exact (slaf h).1
  have h1 : n ≤ f.cap := by omega
  unfold Instr.slice
  simp [run_underlying Try.underlying44, Instr.sliceBounds, sizeOfU, go_sem, h1]

end Go.Proofs.Ytjgiphoolfhlmaa
