/- Disk: DiskSynced: how its arguments read. -/
import Derived.Test.YtjhbeahkojippaaDp
import Derived.SizedLaws
namespace Go.Proofs.Ytjhbeahkojippaa
open Go.RowKit Go.ChangeShapes Go.WideShapes
set_option linter.unusedVariables false
section
variable {H : Type} {enc : TypeId × Value → H} {w : World} {held : Bool} {fuel : Nat} {cs : List Value} {x : DataW H × List MemPlace} {B : Nat}
theorem byU : Try.prog.bytesOf 5 = 1 := by kernel_rfl
theorem EU.of_trod {spare : Nat → Bool} (h : DataW.trod enc Try.prog w 0 spare held fuel 5 cs = some x) : ∃ a, EU w cs a := by
  obtain ⟨n, h1, h2⟩ := RI.of_trod Try.underlying5 h
  have h3 : 0 ≤ n ∧ n < 256 := by
    simp [Lit.wf] at h2
    have m1 : IntKind.u8.min = 0 := by decide
    have m2 : IntKind.u8.max = 255 := by decide
    omega
  refine ⟨UInt8.ofNat n.toNat, ?_⟩
  show cs = encU (UInt8.ofNat n.toNat)
  rw [h1]
  unfold encU
  rw [UInt8.toNat_ofNat']
  congr 2
  omega
theorem bytes_of_trod {spare : Nat → Bool} (h : DataW.trod enc Try.prog w 0 spare held fuel 23 cs = some x) (hp : ∀ p ∈ x.2, p.block < B) : ∃ d, RSl B 1 EU w cs d :=
  RSl.of_trod (sz := 1) Try.underlying23 (by kernel_rfl) (by decide) h hp (fun n cs y h hp => EU.of_trod h)
theorem files_of_trod (h : DataW.trod enc Try.prog w 0 (fun _ => true) held fuel 22 cs = some x) (hp : ∀ p ∈ x.2, p.block < B) (hw : ∀ k ∈ x.1.weights Try.prog 22, k ≤ reachBytes) : ∃ a, RSl B 1 (RFi B) w cs a := by
  obtain ⟨ao, cap, xs, h1, h2⟩ := SlA.of_trodW (sz := 1) (E := RFi B) (Wt := fun d => ∀ k ∈ d.weights Try.prog 23, k ≤ reachBytes) Try.underlying22 (by kernel_rfl) (by decide) h hp (fun elems sp e => elem_sized Try.underlying22 (by rw [← e]; exact hw)) (fun n cs y h hp hW => by
    obtain ⟨d, ao, cap, rfl, e2⟩ := bytes_of_trod (B := B) h hp
    have h3 := trod_len_sized Try.underlying23 h hW
    rw [byU] at h3
    exact ⟨d, ⟨ao, cap, rfl, e2⟩, by have : reachBytes ≤ 140737488355328 := by decide
                                     omega⟩)
  exact ⟨xs, ao, cap, h1, h2⟩
end
theorem synced_row {w : World} (a0 : Option Addr) (len0 cap0 : Nat) (x0 : List (List UInt8)) (h0 : RSl w.heap.size 1 (RFi w.heap.size) w (Value.cells (.slice a0 len0 cap0)).toList x0) (_ : cap0 * 24 ≤ reachBytes)
    (a1 : Option Addr) (len1 cap1 : Nat) (x1 : List UInt8) (h1 : RSl w.heap.size 1 EU w (Value.cells (.slice a1 len1 cap1)).toList x1) (z1 : cap1 * 1 ≤ reachBytes)
    (a2 : Option Addr) (len2 cap2 : Nat) (x2 : List Int) (h2 : RSl w.heap.size 1 (RI .i64) w (Value.cells (.slice a2 len2 cap2)).toList x2) (_ : cap2 * 8 ≤ reachBytes) :
    Calls Try.prog 3 #[.slice a0 len0 cap0, .slice a1 len1 cap1, .slice a2 len2 cap2] w fun e w' => e = .returned (.bool true) ∧ Below w.heap.size w w' := by
  obtain ⟨b0, c0, e0, s0⟩ := h0
  obtain ⟨rfl, rfl, rfl⟩ : a0 = b0 ∧ len0 = x0.length ∧ cap0 = c0 := by simpa [Value.cells] using e0
  obtain ⟨b1, c1, e1, s1⟩ := h1
  obtain ⟨rfl, rfl, rfl⟩ : a1 = b1 ∧ len1 = x1.length ∧ cap1 = c1 := by simpa [Value.cells] using e1
  obtain ⟨b2, c2, e2, s2⟩ := h2
  obtain ⟨rfl, rfl, rfl⟩ : a2 = b2 ∧ len2 = x2.length ∧ cap2 = c2 := by simpa [Value.cells] using e2
  have hl := s1.1
  have : reachBytes ≤ 140737488355328 := by decide
  exact synced_any a0 cap0 x0 a1 cap1 x1 a2 cap2 x2 w s0 s1 s2 (by omega)
end Go.Proofs.Ytjhbeahkojippaa
