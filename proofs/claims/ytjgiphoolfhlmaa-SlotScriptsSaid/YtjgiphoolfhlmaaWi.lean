/- Wire: Same of two rows of bytes of the call's own. -/
import Derived.Test.YtjgiphoolfhlmaaWh
import Derived.Laws.IdiomStrings
namespace Go.Proofs.Ytjgiphoolfhlmaa
open Go.RowKit
set_option linter.unusedVariables false

def toB (bs : List Nat) : ByteArray := ⟨(bs.map UInt8.ofNat).toArray⟩
theorem toB_inj {a b : List Nat} (ha : ∀ x ∈ a, x < 256) (hb : ∀ x ∈ b, x < 256) (h : toB a = toB b) : a = b := by
  unfold toB at h
  simp only [ByteArray.mk.injEq] at h
  have h : a.map UInt8.ofNat = b.map UInt8.ofNat := by simpa using h
  have h2 := congrArg (List.map UInt8.toNat) h
  rw [List.map_map, List.map_map] at h2
  have hid : ∀ l : List Nat, (∀ x ∈ l, x < 256) → l.map (UInt8.toNat ∘ UInt8.ofNat) = l := by
    intro l hl
    conv => rhs; rw [← List.map_id l]
    apply List.map_congr_left
    intro x hx
    have := hl x hx
    simp [UInt8.toNat_ofNat']
    omega
  rw [hid a ha, hid b hb] at h2
  exact h2

theorem own_text {w : World} {base : Nat} {v : Value} {bs : List Nat} (h : OwnB w base v bs) (hb : ∀ x ∈ bs, x < 256) : (convert 44 9 v).run Try.prog w = .ok (.string (toB bs)) w := by
  rcases h.form with ⟨rfl, rfl⟩ | ⟨g, cap, cells, rfl, hbk, h1, h2, h3, h4, h5, h6⟩
  · rw [run_convert_bytes_string w _ _ _ none 0 0 Try.underlying44 Try.underlying5 Try.underlying9]
    rfl
  · have := run_convert_bytes_back (P := Try.prog) w 44 9 _ ⟨g, 0, none⟩ cap (bs.map UInt8.ofNat) Try.underlying44 Try.underlying5 Try.underlying9 (by
      intro j hj
      have hj' : j < bs.length := by simpa using hj
      have ha : (⟨g, 0, none⟩ : Addr).add j = ⟨g, j, none⟩ := by unfold Addr.add; split <;> simp_all
      rw [ha, hbk.cell]
      have h7 := flat_at (enc := encB) (size := 1) encB_len bs j 0 hj' (by omega)
      rw [← h6, List.getElem?_take, if_pos (by omega)] at h7
      rw [← Array.getElem?_toList]
      rw [Nat.mul_one, Nat.add_zero] at h7
      rw [h7]
      have := hb bs[j] (List.getElem_mem hj')
      simp [encB, UInt8.toNat_ofNat']
      omega)
    rw [List.length_map] at this
    exact this
theorem toB_eq {a b : List Nat} (ha : ∀ x ∈ a, x < 256) (hb : ∀ x ∈ b, x < 256) : (toB a).toList == (toB b).toList ↔ a = b := by
  constructor
  · intro h
    have h : (toB a).toList = (toB b).toList := by simpa using h
    apply toB_inj ha hb
    rw [ByteArray.toList_eq, ByteArray.toList_eq] at h
    have : (toB a).data = (toB b).data := Array.toList_inj.1 h
    cases h1 : toB a; cases h2 : toB b
    rw [h1, h2] at this
    simpa using this
  · rintro rfl
    simp

end Go.Proofs.Ytjgiphoolfhlmaa
