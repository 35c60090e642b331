/- Wire: what the document says of a message: plain Lean. -/
import Derived.Test.YtjgiphoolfhlmaaTyWire
namespace Go.Proofs.Ytjgiphoolfhlmaa


def formI : Itm → Bool
  | .mk k n s l =>
    if k = 0 then decide (s.size = 0) && decide (l.length = 0)
    else if k = 1 then decide (n = 0) && decide (l.length = 0)
    else if k = 2 then decide (n = 0) && decide (s.size = 0)
    else false

mutual
def chkI : Itm → Nat → Nat → Nat × Nat
  | .mk k n s l, d, c => if !formI (.mk k n s l) then (c + 1, 3) else if 4096 < c + 1 ∨ 8 < d then (c + 1, 2) else chkL l (d + 1) (c + 1)
def chkL : List Itm → Nat → Nat → Nat × Nat
  | [], _, c => (c, 0)
  | x :: r, d, c => if (chkI x d c).2 = 0 then chkL r d (chkI x d c).1 else chkI x d c
end

/-- A number to the base 128 (f digits at most). -/
def digsF : Nat → Nat → List Nat
  | 0, _ => []
  | f + 1, n => if 128 ≤ n then (n % 128 + 128) :: digsF f (n / 128) else [n]
def digs (n : Nat) : List Nat := digsF 10 n
theorem digsF_len : ∀ f n, (digsF f n).length ≤ f
  | 0, n => by simp [digsF]
  | f + 1, n => by
    rw [digsF]
    split
    · have := digsF_len f (n / 128); simp; omega
    · simp
theorem digs_len (n : Nat) : (digs n).length ≤ 10 := digsF_len 10 n
theorem digsF_lt : ∀ f n, ∀ b ∈ digsF f n, b < 256
  | 0, n => by simp [digsF]
  | f + 1, n => by
    rw [digsF]
    split
    · intro b hb
      rcases List.mem_cons.1 hb with rfl | hb
      · omega
      · exact digsF_lt f _ b hb
    · intro b hb
      simp at hb; omega
def zig (n : Int) : Nat := if 0 ≤ n then (2 * n).toNat else (2 * (-(n + 1)) + 1).toNat
def txtB (s : ByteArray) : List Nat := s.data.toList.map UInt8.toNat
def cutB (s : ByteArray) : List Nat := if s.size ≤ 65536 then txtB s else List.replicate 65536 0

mutual
def encI : Itm → List Nat
  | .mk k n s l => k.toNat :: (if k = 0 then digs (zig n) else if k = 1 then digs s.size ++ txtB s else digs l.length ++ encL l)
def encL : List Itm → List Nat
  | [] => []
  | x :: r => encI x ++ encL r
end
mutual
def cutI : Itm → List Nat
  | .mk k n s l => k.toNat :: (if k = 0 then digs (zig n) else if k = 1 then digs s.size ++ cutB s else digs l.length ++ cutL l)
def cutL : List Itm → List Nat
  | [] => []
  | x :: r => cutI x ++ cutL r
end
mutual
def sizI : Itm → Nat
  | .mk _ _ s l => s.size + sizL l
def sizL : List Itm → Nat
  | [] => 0
  | x :: r => sizI x + sizL r
end

mutual
def okI : Itm → Bool
  | .mk k n s l => formI (.mk k n s l) && okL l
def okL : List Itm → Bool
  | [] => true
  | x :: r => okI x && okL r
end
mutual
def cntI : Itm → Nat
  | .mk _ _ _ l => 1 + cntL l
def cntL : List Itm → Nat
  | [] => 0
  | x :: r => cntI x + cntL r
end

mutual
theorem chkI_ok : ∀ (x : Itm) (d c : Nat), (chkI x d c).2 = 0 → okI x = true ∧ (chkI x d c).1 = c + cntI x ∧ (chkI x d c).1 ≤ 4096
  | .mk k n s l, d, c, h => by
    rw [chkI] at h ⊢
    by_cases hf : formI (.mk k n s l) = true
    · simp only [hf, Bool.not_true, Bool.false_eq_true, if_false] at h ⊢
      by_cases hc : 4096 < c + 1 ∨ 8 < d
      · rw [if_pos hc] at h; simp at h
      · rw [if_neg hc] at h ⊢
        obtain ⟨h1, h2, h3⟩ := chkL_ok l (d + 1) (c + 1) h
        exact ⟨by rw [okI, hf, h1]; rfl, by rw [h2, cntI]; omega, h3 (by omega)⟩
    · have hf : formI (.mk k n s l) = false := by simpa using hf
      simp [hf] at h
theorem chkL_ok : ∀ (l : List Itm) (d c : Nat), (chkL l d c).2 = 0 → okL l = true ∧ (chkL l d c).1 = c + cntL l ∧ (c ≤ 4096 → (chkL l d c).1 ≤ 4096)
  | [], d, c, h => by rw [chkL]; exact ⟨rfl, rfl, fun h => h⟩
  | x :: r, d, c, h => by
    rw [chkL] at h ⊢
    by_cases he : (chkI x d c).2 = 0
    · rw [if_pos he] at h ⊢
      obtain ⟨h1, h2, h3⟩ := chkI_ok x d c he
      obtain ⟨h4, h5, h6⟩ := chkL_ok r d _ h
      exact ⟨by rw [okL, h1, h4]; rfl, by rw [h5, h2, cntL]; omega, fun _ => h6 h3⟩
    · rw [if_neg he] at h; exact absurd h he
end

theorem form_int {k n : Int} {s : ByteArray} {l : List Itm} (h : formI (.mk k n s l) = true) : (k = 0 ∧ s.size = 0 ∧ l = []) ∨ (k = 1 ∧ n = 0 ∧ l = []) ∨ (k = 2 ∧ n = 0 ∧ s.size = 0) := by
  rw [formI] at h
  by_cases h0 : k = 0
  · rw [if_pos h0] at h
    simp only [Bool.and_eq_true, decide_eq_true_eq] at h
    exact .inl ⟨h0, h.1, List.length_eq_zero_iff.1 h.2⟩
  · rw [if_neg h0] at h
    by_cases h1 : k = 1
    · rw [if_pos h1] at h
      simp only [Bool.and_eq_true, decide_eq_true_eq] at h
      exact .inr (.inl ⟨h1, h.1, List.length_eq_zero_iff.1 h.2⟩)
    · rw [if_neg h1] at h
      by_cases h2 : k = 2
      · rw [if_pos h2] at h
        simp only [Bool.and_eq_true, decide_eq_true_eq] at h
        exact .inr (.inr ⟨h2, h.1, h.2⟩)
      · rw [if_neg h2] at h; cases h

theorem txtB_len (s : ByteArray) : (txtB s).length = s.size := by simp [txtB]
theorem txtB_lt (s : ByteArray) : ∀ b ∈ txtB s, b < 256 := by
  intro b hb
  obtain ⟨c, _, rfl⟩ := List.mem_map.1 hb
  exact c.toNat_lt
theorem cutB_len (s : ByteArray) : (cutB s).length = min s.size 65536 := by
  unfold cutB
  split
  · rw [txtB_len]; omega
  · rw [List.length_replicate]; omega

mutual
theorem cutI_enc : ∀ (x : Itm), sizI x ≤ 65536 → cutI x = encI x
  | .mk k n s l, h => by
    rw [sizI] at h
    rw [cutI, encI]
    have h1 : cutB s = txtB s := by unfold cutB; rw [if_pos (by omega)]
    have h2 := cutL_enc l (by omega)
    rw [h1, h2]
theorem cutL_enc : ∀ (l : List Itm), sizL l ≤ 65536 → cutL l = encL l
  | [], _ => by rw [cutL, encL]
  | x :: r, h => by
    rw [sizL] at h
    rw [cutL, encL, cutI_enc x (by omega), cutL_enc r (by omega)]
end
mutual
theorem cutI_len : ∀ (x : Itm), okI x = true → sizI x ≤ (cutI x).length ∨ 65536 < (cutI x).length
  | .mk k n s l, h => by
    rw [okI, Bool.and_eq_true] at h
    have hl := cutL_len l h.2
    rw [sizI, cutI]
    rcases form_int h.1 with ⟨rfl, hs, rfl⟩ | ⟨rfl, _, rfl⟩ | ⟨rfl, _, hs⟩
    · left; simp [hs, sizL]
    · have hc := cutB_len s
      by_cases h6 : s.size ≤ 65536
      · left; simp [sizL, hc]; omega
      · right; simp [hc]; omega
    · rcases hl with hl | hl
      · left; simp [hs]; omega
      · right; simp; omega
theorem cutL_len : ∀ (l : List Itm), okL l = true → sizL l ≤ (cutL l).length ∨ 65536 < (cutL l).length
  | [], _ => by rw [sizL]; left; omega
  | x :: r, h => by
    rw [okL, Bool.and_eq_true] at h
    have h1 := cutI_len x h.1
    have h2 := cutL_len r h.2
    rw [sizL, cutL, List.length_append]
    omega
end
mutual
theorem cutI_le : ∀ (x : Itm), (cutI x).length ≤ 65547 * cntI x
  | .mk k n s l => by
    have hl := cutL_le l
    have h1 := digs_len (zig n)
    have h2 := digs_len s.size
    have h3 := digs_len l.length
    have h4 := cutB_len s
    rw [cutI, cntI]
    split
    · simp; omega
    · split
      · simp; omega
      · simp; omega
theorem cutL_le : ∀ (l : List Itm), (cutL l).length ≤ 65547 * cntL l
  | [] => by rw [cutL]; simp
  | x :: r => by
    have h1 := cutI_le x
    have h2 := cutL_le r
    rw [cutL, cntL, List.length_append]
    omega
end
mutual
theorem encI_le : ∀ (x : Itm), (encI x).length ≤ 11 * cntI x + sizI x
  | .mk k n s l => by
    have hl := encL_le l
    have h1 := digs_len (zig n)
    have h2 := digs_len s.size
    have h3 := digs_len l.length
    have h4 := txtB_len s
    rw [encI, cntI, sizI]
    split
    · simp; omega
    · split
      · simp; omega
      · simp; omega
theorem encL_le : ∀ (l : List Itm), (encL l).length ≤ 11 * cntL l + sizL l
  | [] => by rw [encL]; simp
  | x :: r => by
    have h1 := encI_le x
    have h2 := encL_le r
    rw [encL, cntL, sizL, List.length_append]
    omega
end

/-- What Encode answers: the error's number, and the bytes. -/
def encV (l : List Itm) : Nat × List Nat :=
  if (chkL l 1 0).2 ≠ 0 then ((chkL l 1 0).2, []) else if 65536 < sizL l ∨ 65536 < (encL l).length then (2, []) else (0, encL l)
def cutV (l : List Itm) : Nat × List Nat :=
  if (chkL l 1 0).2 ≠ 0 then ((chkL l 1 0).2, []) else if 65536 < (cutL l).length then (2, []) else (0, cutL l)
theorem cutV_encV (l : List Itm) : cutV l = encV l := by
  unfold cutV encV
  by_cases he : (chkL l 1 0).2 = 0
  · simp only [he, ne_eq, not_true_eq_false, if_false]
    obtain ⟨hok, _, _⟩ := chkL_ok l 1 0 he
    by_cases hs : sizL l ≤ 65536
    · rw [cutL_enc l hs]
      by_cases hl : 65536 < (encL l).length
      · rw [if_pos hl, if_pos (.inr hl)]
      · rw [if_neg hl, if_neg (by omega)]
    · have := cutL_len l hok
      rw [if_pos (by omega), if_pos (.inl (by omega))]
  · simp [he]
end Go.Proofs.Ytjgiphoolfhlmaa
