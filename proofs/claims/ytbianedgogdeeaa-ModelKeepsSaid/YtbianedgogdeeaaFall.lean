/- Fold: All of both sides. -/
import Derived.Test.YtbianedgogdeeaaFref
import Derived.Test.YtbianedgogdeeaaL1
namespace Go.Proofs.Ytbianedgogdeeaa
open Go.RowKit Fold
set_option linter.unusedVariables false

/-- A slice of uint32 below block B that reads as the numbers l. -/
structure UR (w : World) (B : Nat) (ao : Option Addr) (cap : Nat) (l : List Nat) : Prop where
  le : l.length ≤ cap
  cm : cap ≤ maxLen
  nil : ao = none → cap = 0
  cells : l ≠ [] → ∃ b off, ao = some ⟨b, off, none⟩ ∧ b < B ∧ ∀ k (h : k < l.length), w.cell? ⟨b, off + k, none⟩ = some (.int .u32 (l[k] : Nat))
  lt : ∀ x ∈ l, x < 4294967296

theorem UR.of_sl {w : World} {B : Nat} {ao : Option Addr} {cap : Nat} {xs : List Int} (h : SlA B 1 (RI .u32) w ao cap xs) : UR w B ao cap (xs.map Int.toNat) := by
  obtain ⟨h1, h2, h3, h4⟩ := h
  have hwf : ∀ x ∈ xs, 0 ≤ x ∧ x < 4294967296 := by
    intro x hx
    obtain ⟨i, hi, rfl⟩ := List.getElem_of_mem hx
    obtain ⟨b, off, _, _, h5⟩ := h4 (fun e => by simp [e] at hi)
    obtain ⟨cs, _, _, _, hw⟩ := h5 i hi
    have := bounds_u32 hw
    omega
  refine ⟨by simpa using h1, h2, h3, fun hne => ?_, ?_⟩
  · obtain ⟨b, off, e, hb, h5⟩ := h4 (by simpa using hne)
    refine ⟨b, off, e, hb, fun k hk => ?_⟩
    have hk' : k < xs.length := by simpa using hk
    obtain ⟨cs, _, hc, rfl, hw⟩ := h5 k hk'
    have h6 := hc 0 (by omega)
    have h7 := hwf xs[k] (List.getElem_mem _)
    rw [Nat.mul_one, Nat.add_zero] at h6
    rw [h6, List.getElem_map]
    simp
    omega
  · intro x hx
    obtain ⟨y, hy, rfl⟩ := List.mem_map.1 hx
    have := hwf y hy
    omega
theorem UR.below {w w' : World} {B : Nat} {ao : Option Addr} {cap : Nat} {l : List Nat} (h : UR w B ao cap l) (hb : Below B w w') : UR w' B ao cap l :=
  ⟨h.le, h.cm, h.nil, fun hne => by
    obtain ⟨b, off, e, hlt, hc⟩ := h.cells hne
    exact ⟨b, off, e, hlt, fun k hk => (hb.cell (p := ⟨b, _, none⟩) hlt).trans (hc k hk)⟩, h.lt⟩
theorem UR.len {w : World} {B : Nat} {ao : Option Addr} {cap : Nat} {l : List Nat} (h : UR w B ao cap l) : l.length ≤ 9223372036854775807 := by
  have h1 := h.le
  have h2 := h.cm
  unfold maxLen at h2
  omega

theorem allN_bad {w : Int} {l : List Nat} (h : w < 0 ∨ 6 < w) : allN w l = 0 ∧ allB w l = false := by simp [allN, allB, h]
theorem allN_nil (w : Int) : allN w [] = 0 ∧ allB w [] = false := by simp [allN, allB, allO]
theorem allN_good {w : Int} {l : List Nat} {v : Nat} (h : ¬ (w < 0 ∨ 6 < w)) (hv : allO w l = some v) : allN w l = v ∧ allB w l = true := by
  have hs := allO_isSome w l
  rw [hv] at hs
  simp only [Option.isSome_some] at hs
  constructor
  · simp [allN, h, hv]
  · simp only [allB, if_neg h]; exact hs.symm
theorem allO_step {w : Int} {l : List Nat} {k v x : Nat} (h : allO w (l.take (k + 1)) = some v) (hk : k + 1 < l.length) (hx : x = l[k + 1]) : allO w (l.take (k + 1 + 1)) = some (joinN w v (startN w x)) := by
  rw [List.take_succ_eq_append_getElem hk, allO_snoc, h, hx]; rfl
theorem allO_first {w : Int} {l : List Nat} {x : Nat} (hk : 0 < l.length) (hx : x = l[0]) : allO w (l.take 1) = some (startN w x) := by
  rw [List.take_succ_eq_append_getElem hk, List.take_zero, List.nil_append, hx]; rfl
theorem allO_last {w : Int} {l : List Nat} {x : Nat} {k : Nat} (hk : k + 1 = l.length) (hx : Hid (l[k]? = some x)) : allO w (l.drop k) = some (startN w x) := by
  have h := hx.out
  have hlt : k < l.length := by omega
  rw [List.getElem?_eq_getElem hlt] at h
  rw [List.drop_eq_getElem_cons hlt, List.drop_of_length_le (by omega)]
  simp only [Option.some.injEq] at h
  rw [h]; rfl
theorem allO_back {w : Int} {l : List Nat} {k v x : Nat} (h : allO w (l.drop (k + 1)) = some v) (hk : k < l.length) (hx : x = l[k]) : allO w (l.drop k) = some (joinN w (startN w x) v) := by
  rw [List.drop_eq_getElem_cons hk, ← hx]
  simp only [allO, h, optJ]

set_option maxHeartbeats 2000000 in
theorem all_any (w : Int) (l : List Nat) (ao : Option Addr) (cap B : Nat) (W : World) (h : UR W B ao cap l) :
    Calls Try.prog 47 #[.int .i64 w, .slice ao l.length cap] W fun e W' => e = .returned (.tuple #[.int .u32 (allN w l : Nat), .bool (allB w l)]) ∧ W = W' := by
  by_cases hn : l = []
  · subst hn
    obtain ⟨e1, e2⟩ := allN_nil w
    rw [e1, e2]
    have hl : ([] : List Nat).length = 0 := rfl
    rw [hl]
    clear e1 e2 hl h
    go_enter Try.func47, Try.ntmps47
    go_wp2
    go_ret2
    exact ⟨rfl, rfl⟩
  have hlen := h.len
  have hpos : 0 < l.length := List.length_pos_iff.2 hn
  have e0 : ((l.length : Int) == 0) = false := by simp; omega
  by_cases hw : w < 0 ∨ 6 < w
  · obtain ⟨e1, e2⟩ := allN_bad (l := l) hw
    rw [e1, e2]
    clear e1 e2 h hn
    rcases hw with hw | hw
    · go_enter Try.func47, Try.ntmps47
      go_wp2
      go_ret2
      exact ⟨rfl, rfl⟩
    · have hw0 : 0 ≤ w := by omega
      go_enter Try.func47, Try.ntmps47
      go_wp2
      go_ret2
      exact ⟨rfl, rfl⟩
  obtain ⟨b, off, rfl, hb, hc⟩ := h.cells hn
  have hw0 : 0 ≤ w := by omega
  have hw6 : w ≤ 6 := by omega
  obtain ⟨len, hlen'⟩ : ∃ len, len = l.length := ⟨_, rfl⟩
  rw [← hlen'] at hlen e0 ⊢
  have hlp : 0 < len := by omega
  replace hlen' := Lib.hid hlen'
  have hc0 := hc 0 hpos
  rw [Nat.add_zero] at hc0
  obtain ⟨x, hx⟩ : ∃ x, x = l[0] := ⟨_, rfl⟩
  rw [← hx] at hc0
  have hxl : x < 4294967296 := by rw [hx]; exact h.lt _ (List.getElem_mem _)
  replace hx := Lib.hid hx
  have hsl := startN_lt w x hxl
  replace hw := Lib.hid hw
  clear hn
  go_enter Try.func47, Try.ntmps47
  go_wp2_with (go_at_call 63; refine (start_any w x _).mono ?_; rintro e w' ⟨rfl, rfl⟩)
  go_loop [6, 27] (fun a i => ∃ k v : Nat, k + 1 ≤ len ∧ i = .int .i64 k ∧ a = .int .u32 v ∧ v < 4294967296 ∧ Hid (allO w (l.take (k + 1)) = some v)) (fun _ i => len - (intOf i).toNat)
  case atStart => exact ⟨0, startN w x, by omega, rfl, rfl, hsl, Lib.hid (allO_first hpos hx.out)⟩
  case round =>
    obtain ⟨k, v, hk, rfl, rfl, hv, ha⟩ := hrel
    by_cases hlt : k + 1 < len
    · have hk1 : k + 1 < l.length := by rw [← hlen'.out]; exact hlt
      have hck := hc (k + 1) hk1
      obtain ⟨y, hy⟩ : ∃ y, y = l[k + 1] := ⟨_, rfl⟩
      rw [← hy] at hck
      have hyl : y < 4294967296 := by rw [hy]; exact h.lt _ (List.getElem_mem _)
      have hst := Lib.hid (allO_step ha.out hk1 hy)
      have hsy := startN_lt w y hyl
      have hjl := joinN_lt w v (startN w y) hv hsy
      clear hc hy ha hc0
      go_wp2_with (first | (go_at_call 63; refine (start_any w y _).mono ?_; rintro e w' ⟨rfl, rfl⟩) | (go_at_call 48; refine (join_any w v (startN w y) _ hv hsy).mono ?_; rintro e w' ⟨rfl, rfl⟩))
      go_round
      case rel => exact ⟨k + 1, joinN w v (startN w y), by omega, by go_num, rfl, hjl, hst⟩
      case measure => simp [intOf]; omega
    · have hkl : k + 1 = len := by omega
      have hf : allN w l = v ∧ allB w l = true := by
        have := ha.out
        rw [hkl, hlen'.out, List.take_length] at this
        exact allN_good hw.out this
      replace hf := Lib.hid hf
      clear hkl ha hc hc0
      go_wp2_with fail
      go_ret2
      rw [hf.out.1, hf.out.2]
      exact ⟨rfl, rfl⟩

end Go.Proofs.Ytbianedgogdeeaa
