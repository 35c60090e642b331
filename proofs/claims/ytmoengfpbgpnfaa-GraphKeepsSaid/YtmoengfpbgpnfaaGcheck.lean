/- Graph: right and Check, whole. -/
import Derived.Test.YtmoengfpbgpnfaaGtail
namespace Go.Proofs.Ytmoengfpbgpnfaa
open Go.RowKit

theorem right_any (x : TOp) (i n cap : Nat) (ao : Option Addr) (w : World) (B : Nat) (hB : B ≤ w.heap.size) (hx : SlA B 1 (RI .i64) w ao cap x.fIn) (hi : i < n) (hn : n ≤ 16) :
    Calls Try.prog 18 #[.agg #[.int .i64 x.fKind, .slice ao x.fIn.length cap, .int .i64 x.fArg, .int .u32 x.fNum, .int .i64 x.fRounds, .int .i64 x.fTest, .int .u32 x.fLim], .int .i64 i, .int .i64 n] w fun e w' => e = .returned (.bool (okB x i n)) ∧ Below w.heap.size w w' := by
  by_cases hk : x.fKind < 1 ∨ 8 < x.fKind
  · have : okB x i n = false := by
      have hf : formB x = false := by
        unfold formB
        rw [if_neg (by omega), if_neg (by omega), if_neg (by omega), if_neg (by omega), if_neg (by omega), if_neg (by omega)]
      simp [okB, hf]
    rw [this]
    exact right_kind _ _ _ _ _ _ i n _ cap ao w hk
  by_cases hs : i + 1 = n ↔ x.fKind = 8
  · by_cases hl : x.fIn.length = wantN x.fKind
    · rcases ins_cases x i with hg | ⟨m, hm, hbad, hgood⟩
      · have : okB x i n = formB x := by simp [okB, hl, insB_true hg, hs]
        rw [this]
        obtain ⟨kind, ins, arg, num, rounds, test, lim⟩ := x
        simp only at hk hs hl hg hx ⊢
        have hcase : kind = 1 ∨ kind = 2 ∨ kind = 3 ∨ kind = 4 ∨ kind = 5 ∨ kind = 6 ∨ kind = 7 ∨ kind = 8 := by omega
        rcases hcase with rfl | rfl | rfl | rfl | rfl | rfl | rfl | rfl
        · exact right_tail1 ins arg num rounds test lim i n cap ao w B hB hx hi hn (by omega) (by simpa [wantN] using hl) hg
        · exact right_tail2 ins arg num rounds test lim i n cap ao w B hB hx hi hn (by omega) (by simpa [wantN] using hl) hg
        · exact right_tail3 ins arg num rounds test lim i n cap ao w B hB hx hi hn (by omega) (by simpa [wantN] using hl) hg
        · exact right_tail4 ins arg num rounds test lim i n cap ao w B hB hx hi hn (by omega) (by simpa [wantN] using hl) hg
        · exact right_tail5 ins arg num rounds test lim i n cap ao w B hB hx hi hn (by omega) (by simpa [wantN] using hl) hg
        · exact right_tail6 ins arg num rounds test lim i n cap ao w B hB hx hi hn (by omega) (by simpa [wantN] using hl) hg
        · exact right_tail7 ins arg num rounds test lim i n cap ao w B hB hx hi hn (by omega) (by simpa [wantN] using hl) hg
        · exact right_tail8 ins arg num rounds test lim i n cap ao w B hB hx hi hn (by omega) (by simpa [wantN] using hl) hg
      · have : okB x i n = false := by simp [okB, insB_false hm hbad]
        rw [this]
        exact right_ins x i n cap ao w B hB hx (by omega) (by omega) hi hn hs hl m hm hbad hgood
    · have : okB x i n = false := by simp [okB, hl]
      rw [this]
      exact right_len _ _ _ _ _ _ i n _ cap ao w (by omega) (by omega) hi hn hs hl
  · have : okB x i n = false := by simp [okB, hs]
    rw [this]
    exact right_sink _ _ _ _ _ _ i n _ cap ao w (by omega) (by omega) hi hn hs

/-- The first operator that isn't right, or none. -/
theorem ops_cases (ops : List TOp) : (∀ k (h : k < ops.length), okB ops[k] k ops.length = true) ∨
    ∃ m, ∃ hm : m < ops.length, okB ops[m] m ops.length = false ∧ ∀ k (h : k < ops.length), k < m → okB ops[k] k ops.length = true := by
  suffices ∀ d, d ≤ ops.length → (∀ k (h : k < ops.length), k < d → okB ops[k] k ops.length = true) ∨ ∃ m, ∃ hm : m < ops.length, okB ops[m] m ops.length = false ∧ ∀ k (h : k < ops.length), k < m → okB ops[k] k ops.length = true by
    rcases this ops.length (Nat.le_refl _) with h | h
    · exact .inl fun k hk => h k hk hk
    · exact .inr h
  intro d
  induction d with
  | zero => intro _; left; intro k _ h; omega
  | succ d ih =>
    intro hd
    rcases ih (by omega) with h | h
    · cases hb : okB ops[d] d ops.length with
      | false => exact .inr ⟨d, by omega, hb, h⟩
      | true =>
        left
        intro k hk hkd
        by_cases hkd' : k = d
        · subst hkd'; exact hb
        · exact h k hk (by omega)
    · exact .inr h

set_option maxHeartbeats 1000000 in
theorem gcheck_long (n cap : Nat) (ao : Option Addr) (w : World) (h : n < 1 ∨ 16 < n) (_hm : n ≤ 9223372036854775807) :
    Calls Try.prog 8 #[.agg #[.slice ao n cap]] w fun e w' => e = .returned (.tuple #[.int .i64 0, .int .i64 2]) ∧ Below w.heap.size w w' := by
  go_enter Try.func8, Try.ntmps8
  go_wp2_with (go_at_call 17; refine (within_f _ _ _ _ (by omega)).mono ?_; rintro e w' ⟨rfl, rfl⟩)
  go_ret2
  exact ⟨rfl, ((Below.refl _ _).alloc (Nat.le_refl _) _)⟩


/-- One round of Check's loop is alike in both ways: what it needs of the operator. -/
theorem imp_in {B : Nat} {w w' : World} {ao : Option Addr} {cap : Nat} {xs : List Int} (h : SlA B 1 (RI .i64) w ao cap xs) (hb : Below B w w') : SlA B 1 (RI .i64) w' ao cap xs := h.imp hb (Nat.le_refl _) (fun _ _ _ h => h)
theorem imp_ops {B : Nat} {w w' : World} {ao : Option Addr} {cap : Nat} {xs : List TOp} (h : SlA B 7 (ROp B) w ao cap xs) (hb : Below B w w') : SlA B 7 (ROp B) w' ao cap xs := h.imp hb (Nat.le_refl _) (fun _ _ _ h => h.imp hb (Nat.le_refl _))

set_option maxHeartbeats 2000000 in
theorem gcheck_any (ops : List TOp) (cap : Nat) (ao : Option Addr) (w : World) (B : Nat) (hB : B ≤ w.heap.size) (hx : SlA B 7 (ROp B) w ao cap ops) (h1 : 1 ≤ ops.length) (h2 : ops.length ≤ 16)
    (m : Nat) (hm : m ≤ ops.length) (hbad : ∀ h : m < ops.length, okB ops[m] m ops.length = false) (hgood : ∀ k (h : k < ops.length), k < m → okB ops[k] k ops.length = true) :
    Calls Try.prog 8 #[.agg #[.slice ao ops.length cap]] w fun e w' => e = .returned (if m < ops.length then .tuple #[.int .i64 m, .int .i64 13] else .tuple #[.int .i64 0, .int .i64 0]) ∧ Below w.heap.size w w' := by
  obtain ⟨b, off, rfl, hb, _⟩ := hx.addr (by omega)
  obtain ⟨len, hlen'⟩ : ∃ len, len = ops.length := ⟨_, rfl⟩
  have Hm := Lib.hid hlen'
  have hb2 : b < w.heap.size := by omega
  rw [← hlen'] at h1 h2 ⊢
  clear hlen'
  go_enter Try.func8, Try.ntmps8
  go_wp2_with (go_at_call 17; refine (within_t _ _ _ _ (by omega) (by omega)).mono ?_; rintro e w' ⟨rfl, rfl⟩)
  go_loopw [14] (fun k wr => ∃ kk : Nat, kk ≤ m ∧ k = .int .i64 kk ∧ wr.cell? ⟨w.heap.size, 0, none⟩ = some (.slice (some ⟨b, off, none⟩) len cap) ∧ w.heap.size < wr.heap.size ∧ Below w.heap.size w wr) (fun k _ => m + 1 - (intOf k).toNat)
  case atStart => exact ⟨0, by omega, rfl, by simp, by simp, (Below.refl _ _).alloc (Nat.le_refl _) _⟩
  case round =>
    obtain ⟨kk, hk, rfl, hc0, hsz, hbel⟩ := hrel
    by_cases hkl : kk < len
    · have hkx : kk < ops.length := by rw [← Hm.out]; exact hkl
      obtain ⟨x, hxx⟩ : ∃ x, ops[kk] = x := ⟨_, rfl⟩
      obtain ⟨ao1, cap1, e0, e1, e2, e3, e4, e5, e6, _, hin, _⟩ := ROp.at (imp_ops hx (hbel.mono hB)) hkx hxx
      replace hxx := Lib.hid hxx
      have hb3 : b < wr.heap.size := by omega
      go_wp2_with fail
      refine (right_any x kk len cap1 ao1 _ B ?_ (imp_in hin ?_) hkl h2).mono ?_
      · simp; omega
      · exact (Below.refl _ _).alloc (by omega) _
      by_cases hkm : kk = m
      · have hok : okB x kk len = false := by
          rw [← hxx.out, Hm.out]
          subst hkm
          exact hbad hkx
        rw [hok]
        rintro e w5 ⟨rfl, hb5⟩
        have hbw := hbel.trans (((Below.refl w.heap.size wr).alloc (by omega) _).trans (hb5.mono (by simp; omega)))
        go_wp2_with fail
        go_ret2
        subst hkm
        exact ⟨rfl, hbw⟩
      · have hok : okB x kk len = true := by
          rw [← hxx.out, Hm.out]
          exact hgood kk hkx (by omega)
        rw [hok]
        rintro e w5 ⟨rfl, hb5⟩
        have hbw := hbel.trans (((Below.refl w.heap.size wr).alloc (by omega) _).trans (hb5.mono (by simp; omega)))
        have hc5 : w5.cell? ⟨w.heap.size, 0, none⟩ = some (.slice (some ⟨b, off, none⟩) len cap) := by
          rw [hb5.cell (p := ⟨w.heap.size, 0, none⟩) (by simp; omega), World.cell?_alloc_lt _ _ _ hsz]
          exact hc0
        have hs5 : w.heap.size < w5.heap.size := by have := hb5.size; simp at this; omega
        go_wp2_with fail
        go_roundw
        case rel => exact ⟨kk + 1, by omega, by go_num, hc5, hs5, hbw⟩
        case measure => simp [intOf]; omega
    · obtain rfl : kk = m := by have := Hm.out; omega
      go_wp2_with fail
      go_ret2
      exact ⟨rfl, hbel⟩

theorem gcheck_all (ops : List TOp) (cap : Nat) (ao : Option Addr) (w : World) (B : Nat) (hB : B ≤ w.heap.size) (hx : SlA B 7 (ROp B) w ao cap ops) :
    Calls Try.prog 8 #[.agg #[.slice ao ops.length cap]] w fun e w' => e = .returned (.tuple #[.int .i64 (gcheck ops).1, .int .i64 (gcheck ops).2]) ∧ Below w.heap.size w w' := by
  unfold gcheck
  by_cases hl : ops.length < 1 ∨ 16 < ops.length
  · rw [if_pos hl]
    exact gcheck_long _ cap ao w hl hx.len
  rw [if_neg hl]
  rcases ops_cases ops with h | ⟨m, hm, hbad, hgood⟩
  · rw [badFrom_none h]
    have := gcheck_any ops cap ao w B hB hx (by omega) (by omega) ops.length (Nat.le_refl _) (fun h => by omega) (fun k hk _ => h k hk)
    simpa using this
  · rw [badFrom_hit hm hbad hgood]
    have := gcheck_any ops cap ao w B hB hx (by omega) (by omega) m (by omega) (fun _ => hbad) hgood
    simpa [hm] using this
end Go.Proofs.Ytmoengfpbgpnfaa
