/- Graph: within, inputs, right. -/
import Derived.Test.YtmoengfpbgpnfaaRows
import Derived.Test.YtmoengfpbgpnfaaBaseA
import Derived.Test.YtmoengfpbgpnfaaBaseB
import Derived.Test.YtmoengfpbgpnfaaGp
import Derived.WalkSpells
import Derived.WalkLawsBesides
namespace Go.Proofs.Ytmoengfpbgpnfaa
open Go.RowKit

set_option maxHeartbeats 400000 in
theorem within_t (n lo hi : Int) (w : World) (h1 : lo ≤ n) (h2 : n ≤ hi) :
    Calls Try.prog 17 #[.int .i64 n, .int .i64 lo, .int .i64 hi] w fun e w' => e = .returned (.bool true) ∧ w' = w := by
  go_enter Try.func17, Try.ntmps17
  go_wp2
  go_ret
  exact ⟨rfl, rfl⟩

set_option maxHeartbeats 400000 in
theorem within_f (n lo hi : Int) (w : World) (h : n < lo ∨ hi < n) :
    Calls Try.prog 17 #[.int .i64 n, .int .i64 lo, .int .i64 hi] w fun e w' => e = .returned (.bool false) ∧ w' = w := by
  by_cases h1 : lo ≤ n
  · have h2 : hi < n := by omega
    clear h
    go_enter Try.func17, Try.ntmps17
    go_wp2
    go_ret
    exact ⟨by simp; omega, rfl⟩
  · clear h
    go_enter Try.func17, Try.ntmps17
    go_wp2
    go_ret
    exact ⟨rfl, rfl⟩

set_option maxHeartbeats 400000 in
theorem inputs_any (k : Int) (w : World) :
    Calls Try.prog 22 #[.int .i64 k] w fun e w' => e = .returned (.int .i64 (wantN k : Nat)) ∧ w' = w := by
  by_cases h1 : k = 1
  · subst h1
    go_enter Try.func22, Try.ntmps22
    go_wp2
    go_ret
    exact ⟨rfl, rfl⟩
  by_cases h2 : k = 5
  · subst h2
    go_enter Try.func22, Try.ntmps22
    go_wp2
    go_ret
    exact ⟨rfl, rfl⟩
  by_cases h3 : k = 6
  · subst h3
    go_enter Try.func22, Try.ntmps22
    go_wp2
    go_ret
    exact ⟨rfl, rfl⟩
  go_enter Try.func22, Try.ntmps22
  go_wp2
  go_ret
  exact ⟨by simp [wantN, h1, h2, h3], rfl⟩

set_option maxHeartbeats 1000000 in
theorem right_kind (kind arg num rounds test lim : Int) (i n len cap : Nat) (ao : Option Addr) (w : World) (hk : kind < 1 ∨ 8 < kind) :
    Calls Try.prog 18 #[.agg #[.int .i64 kind, .slice ao len cap, .int .i64 arg, .int .u32 num, .int .i64 rounds, .int .i64 test, .int .u32 lim], .int .i64 i, .int .i64 n] w fun e w' => e = .returned (.bool false) ∧ Below w.heap.size w w' := by
  go_enter Try.func18, Try.ntmps18
  go_wp2_with fail
  go_quiet ((go_at_call 17; exact Calls.quiet_of_same (within_f _ _ _ _ hk)))
  go_wp2
  go_ret
  exact ⟨rfl, below_drewN ((Below.refl _ _).alloc (Nat.le_refl _) _) _⟩

set_option maxHeartbeats 1000000 in
theorem right_sink (kind arg num rounds test lim : Int) (i n len cap : Nat) (ao : Option Addr) (w : World) (h1 : 1 ≤ kind) (h8 : kind ≤ 8) (_hi : i < n) (_hn : n ≤ 16) (hs : ¬ (i + 1 = n ↔ kind = 8)) :
    Calls Try.prog 18 #[.agg #[.int .i64 kind, .slice ao len cap, .int .i64 arg, .int .u32 num, .int .i64 rounds, .int .i64 test, .int .u32 lim], .int .i64 i, .int .i64 n] w fun e w' => e = .returned (.bool false) ∧ Below w.heap.size w w' := by
  by_cases hk : kind = 8
  · have e1 : (kind == 8) = true := by simpa using hk
    have e2 : ((i : Int) == (n : Int) - 1) = false := by simp; omega
    clear hs hk
    go_enter Try.func18, Try.ntmps18
    go_wp2_with fail
    go_quiet ((go_at_call 17; exact Calls.quiet_of_same (within_t _ _ _ _ h1 h8)))
    go_wp2
    go_ret
    exact ⟨rfl, below_drewN ((Below.refl _ _).alloc (Nat.le_refl _) _) _⟩
  · have e1 : (kind == 8) = false := by simpa using hk
    have e2 : ((i : Int) == (n : Int) - 1) = true := by simp; omega
    clear hs hk
    go_enter Try.func18, Try.ntmps18
    go_wp2_with fail
    go_quiet ((go_at_call 17; exact Calls.quiet_of_same (within_t _ _ _ _ h1 h8)))
    go_wp2
    go_ret
    exact ⟨rfl, below_drewN ((Below.refl _ _).alloc (Nat.le_refl _) _) _⟩

/-- The two Bools of the test on the sink. -/
theorem sink_bools {kind : Int} {i n : Nat} (hs : i + 1 = n ↔ kind = 8) : ∃ b, (kind == 8) = b ∧ ((i : Int) == (n : Int) - 1) = b := by
  by_cases hk : kind = 8
  · exact ⟨true, by simpa using hk, by have := hs.2 hk; simp; omega⟩
  · exact ⟨false, by simpa using hk, by have := fun h => hk (hs.1 h); simp; omega⟩

set_option maxHeartbeats 1000000 in
theorem right_len (kind arg num rounds test lim : Int) (i n len cap : Nat) (ao : Option Addr) (w : World) (h1 : 1 ≤ kind) (h8 : kind ≤ 8) (_hi : i < n) (_hn : n ≤ 16) (hs : i + 1 = n ↔ kind = 8) (hl : len ≠ wantN kind) :
    Calls Try.prog 18 #[.agg #[.int .i64 kind, .slice ao len cap, .int .i64 arg, .int .u32 num, .int .i64 rounds, .int .i64 test, .int .u32 lim], .int .i64 i, .int .i64 n] w fun e w' => e = .returned (.bool false) ∧ Below w.heap.size w w' := by
  have e3 : ((len : Int) != (wantN kind : Nat)) = true := by rw [bne_iff_ne]; omega
  obtain ⟨b, e1, e2⟩ := sink_bools hs
  clear hs hl
  cases b
  all_goals
    go_enter Try.func18, Try.ntmps18
    go_wp2_with fail
    go_quiet (first | (go_at_call 17; exact Calls.quiet_of_same (within_t _ _ _ _ h1 h8)) | (go_at_call 22; exact Calls.quiet_of_same (inputs_any _ _)))
    go_wp2
    go_ret
    exact ⟨rfl, below_drewN ((Below.refl _ _).alloc (Nat.le_refl _) _) _⟩

set_option maxHeartbeats 1000000 in
theorem right_ins (x : TOp) (i n cap : Nat) (ao : Option Addr) (w : World) (B : Nat) (hB : B ≤ w.heap.size) (hx : SlA B 1 (RI .i64) w ao cap x.fIn) (h1 : 1 ≤ x.fKind) (h8 : x.fKind ≤ 8) (_hi : i < n) (_hn : n ≤ 16) (hs : i + 1 = n ↔ x.fKind = 8)
    (hl : x.fIn.length = wantN x.fKind) (m : Nat) (hm : m < x.fIn.length) (hbad : ¬ (0 ≤ x.fIn[m] ∧ x.fIn[m] < i)) (hgood : ∀ k (hk : k < x.fIn.length), k < m → 0 ≤ x.fIn[k] ∧ x.fIn[k] < i) :
    Calls Try.prog 18 #[.agg #[.int .i64 x.fKind, .slice ao x.fIn.length cap, .int .i64 x.fArg, .int .u32 x.fNum, .int .i64 x.fRounds, .int .i64 x.fTest, .int .u32 x.fLim], .int .i64 i, .int .i64 n] w fun e w' => e = .returned (.bool false) ∧ Below w.heap.size w w' := by
  have hlen := hx.len
  obtain ⟨b, off, rfl, hb, hc⟩ := hx.addr (by omega)
  obtain ⟨len, hlen'⟩ : ∃ len, len = x.fIn.length := ⟨_, rfl⟩
  have e3 : ((len : Int) != (wantN x.fKind : Nat)) = false := by simp; omega
  have hcell : ∀ k (hk : k < x.fIn.length), w.cell? ⟨b, off + k, none⟩ = some (.int .i64 x.fIn[k]) := by
    intro k hk
    obtain ⟨cs, _, h3, h4, _⟩ := hc k hk
    have := h3 0 (by omega)
    rw [h4] at this
    simpa using this
  obtain ⟨bb, e1, e2⟩ := sink_bools hs
  have Hm := Lib.hid hlen'
  have hb2 : b < w.heap.size := by omega
  rw [← hlen'] at hlen ⊢
  clear hc hx hs hl hlen' hb hB
  cases bb
  all_goals
    go_enter Try.func18, Try.ntmps18
    go_wp2_with fail
    go_quiet (first | (go_at_call 17; exact Calls.quiet_of_same (within_t _ _ _ _ h1 h8)) | (go_at_call 22; exact Calls.quiet_of_same (inputs_any _ _)))
    go_wp2_with fail
    go_loop [38] (fun k => ∃ kk : Nat, kk ≤ m ∧ k = .int .i64 kk) (fun k => m + 1 - (intOf k).toNat)
    case atStart => exact ⟨0, by omega, rfl⟩
    case round =>
      obtain ⟨kk, hk, rfl⟩ := hrel
      have hkl : kk < len := by rw [Hm.out]; omega
      have hkx : kk < x.fIn.length := by omega
      have hck := hcell kk hkx
      by_cases hkm : kk = m
      · have hg : ¬ (0 ≤ x.fIn[kk] ∧ x.fIn[kk] < (i : Int)) := by subst hkm; exact hbad
        generalize x.fIn[kk] = v at hck hg
        clear hcell hgood hbad hkm
        go_wp2_with (go_at_call 17; refine (within_f _ _ _ _ (by omega)).mono ?_; rintro e w' ⟨rfl, rfl⟩)
        go_ret
        exact ⟨rfl, below_drewN ((Below.refl _ _).alloc (Nat.le_refl _) _) _⟩
      · have hg := hgood kk hkx (by omega)
        generalize x.fIn[kk] = v at hck hg
        obtain ⟨hg1, hg2⟩ := hg
        clear hcell hgood hbad
        go_wp2_with (go_at_call 17; refine (within_t _ _ _ _ (by omega) (by omega)).mono ?_; rintro e w' ⟨rfl, rfl⟩)
        go_round
        case rel => exact ⟨kk + 1, by omega, by go_num⟩
        case measure => simp [intOf]; omega
end Go.Proofs.Ytmoengfpbgpnfaa
