/- Wire: reading: a number, by the reference. -/
import Derived.Test.YtjgiphoolfhlmaaWr
namespace Go.Proofs.Ytjgiphoolfhlmaa
open Go.RowKit
set_option linter.unusedVariables false

theorem RBy.drop {B : Nat} {w : World} {b off cap k : Nat} {bs : List Nat} (h : RBy B w (some ⟨b, off, none⟩) cap bs) (hk : k ≤ bs.length) : RBy B w (some ⟨b, off + k, none⟩) (cap - k) (bs.drop k) := by
  have h1 := h.1
  have h2 := h.2.1
  refine ⟨by simp; omega, by omega, by simp, fun hne => ?_⟩
  have hlt : k < bs.length := by
    rcases Nat.lt_or_ge k bs.length with h | h
    · exact h
    · exact absurd (List.drop_of_length_le h) hne
  have hb := SlA.lt h (by omega)
  refine ⟨b, off + k, rfl, hb, fun i hi => ⟨[.int .u8 (bs.drop k)[i]], rfl, fun j hj => ?_, rfl⟩⟩
  obtain rfl : j = 0 := by omega
  have hi2 : k + i < bs.length := by simp at hi; omega
  have := h.at hi2
  rw [show off + k + (i * 1 + 0) = off + (k + i) by omega, this]
  simp

/-- How the reference's reader stands behind a number. -/
def FnR (B : Nat) (w w' : World) (rb : Nat) (ao : Option Addr) (n cap : Nat) (cnt er : Int) (bs : List Nat) (res : Nat × Nat × Nat) : Prop :=
  Chg (fun k => k = rb) w w' ∧
      ((res.1 = 0 ∧ ∃ b' o' cap', Blk w' rb #[.slice (some ⟨b', o', none⟩) (n - res.2.2) cap', .int .i64 cnt, .int .i64 er] 121 ∧ RBy B w' (some ⟨b', o', none⟩) cap' (bs.drop res.2.2)) ∨
       (res.1 ≠ 0 ∧ Blk w' rb #[.slice ao n cap, .int .i64 cnt, .int .i64 res.1] 121))
theorem slice_cut {B : Nat} {w : World} {b off cap n : Nat} {bs : List Nat} (k : Nat) (h : RBy B w (some ⟨b, off, none⟩) cap bs) (hn : n = bs.length) (hk : k ≤ n) (x : Option Addr) (cap' : Nat) (hx : (x = some ⟨b, off + k, none⟩ ∧ cap' = cap - k) ∨ (cap = k ∧ cap' = 0)) : RBy B w x cap' (bs.drop k) := by
  subst hn
  rcases hx with ⟨rfl, rfl⟩ | ⟨rfl, rfl⟩
  · exact h.drop hk
  · have h1 := h.1
    have : bs.drop cap = [] := List.drop_of_length_le h1
    rw [this]
    exact ⟨by simp, by unfold maxLen; omega, fun _ => rfl, fun h => absurd rfl h⟩

set_option maxRecDepth 100000 in
set_option maxHeartbeats 4000000 in
theorem fnumber_any (bs : List Nat) (hbs : ∀ x ∈ bs, x < 256) (ao : Option Addr) (cap : Nat) (cnt er : Int) (rb : Nat) (w : World) (B : Nat) (hby : RBy B w ao cap bs) (hr : Blk w rb #[.slice ao bs.length cap, .int .i64 cnt, .int .i64 er] 121) (hB : B ≤ rb) :
    Calls Try.prog 68 #[.pointer (some ⟨rb, 0, none⟩)] w fun e w' => e = .returned (.int .u64 (rdN 0 0 bs).2.1) ∧ FnR B w w' rb ao bs.length cap cnt er bs (rdN 0 0 bs) := by
  have hle := SlA.len hby
  have hr0 := hr.lt
  obtain ⟨res, hres⟩ : ∃ r, r = rdN 0 0 bs := ⟨_, rfl⟩
  rw [← hres]
  obtain ⟨n, hn⟩ : ∃ n, n = bs.length := ⟨_, rfl⟩
  rw [← hn] at hr hle ⊢
  replace hn := Lib.hid hn
  go_enter Try.func68, Try.ntmps68
  go_wp2_with fail
  go_loopw [3, 4, 5] (fun x3 x4 x5 wr => ∃ (i acc pw : Nat), i ≤ n ∧ (i ≤ 9 ∨ i = n) ∧ (i ≤ 9 → acc < 128 ^ i ∧ pw = 128 ^ i) ∧ x3 = .int .u64 acc ∧ x4 = .int .u64 pw ∧ x5 = .int .i64 i ∧ (i ≤ 9) ∧ Hid (res = rdN i acc (bs.drop i)) ∧ Blk wr rb #[.slice ao n cap, .int .i64 cnt, .int .i64 er] 121 ∧ Chg (fun k => k = rb) w wr) (fun _ _ x5 _ => n - (intOf x5).toNat)
  case atStart => exact ⟨0, 0, 1, Nat.zero_le _, by omega, fun _ => ⟨by decide, by decide⟩, rfl, rfl, rfl, by omega, Lib.hid (by simpa using hres), hr, Chg.refl _ _⟩
  case round =>
    obtain ⟨i, acc, pw, hin, _, hap, rfl, rfl, rfl, hi, hinv, hb, hch⟩ := hrel
    obtain ⟨hacc, hpw⟩ := hap hi
    clear hr hres hap
    replace hpw := Lib.hid hpw
    have q0 : wr.cell? ⟨rb, 0, none⟩ = some (.slice ao n cap) := hb.cellAt rfl
    have q2 : wr.cell? ⟨rb, 2, none⟩ = some (.int .i64 er) := hb.cellAt rfl
    have f0 := hb.frozen 0
    have f2 := hb.frozen 2
    by_cases hlt : i < n
    · have hpl : i < bs.length := by rw [← hn.out]; exact hlt
      obtain ⟨b1, o1, rfl, hb1, _⟩ := SlA.addr hby (by omega)
      obtain ⟨c, hc⟩ : ∃ c, bs[i] = c := ⟨_, rfl⟩
      have hc256 : c < 256 := by rw [← hc]; exact hbs _ (List.getElem_mem hpl)
      have q3 : wr.cell? ⟨b1, o1 + i, none⟩ = some (.int .u8 c) := by
        rw [hch.cell (p := ⟨b1, o1 + i, none⟩) (by simp; omega) (by simp; omega), hby.at hpl, hc]
      rw [List.drop_eq_getElem_cons hpl, hc, rdN] at hinv
      by_cases he : (i = 9 ∧ 1 < c) ∨ (c = 0 ∧ 0 < i)
      · rw [if_pos he] at hinv
        obtain rfl := hinv.out
        have h4 : (((i : Int) == 9) = true ∧ 1 < c ∧ decide ((1 : Int) < (c : Int)) = true) ∨ (((i : Int) == 9) = false ∧ 0 < i ∧ decide ((0 : Int) < (i : Int)) = true ∧ ((c : Int) == 0) = true) ∨ (((i : Int) == 9) = true ∧ ¬ 1 < c ∧ decide ((1 : Int) < (c : Int)) = false ∧ 0 < i ∧ decide ((0 : Int) < (i : Int)) = true ∧ ((c : Int) == 0) = true) := by
          by_cases h9 : i = 9
          · by_cases hc1 : 1 < c
            · left; exact ⟨by simp; omega, hc1, by simp; omega⟩
            · right; right; exact ⟨by simp; omega, hc1, by simp; omega, by omega, by simp; omega, by simp; omega⟩
          · right; left; exact ⟨by simp; omega, by omega, by simp; omega, by simp; omega⟩
        have hb2 := hb.set 2 (.int .i64 (3 : Int))
        have hch2 := hch.setCell ⟨rb, 2, none⟩ (.int .i64 (3 : Int)) (fun _ => rfl)
        rcases h4 with ⟨h1, h2, h3⟩ | ⟨h1, h2, h3, h4⟩ | ⟨h1, h2, h3, h4, h5, h6⟩
        all_goals
          go_wp2_with fail
          go_ret
          exact ⟨rfl, hch2, .inr ⟨by simp, hb2⟩⟩
      · rw [if_neg he] at hinv
        have h4 : (((i : Int) == 9) = true ∧ ¬ 1 < c ∧ decide ((1 : Int) < (c : Int)) = false ∧ 0 < i ∧ decide ((0 : Int) < (i : Int)) = true ∧ ((c : Int) == 0) = false) ∨ (((i : Int) == 9) = false ∧ 0 < i ∧ decide ((0 : Int) < (i : Int)) = true ∧ ((c : Int) == 0) = false) ∨ (((i : Int) == 9) = false ∧ ¬ 0 < i ∧ decide ((0 : Int) < (i : Int)) = false) := by
          by_cases h9 : i = 9
          · left; exact ⟨by simp; omega, by omega, by simp; omega, by omega, by simp; omega, by simp; omega⟩
          · by_cases h0 : 0 < i
            · right; left; exact ⟨by simp; omega, h0, by simp; omega, by simp; omega⟩
            · right; right; exact ⟨by simp; omega, h0, by simp; omega⟩
        obtain ⟨hN, hN1, hN2⟩ := digit_or (c := c) rfl hacc hi (by omega) hc256
        clear hN
        obtain ⟨acc2, hacc2⟩ : ∃ a, a = acc + c % 128 * 128 ^ i := ⟨_, rfl⟩
        have hN : IntKind.u64.wrap ((acc : Int) + IntKind.u64.wrap ((c : Int) % 128 * (pw : Int))) = (acc2 : Int) := by
          have e1 : ((c : Int) % 128 * (pw : Int)) = ((c % 128 * 128 ^ i : Nat) : Int) := by rw [hpw.out]; push_cast; rfl
          rw [e1, IntKind.wrap_u64, IntKind.wrap_u64, hacc2]
          omega
        have hN' : IntKind.u64.wrap ((acc : Int) + IntKind.u64.wrap (((c % 128 : Nat) : Int) * (pw : Int))) = (acc2 : Int) := hN
        rw [← hacc2] at hN1 hN2 hinv
        clear hacc2
        by_cases hc128 : c < 128
        · have hd128 : decide ((c : Int) < 128) = true := by simp; omega
          rw [if_pos hc128] at hinv
          have hres := hinv.out
          clear hinv
          replace hres := Lib.hid hres
          rcases h4 with ⟨h1, h2, h3, h4, h5, h6⟩ | ⟨h1, h2, h3, h4⟩ | ⟨h1, h2, h3⟩
          all_goals
            go_wp2_with fail
            all_goals
              go_ret
              rw [hres.out]
              refine ⟨rfl, hch.setCell ⟨rb, 0, none⟩ _ (fun _ => rfl), .inl ⟨rfl, _, _, _, hb.set 0 _, ?_⟩⟩
              refine slice_cut (i + 1) (hby.imp (Below.setCell (hch.below (by omega) (by intro k hk h; omega)) (p := ⟨rb, 0, none⟩) hB _) (Nat.le_refl _)) hn.out (by omega) _ _ ?_
              first | exact .inl ⟨rfl, rfl⟩ | exact .inr ⟨by assumption, rfl⟩
        · have hd128 : decide ((c : Int) < 128) = false := by simp; omega
          rw [if_neg hc128] at hinv
          have hi9 : i < 9 := by omega
          obtain ⟨pw2, hpw2⟩ : ∃ a, a = pw * 128 := ⟨_, rfl⟩
          have hpb : pw2 = 128 ^ (i + 1) := by rw [hpw2, hpw.out, Nat.pow_succ]
          have hpl2 : pw2 ≤ 128 ^ 9 := by rw [hpb]; exact Nat.pow_le_pow_right (by decide) (by omega)
          have hW : IntKind.u64.wrap ((pw : Int) * 128) = (pw2 : Int) := by rw [IntKind.wrap_u64]; omega
          replace hpb := Lib.hid hpb
          clear hpw2 hpl2
          have hc0 : ((c : Int) == 0) = false := by simp; omega
          have h9 : ((i : Int) == 9) = false := by simp; omega
          clear h4
          go_wp2_with fail
          all_goals
            go_roundw
            case rel => exact ⟨i + 1, acc2, pw2, by omega, by omega, fun _ => ⟨hN2 hi9, hpb.out⟩, rfl, rfl, rfl, by omega, hinv, hb, hch⟩
            case measure => simp [intOf]; omega
    · have hpn2 : i = n := by omega
      rw [List.drop_of_length_le (by rw [← hn.out]; omega), rdN] at hinv
      obtain rfl := hinv.out
      have hb2 := hb.set 2 (.int .i64 (5 : Int))
      have hch2 := hch.setCell ⟨rb, 2, none⟩ (.int .i64 (5 : Int)) (fun _ => rfl)
      go_wp2_with fail
      go_ret
      exact ⟨rfl, hch2, .inr ⟨by simp, hb2⟩⟩
end Go.Proofs.Ytjgiphoolfhlmaa
