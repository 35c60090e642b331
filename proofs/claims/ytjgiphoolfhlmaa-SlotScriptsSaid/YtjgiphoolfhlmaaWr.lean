/- Wire: reading: a number. -/
import Derived.Test.YtjgiphoolfhlmaaWq0
import Derived.Deep.LoopGhost
import Derived.WalkMore
import Derived.Deep.QuietTactic
namespace Go.Proofs.Ytjgiphoolfhlmaa
open Go.RowKit
set_option linter.unusedVariables false

/-- A number to the base 128: i digits worth acc came; the error, the number, how many bytes are gone. -/
def rdN : Nat → Nat → List Nat → Nat × Nat × Nat
  | i, _, [] => (5, 0, i)
  | i, acc, c :: r => if (i = 9 ∧ 1 < c) ∨ (c = 0 ∧ 0 < i) then (3, 0, i + 1) else if c < 128 then (0, acc + c % 128 * 128 ^ i, i + 1) else rdN (i + 1) (acc + c % 128 * 128 ^ i) r
/-- Bytes that read as a list. -/
def RBy (B : Nat) (w : World) (ao : Option Addr) (cap : Nat) (bs : List Nat) : Prop := SlA B 1 (fun _ cs (x : Nat) => cs = [.int .u8 x]) w ao cap bs
theorem RBy.at {B : Nat} {w : World} {b off cap i : Nat} {bs : List Nat} (h : RBy B w (some ⟨b, off, none⟩) cap bs) (hi : i < bs.length) : w.cell? ⟨b, off + i, none⟩ = some (.int .u8 bs[i]) := by
  obtain ⟨cs, _, hc, rfl⟩ := SlA.get h i hi
  simpa using hc 0 (by decide)
theorem RBy.imp {B B' : Nat} {w w' : World} {ao : Option Addr} {cap : Nat} {bs : List Nat} (h : RBy B w ao cap bs) (hb : Below B w w') (hB : B ≤ B') : RBy B' w' ao cap bs := SlA.imp h hb hB (fun _ _ _ h => h)
theorem RBy.of_own {base : Nat} {w : World} {v : Value} {bs : List Nat} {e : TypeId} (h : OwnL encB w base e 1 v bs) : ∃ ao cap, v = .slice ao bs.length cap ∧ RBy w.heap.size w ao cap bs := h.sla encB_len (fun _ _ => rfl)

theorem and127 (c : Nat) (h : c < 256) : bits BinOp.and IntKind.u8 (c : Int) 127 = ((c % 128 : Nat) : Int) := by
  have hk : ∀ k : Fin 256, bits BinOp.and IntKind.u8 ((k.1 : Nat) : Int) 127 = ((k.1 % 128 : Nat) : Int) := by decide +kernel
  exact hk ⟨c, h⟩
theorem wraps_u64' : ∀ n : Int, 0 ≤ n → n < 2 ^ 64 → IntKind.u64.wrap n = n := by
  intro n h1 h2
  rw [IntKind.wrap_u64]
  omega
theorem pow128 (i : Nat) : 128 ^ i = 2 ^ (7 * i) := by rw [Nat.pow_mul]
theorem digit_or {acc c i sh : Nat} (hs : sh = 7 * i) (ha : acc < 128 ^ i) (hi : i ≤ 9) (h9 : i = 9 → c ≤ 1) (hc : c < 256) :
    bits BinOp.or IntKind.u64 (acc : Int) (IntKind.u64.wrap (IntKind.u64.wrap (bits BinOp.and IntKind.u8 (c : Int) 127) * 2 ^ sh)) = ((acc + c % 128 * 128 ^ i : Nat) : Int) ∧ acc + c % 128 * 128 ^ i < 18446744073709551616 ∧ (i < 9 → acc + c % 128 * 128 ^ i < 128 ^ (i + 1)) := by
  subst hs
  have hp : 128 ^ i = 2 ^ (7 * i) := pow128 i
  have hb : acc + c % 128 * 128 ^ i < 18446744073709551616 ∧ (i < 9 → acc + c % 128 * 128 ^ i < 128 ^ (i + 1)) := by
    have h1 : c % 128 * 128 ^ i ≤ 127 * 128 ^ i := Nat.mul_le_mul_right _ (by omega)
    have h2 : 128 ^ (i + 1) = 128 * 128 ^ i := by rw [Nat.pow_succ, Nat.mul_comm]
    refine ⟨?_, fun _ => by omega⟩
    by_cases h : i = 9
    · subst h
      have := h9 rfl
      have h3 : c % 128 ≤ 1 := by omega
      have h4 : c % 128 * 128 ^ 9 ≤ 1 * 128 ^ 9 := Nat.mul_le_mul_right _ h3
      omega
    · have h5 : 128 ^ (i + 1) ≤ 128 ^ 9 := Nat.pow_le_pow_right (by decide) (by omega)
      omega
  refine ⟨?_, hb⟩
  rw [and127 c hc]
  have e1 : IntKind.u64.wrap ((c % 128 : Nat) : Int) = ((c % 128 : Nat) : Int) := by rw [IntKind.wrap_u64]; omega
  rw [e1]
  have e2 : (((c % 128 : Nat) : Int) * 2 ^ (7 * i)) = ((c % 128 * 128 ^ i : Nat) : Int) := by rw [hp]; push_cast; rfl
  rw [e2, IntKind.wrap_u64, Int.emod_eq_of_lt (by omega) (by omega)]
  have h64 : (IntKind.u64 : IntKind).bits = 64 := rfl
  rw [show bits BinOp.or IntKind.u64 (acc : Int) ((c % 128 * 128 ^ i : Nat) : Int) = ((acc ||| (c % 128 * 128 ^ i) : Nat) : Int) from
    (bits_nat .u64 64 (by decide) wraps_u64' acc (c % 128 * 128 ^ i) (by omega) (by omega)).2]
  congr 1
  rw [Nat.or_comm, hp, Nat.mul_comm, ← Nat.two_pow_add_eq_or_of_lt (by rw [← hp]; exact ha)]
  omega

set_option maxRecDepth 100000 in
set_option maxHeartbeats 4000000 in
theorem rnumber_any (bs : List Nat) (hbs : ∀ x ∈ bs, x < 256) (ao : Option Addr) (cap at_ : Nat) (cnt : Int) (rb : Nat) (w : World) (B : Nat) (h : RBy B w ao cap bs) (hr : Blk w rb #[.slice ao bs.length cap, .int .i64 at_, .int .i64 cnt] 112) (hB : B ≤ rb) (hat : at_ ≤ bs.length) :
    Calls Try.prog 65 #[.pointer (some ⟨rb, 0, none⟩)] w fun e w' => e = .returned (.tuple #[.int .u64 (rdN 0 0 (bs.drop at_)).2.1, .int .i64 (rdN 0 0 (bs.drop at_)).1]) ∧
      Blk w' rb #[.slice ao bs.length cap, .int .i64 (at_ + (rdN 0 0 (bs.drop at_)).2.2 : Nat), .int .i64 cnt] 112 ∧ Chg (fun k => k = rb) w w' := by
  have hle := SlA.len h
  have hr0 := hr.lt
  obtain ⟨res, hres⟩ : ∃ r, r = rdN 0 0 (bs.drop at_) := ⟨_, rfl⟩
  rw [← hres]
  obtain ⟨n, hn⟩ : ∃ n, n = bs.length := ⟨_, rfl⟩
  rw [← hn] at hr hat hle ⊢
  replace hn := Lib.hid hn
  go_enter Try.func65, Try.ntmps65
  go_wp2_with fail
  go_step3
  go_wp2_with fail
  go_step3
  go_wp2_with fail
  go_loopg [4, 5] 10 (fun g x4 x5 wr => ∃ (i acc sh p : Nat), i + g = 10 ∧ i ≤ 9 ∧ acc < 128 ^ i ∧ x4 = .int .u64 acc ∧ x5 = .int .i64 sh ∧ sh = 7 * i ∧ p = at_ + i ∧ p ≤ n ∧ Hid (res = rdN i acc (bs.drop p)) ∧ Blk wr rb #[.slice ao n cap, .int .i64 p, .int .i64 cnt] 112 ∧ Chg (fun k => k = rb) w wr)
  case atStart => exact ⟨0, 0, 0, at_, by omega, by omega, by decide, rfl, rfl, rfl, rfl, hat, Lib.hid hres, hr, Chg.refl _ _⟩
  case round =>
    obtain ⟨i, acc, sh, p, hig, hi, hacc, rfl, rfl, hsh, hp, hpn, hinv, hb, hch⟩ := hrel
    clear hr hres
    obtain ⟨q0, q1⟩ : wr.cell? ⟨rb, 0, none⟩ = some (.slice ao n cap) ∧ wr.cell? ⟨rb, 1, none⟩ = some (.int .i64 p) := ⟨hb.cellAt rfl, hb.cellAt rfl⟩
    have f1 := hb.frozen 1
    by_cases hlt : p < n
    · have hpl : p < bs.length := by rw [← hn.out]; exact hlt
      obtain ⟨b1, o1, rfl, hb1, _⟩ := SlA.addr h (by omega)
      obtain ⟨c, hc⟩ : ∃ c, bs[p] = c := ⟨_, rfl⟩
      have hc256 : c < 256 := by rw [← hc]; exact hbs _ (List.getElem_mem hpl)
      have q2 : wr.cell? ⟨b1, o1 + p, none⟩ = some (.int .u8 c) := by
        rw [hch.cell (p := ⟨b1, o1 + p, none⟩) (by have := hr0; simp; omega) (by simp; omega), h.at hpl, hc]
      rw [List.drop_eq_getElem_cons hpl, hc, rdN] at hinv
      have hds : p ≤ n := hpn
      have hsb : sh ≤ 63 := by omega
      replace hsh := Lib.hid hsh
      replace hp := Lib.hid hp
      have hb2 := fun k => ((hb.drewN k).set 1 (.int .i64 (p + 1 : Nat)))
      have hch2 := fun k => ((hch.drewN k).setCell ⟨rb, 1, none⟩ (.int .i64 (p + 1 : Nat)) (fun _ => rfl))
      replace hb2 : ∀ k, Blk ((wr.drewN k).setCell ⟨rb, 1, none⟩ (.int .i64 ((p : Int) + 1))) rb #[.slice (some ⟨b1, o1, none⟩) n cap, .int .i64 (p + 1 : Nat), .int .i64 cnt] 112 := hb2
      replace hch2 : ∀ k, Chg (fun k => k = rb) w ((wr.drewN k).setCell ⟨rb, 1, none⟩ (.int .i64 ((p : Int) + 1))) := hch2
      by_cases he1 : i = 9 ∧ 1 < c
      · have hs63 : ((sh : Int) == 63) = true := by have := hsh.out; simp; omega
        have hc1 : decide ((1 : Int) < (c : Int)) = true := by simp; omega
        rw [if_pos (.inl he1)] at hinv
        obtain rfl := hinv.out
        go_wp2_with fail
        go_quiet (fail)
        go_wp2_with fail
        go_quiet (fail)
        go_wp2_with fail
        try rw [Exit.noGoto_ret]
        go_ret2
        exact ⟨rfl, by have := hp.out; rw [show at_ + (i + 1) = p + 1 by omega]; exact hb2 _, hch2 _⟩
      · by_cases he2 : c = 0 ∧ 0 < i
        · have hc0 : ((c : Int) == 0) = true := by simp; omega
          have hs0 : 0 < sh := by have := hsh.out; omega
          obtain rfl : c = 0 := he2.1
          rw [if_pos (.inr he2)] at hinv
          obtain rfl := hinv.out
          go_wp2_with fail
          go_quiet (fail)
          go_wp2_with fail
          go_quiet (fail)
          go_wp2_with fail
          all_goals
            try rw [Exit.noGoto_ret]
            go_ret2
            exact ⟨rfl, by have := hp.out; rw [show at_ + (i + 1) = p + 1 by omega]; exact hb2 _, hch2 _⟩
        · rw [if_neg (by omega)] at hinv
          obtain ⟨hN, hN1, hN2⟩ := digit_or (c := c) hsh.out hacc hi (by omega) hc256
          have h4 : (((c : Int) == 0) = true ∧ ((sh : Int) == 63) = false ∧ ¬ 0 < sh ∧ decide ((0 : Int) < (sh : Int)) = false) ∨ (((c : Int) == 0) = false ∧ ((sh : Int) == 63) = false) ∨ (((c : Int) == 0) = false ∧ ((sh : Int) == 63) = true ∧ decide ((1 : Int) < (c : Int)) = false ∧ ¬ 1 < c) := by
            have := hsh.out
            by_cases hc0 : c = 0
            · left; exact ⟨by simp; omega, by simp; omega, by omega, by simp; omega⟩
            · by_cases h9 : i = 9
              · right; right; exact ⟨by simp; omega, by simp; omega, by simp; omega, by omega⟩
              · right; left; exact ⟨by simp; omega, by simp; omega⟩
          obtain ⟨acc2, hacc2⟩ : ∃ a, a = acc + c % 128 * 128 ^ i := ⟨_, rfl⟩
          rw [← hacc2] at hN hN1 hN2 hinv
          clear hacc2
          have hwf : IntKind.u64.wrap (acc2 : Int) = acc2 := by rw [IntKind.wrap_u64]; omega
          by_cases hc128 : c < 128
          · have hd128 : decide ((c : Int) < 128) = true := by simp; omega
            rw [if_pos hc128] at hinv
            obtain rfl := hinv.out
            rcases h4 with ⟨hc0, h63, hs0, hs0d⟩ | ⟨hc0, h63⟩ | ⟨hc0, h63, hc1, hc1n⟩
            all_goals
              go_wp2_with fail
              go_quiet (fail)
              go_wp2_with fail
              go_quiet (fail)
              go_wp2_with fail
              try rw [Exit.noGoto_ret]
              go_ret2
              exact ⟨rfl, by have := hp.out; rw [show at_ + (i + 1) = p + 1 by omega]; exact hb2 _, hch2 _⟩
          · have hd128 : decide ((c : Int) < 128) = false := by simp; omega
            rw [if_neg hc128] at hinv
            have hi9 : i < 9 := by omega
            cases gk with
            | zero => omega
            | succ g =>
              have hc0 : ((c : Int) == 0) = false := by simp; omega
              have h63 : ((sh : Int) == 63) = false := by have := hsh.out; simp; omega
              clear h4
              go_wp2_with fail
              go_quiet (fail)
              go_wp2_with fail
              go_quiet (fail)
              go_wp2_with fail
              go_roundg g
              case measure => omega
              case rel => exact ⟨i + 1, acc2, sh + 7, p + 1, by omega, by omega, hN2 hi9, rfl, rfl, by have := hsh.out; omega, by have := hp.out; omega, by omega, hinv, hb2 _, hch2 _⟩
    · have hpn2 : p = n := by omega
      rw [List.drop_of_length_le (by rw [← hn.out]; omega), rdN] at hinv
      obtain rfl := hinv.out
      subst hpn2
      replace hsh := Lib.hid hsh
      replace hp := Lib.hid hp
      go_wp2_with fail
      go_quiet (fail)
      go_wp2_with fail
      try rw [Exit.noGoto_ret]
      go_ret2
      exact ⟨rfl, by have := hp.out; rw [show at_ + i = p by omega]; exact hb.drewN _, hch.drewN _⟩
end Go.Proofs.Ytjgiphoolfhlmaa
