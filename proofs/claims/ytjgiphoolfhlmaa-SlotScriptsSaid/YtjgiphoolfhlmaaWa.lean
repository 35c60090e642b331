/- Wire: number. -/
import Derived.Test.YtjgiphoolfhlmaaWm
import Derived.Test.YtjgiphoolfhlmaaL1
import Derived.WalkKit
import Derived.WalkSpells
import Derived.WalkLawsBesides
import Derived.Deep.QuietTactic
import Derived.Deep.RegionHeld3
import Derived.BigQuiet
namespace Go.Proofs.Ytjgiphoolfhlmaa
open Go.RowKit
set_option linter.unusedVariables false

def encB (b : Nat) : List Value := [.int .u8 b]
theorem encB_len (b : Nat) : (encB b).length = 1 := rfl
theorem encB_one (b : Nat) : ∀ u ∈ encB b, u.oneCell' = true := by
  intro u hu
  simp only [encB, List.mem_singleton] at hu
  subst hu; rfl
theorem infoB : (Try.prog.info? 5).map (fun i => (i.zero, i.size, i.bytes)) = some (some (.int .u8 0), 1, 1) := by kernel_rfl
/-- A row of bytes of the call's own. -/
abbrev OwnB (w : World) (base : Nat) (v : Value) (bs : List Nat) : Prop := OwnL encB w base 5 1 v bs

theorem digsF_big {f n : Nat} (h : 128 ≤ n) : digsF (f + 1) n = (n % 128 + 128) :: digsF f (n / 128) := by rw [digsF, if_pos h]
theorem digsF_small {f n : Nat} (h : n < 128) : digsF (f + 1) n = [n] := by rw [digsF, if_neg (by omega)]

theorem or128 (m : Nat) : bits BinOp.or IntKind.u8 ((m : Int) % 256) 128 = ((m % 128 + 128 : Nat) : Int) := by
  have h : (m : Int) % 256 = ((m % 256 : Nat) : Int) := by omega
  rw [h]
  have hk : ∀ k : Fin 256, bits BinOp.or IntKind.u8 ((k.1 : Nat) : Int) 128 = ((k.1 % 128 + 128 : Nat) : Int) := by decide +kernel
  have := hk ⟨m % 256, Nat.mod_lt _ (by omega)⟩
  simp only at this
  rw [this]
  congr 1
  omega

set_option maxRecDepth 100000 in
set_option maxHeartbeats 1000000 in
theorem number_any (v : Value) (bs : List Nat) (n : Nat) (w : World) (base : Nat) (hb : base ≤ w.heap.size) (h : OwnB w base v bs) (hn : n < 18446744073709551616) (hl : bs.length ≤ 140737488300000) :
    Calls Try.prog 57 #[v, .int .u64 n] w fun e w' => ∃ v', e = .returned v' ∧ OwnB w' base v' (bs ++ digs n) ∧ Grew w v w' v' := by
  obtain ⟨i0, hi, hz0, hz1, hz2⟩ := info_parts infoB
  replace hl := Lib.hid hl
  replace hn := Lib.hid hn
  obtain ⟨res, hres⟩ : ∃ res, res = bs ++ digs n := ⟨_, rfl⟩
  rw [← hres]
  replace hres := Lib.hid hres
  go_enter Try.func57, Try.ntmps57
  go_wp2_with fail
  go_loopw [0, 1] (fun x0 x1 wr => ∃ (f m : Nat) (L : List Nat), x1 = .int .u64 m ∧ Hid (m < 18446744073709551616) ∧ OwnB wr base x0 L ∧ Grew w v wr x0 ∧ f ≤ 9 ∧ L.length + f ≤ bs.length + 9 ∧ Hid (m < 128 ^ (f + 1) ∧ L ++ digsF (f + 1) m = res)) (fun _ x1 _ => (intOf x1).toNat)
  case atStart => exact ⟨9, n, bs, rfl, hn, h, Grew.refl _ _, by omega, by omega, Lib.hid ⟨by have := hn.out; omega, hres.out.symm⟩⟩
  case round =>
    obtain ⟨f, m, L, rfl, hm, hown, hgr, hf9, hLl, hinv⟩ := hrel
    have hLn : L.length + 1 ≤ 140737488355328 := by have := hl.out; omega
    replace hLn := Lib.hid hLn
    by_cases hbig : 128 ≤ m
    · obtain ⟨y, hy⟩ : ∃ y : Nat, y = m % 128 + 128 := ⟨_, rfl⟩
      have hor := or128 m
      rw [← hy] at hor
      replace hy := Lib.hid hy
      have hbw := hgr.grown.size
      go_wp2_with (at_builtin; (refine wpList_app1g rfl _ _ 44 rfl Try.underlying44 hi hz0 hz1 hz2 rfl (by decide) (enc := encB) y rfl hown rfl (encB_len _) (encB_one _) ?hb1 ?hb2 (Nat.le_trans hb hbw) ?next))
      case hb1 => have := hLn.out; omega
      case hb2 => have := hLn.out; unfold maxLen; omega
      case next =>
      intro g cap w2 hown2 hgr2
      have hst : ∃ f', f = f' + 1 ∧ m / 128 < 128 ^ f := by
        cases f with
        | zero => have := hinv.out.1; omega
        | succ f' => exact ⟨f', rfl, Nat.div_lt_of_lt_mul (by have := hinv.out.1; rw [Nat.pow_succ, Nat.mul_comm] at this; exact this)⟩
      obtain ⟨f', rfl, hm128⟩ := hst
      have hinv2 := hinv.out.2
      rw [digsF_big hbig, ← hy.out] at hinv2
      have hfin : Hid (m / 128 < 128 ^ (f' + 1) ∧ L ++ [y] ++ digsF (f' + 1) (m / 128) = res) := Lib.hid ⟨hm128, by rw [List.append_assoc]; exact hinv2⟩
      have hm2 : Hid (m / 128 < 18446744073709551616) := Lib.hid (by have := hm.out; omega)
      have hgr2 := hgr.trans hgr2
      clear hm128 hinv2
      go_wp2_with fail
      go_roundw
      case rel =>
        refine ⟨f', m / 128, L ++ [y], ?_, hm2, ?_, hgr2, by omega, by simp; omega, hfin⟩
        · exact congrArg _ (by omega)
        · simpa using hown2
      case measure =>
        simp [intOf]
        omega
    · have hsm : m < 128 := by omega
      have hinv2 := hinv.out.2
      rw [digsF_small hsm] at hinv2
      replace hinv2 := Lib.hid hinv2
      have hbw := hgr.grown.size
      have hw8 : (m : Int) % 256 = m := by omega
      go_wp2_with (at_builtin; (refine wpList_app1g rfl _ _ 44 rfl Try.underlying44 hi hz0 hz1 hz2 rfl (by decide) (enc := encB) m rfl hown rfl (encB_len _) (encB_one _) ?hb1 ?hb2 (Nat.le_trans hb hbw) ?next))
      case hb1 => have := hLn.out; omega
      case hb2 => have := hLn.out; unfold maxLen; omega
      case next =>
      intro g cap w2 hown2 hgr2
      have hgr2 := hgr.trans hgr2
      rw [hinv2.out] at hown2
      go_wp2_with fail
      go_ret
      exact ⟨_, rfl, hown2, hgr2⟩
end Go.Proofs.Ytjgiphoolfhlmaa
