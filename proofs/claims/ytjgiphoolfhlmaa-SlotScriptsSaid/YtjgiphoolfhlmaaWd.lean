/- Wire: the reference's digits and form. -/
import Derived.Test.YtjgiphoolfhlmaaWc
namespace Go.Proofs.Ytjgiphoolfhlmaa
open Go.RowKit
set_option linter.unusedVariables false

set_option maxRecDepth 100000 in
set_option maxHeartbeats 1000000 in
theorem digits_any (n : Nat) (w : World) (hn : n < 18446744073709551616) :
    Calls Try.prog 64 #[.int .u64 n] w fun e w' => ∃ v', e = .returned v' ∧ OwnB w' w.heap.size v' (digs n) ∧ Below w.heap.size w w' := by
  obtain ⟨i0, hi, hz0, hz1, hz2⟩ := info_parts infoB
  replace hn := Lib.hid hn
  obtain ⟨res, hres⟩ : ∃ res, res = digs n := ⟨_, rfl⟩
  rw [← hres]
  replace hres := Lib.hid hres
  go_enter Try.func64, Try.ntmps64
  go_wp2_with fail
  go_loopw [0, 3] (fun x1 x0 wr => ∃ (f m : Nat) (L : List Nat), x1 = .int .u64 m ∧ Hid (m < 18446744073709551616) ∧ OwnB wr w.heap.size x0 L ∧ Below w.heap.size w wr ∧ f ≤ 9 ∧ L.length + f ≤ 9 ∧ Hid (m < 128 ^ (f + 1) ∧ L ++ digsF (f + 1) m = res)) (fun x1 _ _ => (intOf x1).toNat)
  case atStart => exact ⟨9, n, [], rfl, hn, OwnL.nil _ _ _ _ _, Below.refl _ _, by omega, by simp, Lib.hid ⟨by have := hn.out; omega, hres.out.symm⟩⟩
  case round =>
    obtain ⟨f, m, L, rfl, hm, hown, hgr, hf9, hLl, hinv⟩ := hrel
    have hLn : L.length + 1 ≤ 140737488355328 := by omega
    have hown0 := hown
    replace hLn := Lib.hid hLn
    by_cases hbig : 128 ≤ m
    · obtain ⟨y, hy⟩ : ∃ y : Nat, y = m % 128 + 128 := ⟨_, rfl⟩
      have hor : (m : Int) % 128 + 128 = ((y : Nat) : Int) := by omega
      replace hy := Lib.hid hy
      have hbw := hgr.size
      go_wp2_with (at_builtin; (refine wpList_app1g rfl _ _ 44 rfl Try.underlying44 hi hz0 hz1 hz2 rfl (by decide) (enc := encB) y rfl hown rfl (encB_len _) (encB_one _) ?hb1 ?hb2 hbw ?next))
      case hb1 => have := hLn.out; omega
      case hb2 => have := hLn.out; unfold maxLen; omega
      case next =>
      intro g cap w2 hown2 hgr2
      have hst : ∃ f', f = f' + 1 ∧ m / 128 < 128 ^ f := by
        cases f with
        | zero => have := hinv.out.1; omega
        | succ f' => exact ⟨f', rfl, Nat.div_lt_of_lt_mul (by have := hinv.out.1; rw [Nat.pow_succ, Nat.mul_comm] at this; exact this)⟩
      obtain ⟨f', rfl, hm128⟩ := hst
      have hinv2 := hinv.out.2
      rw [digsF_big hbig, ← hy.out] at hinv2
      have hfin : Hid (m / 128 < 128 ^ (f' + 1) ∧ L ++ [y] ++ digsF (f' + 1) (m / 128) = res) := Lib.hid ⟨hm128, by rw [List.append_assoc]; exact hinv2⟩
      have hm2 : Hid (m / 128 < 18446744073709551616) := Lib.hid (by have := hm.out; omega)
      have hgr2 := hgr.trans (hgr2.below hbw (fun g hg => (hown0.lt g hg).1))
      clear hm128 hinv2
      go_wp2_with fail
      go_roundw
      case rel =>
        refine ⟨f', m / 128, L ++ [y], ?_, hm2, ?_, hgr2, by omega, by simp; omega, hfin⟩
        · have hmb := hm.out
          exact congrArg _ (by rw [IntKind.wrap_u64]; omega)
        · simpa using hown2
      case measure =>
        have hmb := hm.out
        have hwm : IntKind.u64.wrap ((m : Int) / 128) = ((m / 128 : Nat) : Int) := by rw [IntKind.wrap_u64]; omega
        rw [hwm]
        simp only [intOf, Int.toNat_natCast]
        omega
    · have hsm : m < 128 := by omega
      have hinv2 := hinv.out.2
      rw [digsF_small hsm] at hinv2
      replace hinv2 := Lib.hid hinv2
      have hbw := hgr.size
      have hw8 : (m : Int) % 256 = m := by omega
      go_wp2_with (at_builtin; (refine wpList_app1g rfl _ _ 44 rfl Try.underlying44 hi hz0 hz1 hz2 rfl (by decide) (enc := encB) m rfl hown rfl (encB_len _) (encB_one _) ?hb1 ?hb2 hbw ?next))
      case hb1 => have := hLn.out; omega
      case hb2 => have := hLn.out; unfold maxLen; omega
      case next =>
      intro g cap w2 hown2 hgr2
      have hgr2 := hgr.trans (hgr2.below hbw (fun g hg => (hown0.lt g hg).1))
      rw [hinv2.out] at hown2
      go_wp2_with fail
      go_ret
      exact ⟨_, rfl, hown2, hgr2⟩

theorem natEq0 (n : Nat) : ((n : Int) == 0) = decide (n = 0) := by
  by_cases h : n = 0
  · subst h; rfl
  · simp [h]
theorem empty_eq {s : ByteArray} (h : s.size = 0) : s = ⟨#[]⟩ := empty_bytes h

set_option maxRecDepth 100000 in
set_option maxHeartbeats 1000000 in
theorem form_any (kd nm : Int) (tx : ByteArray) (la : Option Addr) (lc : Nat) (ls : List Itm) (w : World) :
    Calls Try.prog 63 #[.agg #[.int .i64 kd, .int .i64 nm, .string tx, .slice la ls.length lc]] w fun e w' => e = .returned (.bool (formI (.mk kd nm tx ls))) ∧ Below w.heap.size w w' := by
  obtain ⟨r, hr⟩ : ∃ r, r = formI (.mk kd nm tx ls) := ⟨_, rfl⟩
  rw [← hr]
  rw [formI] at hr
  obtain ⟨n, hn⟩ : ∃ n, n = ls.length := ⟨_, rfl⟩
  rw [← hn] at hr ⊢
  clear hn
  go_enter Try.func63, Try.ntmps63
  by_cases h0 : kd = 0
  · subst h0
    rw [if_pos rfl] at hr
    by_cases hs : tx.size = 0
    · obtain rfl := empty_bytes hs
      subst hr
      go_wp2_with fail
      go_ret
      exact ⟨by rw [natEq0]; first | rfl | simp, (by repeat (first | exact Below.refl _ _ | refine below_drewN ?_ _ | refine Below.drew ?_ | (refine Below.alloc ?_ (by simp; try omega) _)))⟩
    · have hS := nonempty_bytes (s := tx) (by omega)
      have hr2 : r = false := by rw [hr]; simp [hs]
      subst hr2
      clear hr
      go_wp2_with fail
      go_ret
      exact ⟨rfl, (by repeat (first | exact Below.refl _ _ | refine below_drewN ?_ _ | refine Below.drew ?_ | (refine Below.alloc ?_ (by simp; try omega) _)))⟩
  · rw [if_neg h0] at hr
    by_cases h1 : kd = 1
    · subst h1
      rw [if_pos rfl] at hr
      by_cases hs : nm = 0
      · subst hs
        subst hr
        go_wp2_with fail
        go_ret
        exact ⟨by rw [natEq0]; first | rfl | simp, (by repeat (first | exact Below.refl _ _ | refine below_drewN ?_ _ | refine Below.drew ?_ | (refine Below.alloc ?_ (by simp; try omega) _)))⟩
      · have hN : (nm == 0) = false := by simpa using hs
        have hr2 : r = false := by rw [hr]; simp [hs]
        subst hr2
        clear hr
        go_wp2_with fail
        go_ret
        exact ⟨rfl, (by repeat (first | exact Below.refl _ _ | refine below_drewN ?_ _ | refine Below.drew ?_ | (refine Below.alloc ?_ (by simp; try omega) _)))⟩
    · rw [if_neg h1] at hr
      by_cases h2 : kd = 2
      · subst h2
        rw [if_pos rfl] at hr
        by_cases hs : nm = 0
        · subst hs
          by_cases hs : tx.size = 0
          · obtain rfl := empty_bytes hs
            have hr2 : r = true := by rw [hr]; rfl
            subst hr2
            clear hr
            go_wp2_with fail
            go_ret
            exact ⟨rfl, (by repeat (first | exact Below.refl _ _ | refine below_drewN ?_ _ | refine Below.drew ?_ | (refine Below.alloc ?_ (by simp; try omega) _)))⟩
          · have hS := nonempty_bytes (s := tx) (by omega)
            have hr2 : r = false := by rw [hr]; simp [hs]
            subst hr2
            clear hr
            go_wp2_with fail
            go_ret
            exact ⟨rfl, (by repeat (first | exact Below.refl _ _ | refine below_drewN ?_ _ | refine Below.drew ?_ | (refine Below.alloc ?_ (by simp; try omega) _)))⟩
        · have hN : (nm == 0) = false := by simpa using hs
          have hr2 : r = false := by rw [hr]; simp [hs]
          subst hr2
          clear hr
          go_wp2_with fail
          go_ret
          exact ⟨rfl, (by repeat (first | exact Below.refl _ _ | refine below_drewN ?_ _ | refine Below.drew ?_ | (refine Below.alloc ?_ (by simp; try omega) _)))⟩
      · rw [if_neg h2] at hr
        subst hr
        have e0 : (kd == 0) = false := by simpa using h0
        have e1 : (kd == 1) = false := by simpa using h1
        have e2 : (kd == 2) = false := by simpa using h2
        go_wp2_with fail
        go_ret
        exact ⟨rfl, (by repeat (first | exact Below.refl _ _ | refine below_drewN ?_ _ | refine Below.drew ?_ | (refine Below.alloc ?_ (by simp; try omega) _)))⟩
end Go.Proofs.Ytjgiphoolfhlmaa
