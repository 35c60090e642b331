/- Model: find. -/
import Derived.Test.YtbianedgogdeeaaNb
import Derived.Test.YtbianedgogdeeaaNf
namespace Go.Proofs.Ytbianedgogdeeaa
open Go.RowKit Go.Maps Fold Go.Lib
attribute [local go_sem] Oper.semAt_some
set_option linter.unusedVariables false
set_option linter.unusedSimpArgs false

theorem bytes_ne {a b : ByteArray} (h : a ≠ b) : ¬ a.toList = b.toList := fun e => h (by
  rw [ByteArray.toList_eq, ByteArray.toList_eq] at e
  obtain ⟨⟨x⟩⟩ := a
  obtain ⟨⟨y⟩⟩ := b
  simpa using e)
set_option maxRecDepth 100000 in
set_option maxHeartbeats 1600000 in
theorem find_any (l : List ByteArray) (s : ByteArray) (ao : Option Addr) (n cap B : Nat) (w : World) (hn : n = l.length) (hx : SlA B 1 (fun _ cs x => cs = encT x) w ao cap l) :
    Calls Try.prog 26 #[.slice ao n cap, .string s] w fun e w' => e = .returned (.int .i64 (findI s l 0)) ∧ w' = w := by
  obtain ⟨r, hr⟩ : ∃ r, r = findI s l 0 := ⟨_, rfl⟩
  have hl := hx.len
  rw [← hn] at hl
  rw [← hr]
  replace hn := Lib.hid hn
  replace hr := Lib.hid hr
  go_enter Try.func26, Try.ntmps26
  go_wp2_with fail
  go_loopw [5] (fun x5 wr => ∃ i : Nat, i ≤ n ∧ x5 = .int .i64 i ∧ wr = w ∧ Hid (findI s (l.drop i) i = r)) (fun x5 _ => n - (intOf x5).toNat)
  case atStart => exact ⟨0, Nat.zero_le _, rfl, rfl, Lib.hid hr.out.symm⟩
  case round =>
    obtain ⟨i, hi, rfl, rfl, hpre⟩ := hrel
    by_cases hin : i < n
    · have d1 : decide ((i : Int) < (n : Int)) = true := by simp; omega
      have hil : i < l.length := by rw [← hn.out]; exact hin
      obtain ⟨b, off, rfl, hb, _⟩ := hx.addr (by omega)
      obtain ⟨cs, -, hc, hcs⟩ := hx.get i hil
      have c0 : wr.cell? ⟨b, off + i, none⟩ = some (.string l[i]) := by rw [hcs] at hc; simpa [encT] using hc 0 (by omega)
      obtain ⟨k, hk⟩ : ∃ k, k = l[i] := ⟨_, rfl⟩
      have hstep : findI s (l.drop i) i = if k = s then (i : Int) else findI s (l.drop (i + 1)) (i + 1) := by
        rw [List.drop_eq_getElem_cons hil, hk]
        rfl
      rw [← hk] at c0
      replace hk := Lib.hid hk
      clear hc hcs hx
      by_cases he : k = s
      · subst he
        have hre : r = (i : Int) := by rw [← hpre.out, hstep, if_pos rfl]
        subst hre
        clear hpre hstep
        go_wp2_with fail
        go_ret
        exact ⟨rfl, rfl⟩
      · have h1 := bytes_ne he
        have h2 : (k.toList == s.toList) = false := by simpa using h1
        have hpre' : Hid (findI s (l.drop (i + 1)) (i + 1) = r) := Lib.hid (by rw [← hpre.out, hstep, if_neg he])
        clear hpre hstep
        go_wp2_with fail
        go_roundw
        case rel => exact ⟨i + 1, by omega, by go_num, by first | rfl | trivial, hpre'⟩
        case measure => simp [intOf]; omega
    · have d1 : decide ((i : Int) < (n : Int)) = false := by simp; omega
      have hre : r = -1 := by
        rw [← hpre.out, List.drop_of_length_le (by have := hn.out; omega)]
        rfl
      subst hre
      clear hpre
      go_wp2_with fail
      go_ret
      exact ⟨rfl, rfl⟩
end Go.Proofs.Ytbianedgogdeeaa
