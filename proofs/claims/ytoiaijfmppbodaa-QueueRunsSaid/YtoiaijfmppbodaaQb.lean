/- Queue: name, known. -/
import Derived.Test.YtoiaijfmppbodaaQa
import Derived.Laws.IdiomStrings
namespace Go.Proofs.Ytoiaijfmppbodaa
open Go.RowKit

theorem q_below {b rb B : Nat} {w w' : World} (h : Chg (BothQ b rb) w w') (hB : B ≤ w.heap.size) (h1 : B ≤ b) (h2 : B ≤ rb) : Below B w w' :=
  h.below hB (fun k hk hb => by rcases hb with rfl | rfl <;> omega)

def names (j : Nat) : List Value := (List.range j).map fun i => .string ⟨#[UInt8.ofNat (97 + i / 26), UInt8.ofNat (97 + i % 26)]⟩
def nm (n : Nat) : ByteArray := ⟨#[UInt8.ofNat (97 + n / 26), UInt8.ofNat (97 + n % 26)]⟩

theorem names_length (j : Nat) : (names j).length = j := by simp [names]
theorem names_succ (j : Nat) : names (j + 1) = names j ++ [.string (nm j)] := by simp [names, nm, List.range_succ]
theorem names_drop (c j : Nat) (h : j < c) : (names c).drop j = .string (nm j) :: (names c).drop (j + 1) := by
  rw [List.drop_eq_getElem_cons (by rw [names_length]; exact h)]
  congr 1
  simp [names, nm]

set_option maxHeartbeats 400000 in
theorem name_any (n : Nat) (w : World) (hn : n < 1000) :
    Calls Try.prog 10 #[.int .i64 n] w fun e w' => e = .returned (.string (nm n)) ∧ Chg (fun _ => False) w w' := by
  have hcv : (convert 59 9 (.slice (some ⟨w.heap.size, 0, none⟩) 2 2)).run Try.prog (w.alloc (.cells #[.int .u8 (97 + (n : Int) / 26), .int .u8 (97 + (n : Int) % 26)] 5)) =
      .ok (.string (nm n)) (w.alloc (.cells #[.int .u8 (97 + (n : Int) / 26), .int .u8 (97 + (n : Int) % 26)] 5)) := by
    refine run_convert_bytes_back _ _ _ 5 ⟨w.heap.size, 0, none⟩ 2 [UInt8.ofNat (97 + n / 26), UInt8.ofNat (97 + n % 26)] Try.underlying59 Try.underlying5 Try.underlying9 ?_
    intro j hj
    have e1 : (97 + n / 26) % 256 = 97 + n / 26 := by omega
    have e2 : (97 + n % 26) % 256 = 97 + n % 26 := by omega
    match j, hj with
    | 0, _ => simp [Addr.add, e1]
    | 1, _ => simp [Addr.add, e2]
  go_enter Try.func10, Try.ntmps10
  go_wp2
  go_ret
  exact ⟨rfl, (Chg.refl _ _).alloc _⟩

set_option maxHeartbeats 1000000 in
theorem known_any (w : World) :
    Calls Try.prog 6 #[] w fun e w' => e = .returned (.bool true) ∧ Below w.heap.size w w' := by
  go_enter Try.func6, Try.ntmps6
  go_wp2_with fail
  refine (Qint.new_ok 2 _ (by omega) (by omega)).mono ?_
  rintro e w1 ⟨b, rb, rfl, h1, hb, hrb, g1⟩
  go_wp2_with fail
  refine (Qint.put_room w1 _ _ b rb 2 [] 1 h1 (by simp)).mono ?_
  rintro e w2 ⟨rfl, h2, g2⟩
  go_wp2_with fail
  refine (Qint.put_room w2 _ _ b rb 2 _ 2 h2 (by simp)).mono ?_
  rintro e w3 ⟨rfl, h3, g3⟩
  go_wp2_with fail
  refine (Qint.put_full w3 _ _ b rb 2 _ 3 h3 (by simp)).mono ?_
  rintro e w4 ⟨rfl, h4, g4⟩
  go_wp2_with fail
  refine (Qint.take_some w4 _ _ b rb 2 1 [.int .i64 2] h4).mono ?_
  rintro e w5 ⟨rfl, h5, g5⟩
  go_wp2_with fail
  refine (Qint.credit_ql w5 _ _ b rb 2 _ h5).mono ?_
  rintro e w6 ⟨rfl, m, rfl⟩
  go_wp2_with fail
  go_ret
  have b1 := g1.below (B := w.heap.size) (Nat.le_refl _) (by simp)
  have b2 := b1.trans (q_below g2 b1.size hb hrb)
  have b3 := b2.trans (q_below g3 b2.size hb hrb)
  have b4 := b3.trans (q_below g4 b3.size hb hrb)
  have b5 := b4.trans (q_below g5 b4.size hb hrb)
  exact ⟨rfl, below_drewN b5 _⟩

theorem tmod_u64 (a : Int) (m : Nat) (hm : 0 < m) : ∃ r : Nat, r < m ∧ (IntKind.u64.wrap a).tmod m = r := by
  have h0 : 0 ≤ IntKind.u64.wrap a := by
    have : IntKind.u64.wrap a = a % 18446744073709551616 := rfl
    rw [this]
    exact Int.emod_nonneg _ (by decide)
  refine ⟨((IntKind.u64.wrap a).tmod m).toNat, ?_, ?_⟩
  · have h1 := Int.tmod_lt_of_pos (IntKind.u64.wrap a) (show (0 : Int) < m by omega)
    have h2 := Int.tmod_nonneg (m : Int) h0
    omega
  · have h2 := Int.tmod_nonneg (m : Int) h0
    omega
theorem credit_of (a : Int) : ∃ c : Nat, 1 ≤ c ∧ c ≤ 64 ∧ wrap64 (1 + wrap64 ((IntKind.u64.wrap a).tmod 64)) = c := by
  obtain ⟨r, hr, e⟩ := tmod_u64 a 64 (by decide)
  refine ⟨r + 1, by omega, by omega, ?_⟩
  have e' : (IntKind.u64.wrap a).tmod 64 = r := e
  have e2 : wrap64 (r : Int) = r := IntWalk.wrap64_in _ ⟨by omega, by omega⟩
  rw [e', e2, IntWalk.wrap64_in _ ⟨by omega, by omega⟩]
  omega
theorem again_of (a : Int) : ∃ c : Nat, c ≤ 4 ∧ wrap64 ((IntKind.u64.wrap a).tmod 5) = c := by
  obtain ⟨r, hr, e⟩ := tmod_u64 a 5 (by decide)
  refine ⟨r, by omega, ?_⟩
  have e' : (IntKind.u64.wrap a).tmod 5 = r := e
  rw [e', IntWalk.wrap64_in _ ⟨by omega, by omega⟩]

set_option maxHeartbeats 2000000 in
theorem full_walk (a0 : Int) (a1 : Int) (w : World) :
    Calls Try.prog 3 #[.int .i64 a0, .int .i64 a1] w fun e w' => e = .returned (.bool true) ∧ Below w.heap.size w w' := by
  go_enter Try.func3, Try.ntmps3
  go_wp2_with fail
  refine (known_any w).mono ?_
  rintro e v1 ⟨rfl, g1⟩
  go_wp2_with fail
  obtain ⟨c, hc1, hc2, hc⟩ : ∃ c : Nat, 1 ≤ c ∧ c ≤ 64 ∧ wrap64 (1 + wrap64 ((IntKind.u64.wrap a0).tmod 64)) = c := credit_of a0
  obtain ⟨ag, hag, hag'⟩ : ∃ c : Nat, c ≤ 4 ∧ wrap64 ((IntKind.u64.wrap a1).tmod 5) = c := again_of a1
  rw [hc, hag']
  clear hc hag'
  refine (Qstring.new_ok c _ hc1 hc2).mono ?_
  rintro e v2 ⟨b, rb, rfl, h1, hb, hrb, g2⟩
  have b1 := g1.trans (g2.below (B := w.heap.size) g1.size (by simp))
  have hb' : w.heap.size ≤ b := Nat.le_trans g1.size hb
  have hrb' : w.heap.size ≤ rb := Nat.le_trans g1.size hrb
  clear g1 g2 hb hrb
  go_wp2_with fail
  go_loopw [7] (fun k wr => ∃ kk : Nat, kk ≤ ag + 1 ∧ k = .int .i64 kk ∧ QL wr 58 9 b rb c [] ∧ Below w.heap.size w wr) (fun k _ => ag + 1 - (intOf k).toNat)
  case atStart => exact ⟨0, by omega, rfl, h1, b1⟩
  case round =>
    obtain ⟨kk, hk, rfl, hq, hb2⟩ := hrel
    clear h1 b1
    by_cases hlt : kk ≤ ag
    · go_wp2_with fail
      obtain ⟨wo, hwo⟩ : ∃ wo : World, wo = wr := ⟨_, rfl⟩
      subst hwo
      go_loopw [8] (fun i wr => ∃ j : Nat, j ≤ c ∧ i = .int .i64 j ∧ QL wr 58 9 b rb c (names j) ∧ Below w.heap.size w wr) (fun i _ => c - (intOf i).toNat)
      case atStart => exact ⟨0, by omega, rfl, hq, hb2⟩
      case round =>
        clear hq hb2
        obtain ⟨j, hj, rfl, hq, hb2⟩ := hrel
        by_cases hjc : j < c
        · go_wp2_with fail
          refine (Qstring.credit_ql _ _ _ b rb c _ hq).mono ?_
          rintro e w3 ⟨rfl, m, rfl⟩
          rw [names_length]
          go_wp2_with fail
          refine (name_any j _ (by omega)).mono ?_
          rintro e w4 ⟨rfl, g4⟩
          have hq4 := (hq.drewN m).chg g4 (by simp) (by simp)
          have b4 := (below_drewN hb2 m).trans (g4.below (B := w.heap.size) hb2.size (by simp))
          clear hq hb2 g4
          go_wp2_with fail
          refine (Qstring.put_room _ _ _ b rb c _ _ hq4 (by rw [names_length]; exact hjc)).mono ?_
          rintro e w5 ⟨rfl, hq5, g5⟩
          have b5 := b4.trans (q_below g5 b4.size hb' hrb')
          rw [← names_succ] at hq5
          clear hq4 b4 g5
          go_wp2_with fail
          go_roundw
          case rel => exact ⟨j + 1, by omega, by go_num, hq5, b5⟩
          case measure => simp [intOf]; omega
        · obtain rfl : j = c := by omega
          go_wp2_with fail
          refine (Qstring.put_full _ _ _ b rb j _ _ hq (by rw [names_length])).mono ?_
          rintro e w5 ⟨rfl, hq5, g5⟩
          have b5 := hb2.trans (q_below g5 hb2.size hb' hrb')
          clear hq hb2 g5
          go_wp2_with fail
          refine (Qstring.len_ql _ _ _ b rb j _ hq5).mono ?_
          rintro e w6 ⟨rfl, rfl⟩
          rw [names_length]
          go_wp2_with fail
          obtain ⟨wp, hwp⟩ : ∃ wp : World, wp = w5 := ⟨_, rfl⟩
          subst hwp
          go_loopw [9] (fun i wr => ∃ k : Nat, k ≤ j ∧ i = .int .i64 k ∧ QL wr 58 9 b rb j ((names j).drop k) ∧ Below w.heap.size w wr) (fun i _ => j - (intOf i).toNat)
          case atStart => exact ⟨0, by omega, rfl, hq5, b5⟩
          case round =>
            clear hq5 b5
            obtain ⟨k, hkc, rfl, hq, hb2⟩ := hrel
            by_cases hjc : k < j
            · rw [names_drop j k hjc] at hq
              go_wp2_with fail
              refine (Qstring.take_some _ _ _ b rb j _ _ hq).mono ?_
              rintro e w5 ⟨rfl, hq5, g5⟩
              have b5 := hb2.trans (q_below g5 hb2.size hb' hrb')
              clear hq hb2 g5
              go_wp2_with fail
              refine (name_any k _ (by omega)).mono ?_
              rintro e w4 ⟨rfl, g4⟩
              have hq4 := hq5.chg g4 (by simp) (by simp)
              have b4 := b5.trans (g4.below (B := w.heap.size) b5.size (by simp))
              clear hq5 b5 g4
              go_wp2_with fail
              go_roundw
              case rel => exact ⟨k + 1, by omega, by go_num, hq4, b4⟩
              case measure => simp [intOf]; omega
            · obtain rfl : k = j := by omega
              rw [List.drop_of_length_le (by rw [names_length]; omega)] at hq
              go_wp2_with fail
              go_roundw
              case rel => exact ⟨kk + 1, by omega, by go_num, hq, hb2⟩
              case measure => simp [intOf]; omega
    · go_wp2_with fail
      refine (Qstring.take_none _ _ _ b rb c hq).mono ?_
      rintro e w5 ⟨rfl, rfl⟩
      go_wp2_with fail
      go_ret
      exact ⟨rfl, hb2⟩
end Go.Proofs.Ytoiaijfmppbodaa
