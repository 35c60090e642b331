/- Wire: the reference's Encode. -/
import Derived.Test.YtjgiphoolfhlmaaWg
namespace Go.Proofs.Ytjgiphoolfhlmaa
open Go.RowKit
set_option linter.unusedVariables false

set_option maxRecDepth 100000 in
set_option maxHeartbeats 1000000 in
theorem refEncode_any (d : Nat) (l : List Itm) (ao : Option Addr) (cap : Nat) (w : World) (B : Nat) (h : RIts d B w ao cap l) (hB : B ≤ w.heap.size) :
    Calls Try.prog 32 #[.slice ao l.length cap] w (EncR B w.heap.size w (encV l)) := by
  obtain ⟨r, hr⟩ : ∃ r, r = encV l := ⟨_, rfl⟩
  rw [← hr]
  unfold encV at hr
  replace hr := Lib.hid hr
  go_enter Try.func32, Try.ntmps32
  go_wp2_with (go_at_call 50; refine (check_any d l ao cap 1 0 _ B h hB (by decide) (by decide)).mono ?kc)
  case kc =>
  rintro e w2 ⟨rfl, hb2⟩
  obtain ⟨⟨c2, e2⟩, hr2⟩ : ∃ r2, r2 = chkL l 1 0 := ⟨_, rfl⟩
  have hck := chkL_ok l 1 0
  have hne := nestL_chk l 1 0
  have hrr := hr.out
  rw [← hr2] at hrr hck hne ⊢
  simp only at hrr hck hne ⊢
  replace hrr := Lib.hid hrr
  clear hr
  by_cases he2 : e2 = 0
  · subst he2
    obtain ⟨hok, hcn, hc4⟩ := hck rfl
    have hc4 := hc4 (by omega)
    have hsz := size_any 8 d l ao cap w2 B (h.below (hb2.mono hB)) (Nat.le_trans hB hb2.size) (hne rfl) (by decide)
    have hsp := szL_spec l 0
    obtain ⟨s, hs⟩ : ∃ s, s = szL l 0 := ⟨_, rfl⟩
    rw [← hs] at hsz hsp
    have hs2 := hb2.size
    replace hs := Lib.hid hs
    replace hcn := Lib.hid hcn
    replace hr2 := Lib.hid hr2
    obtain ⟨hsb, hsc⟩ := hsz
    clear hck hne
    go_wp2_with (go_at_call 51; refine hsc.mono ?ks)
    case ks =>
    rintro e w3 ⟨rfl, hb3⟩
    have hb3 := hb2.trans (hb3.mono hs2)
    have hs3 := hb3.size
    clear hsc
    by_cases hbig : 65536 < s
    · have hd : decide ((65536 : Int) < (s : Int)) = true := by simp; omega
      have hrv : r = (2, []) := by rw [hrr.out]; simp; omega
      subst hrv
      clear hrr hsp
      go_wp2_with fail
      go_ret2
      exact ⟨hb3.mono hB, _, rfl, OwnL.nil _ _ _ _ _⟩
    · have hd : decide ((65536 : Int) < (s : Int)) = false := by simp; omega
      have hsi : sizL l ≤ 65536 := by omega
      go_wp2_with (go_at_call 52; refine (bytes_any d l ao cap _ B (h.below (hb3.mono hB)) (by omega) hok (by have := hcn.out; omega) hsi).mono ?kb)
      case kb =>
      rintro e w4 ⟨v4, rfl, hown4, hb4⟩
      have hb4 := hb3.trans (hb4.mono hs3)
      obtain ⟨ao4, cap4, rfl, _, _, _⟩ := hown4.slice
      have hown4 := OwnL.base_le hown4 hs3
      obtain ⟨n4, hn4⟩ : ∃ n4, n4 = (encL l).length := ⟨_, rfl⟩
      rw [← hn4] at hown4 ⊢
      replace hn4 := Lib.hid hn4
      by_cases hlb : 65536 < n4
      · have hd2 : decide ((65536 : Int) < (n4 : Int)) = true := by simp; omega
        have hrv : r = (2, []) := by have := hn4.out; rw [hrr.out, if_neg (by simp), if_pos (by omega)]
        subst hrv
        clear hrr hsp
        go_wp2_with fail
        go_ret2
        exact ⟨hb4.mono hB, _, rfl, OwnL.nil _ _ _ _ _⟩
      · have hd2 : decide ((65536 : Int) < (n4 : Int)) = false := by simp; omega
        have hrv : r = (0, encL l) := by have := hn4.out; rw [hrr.out, if_neg (by simp), if_neg (by omega)]
        subst hrv
        clear hrr hsp
        go_wp2_with fail
        go_ret2
        exact ⟨hb4.mono hB, _, rfl, hown4⟩
  · have hne2 : ((e2 : Int) != 0) = true := by simpa using he2
    have hrv : r = (e2, []) := by rw [hrr.out]; simp [he2]
    subst hrv
    clear hrr hck hne hr2
    go_wp2_with fail
    go_ret2
    exact ⟨hb2.mono hB, _, rfl, OwnL.nil _ _ _ _ _⟩
end Go.Proofs.Ytjgiphoolfhlmaa
