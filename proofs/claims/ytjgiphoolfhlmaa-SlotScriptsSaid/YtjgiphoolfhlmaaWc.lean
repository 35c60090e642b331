/- Wire: Encode. -/
import Derived.Test.YtjgiphoolfhlmaaWb
namespace Go.Proofs.Ytjgiphoolfhlmaa
open Go.RowKit
set_option linter.unusedVariables false

/-- What Encode answers. -/
def EncR (B base : Nat) (w : World) (r : Nat × List Nat) (e : Ending) (w' : World) : Prop :=
  Below B w w' ∧ ∃ v, e = .returned (.tuple #[v, .int .i64 r.1]) ∧ OwnB w' base v r.2

set_option maxRecDepth 100000 in
set_option maxHeartbeats 1000000 in
theorem encode_any (d : Nat) (l : List Itm) (ao : Option Addr) (cap : Nat) (w : World) (B : Nat) (h : RIts d B w ao cap l) (hB : B ≤ w.heap.size) :
    Calls Try.prog 20 #[.slice ao l.length cap] w (EncR B w.heap.size w (encV l)) := by
  rw [← cutV_encV]
  obtain ⟨r, hr⟩ : ∃ r, r = cutV l := ⟨_, rfl⟩
  rw [← hr]
  unfold cutV at hr
  replace hr := Lib.hid hr
  go_enter Try.func20, Try.ntmps20
  go_wp2_with (go_at_call 36; refine Shut.out ?stopp)
  unfold Shut
  have hbel1 : Below B w (w.alloc (.cells #[.slice none 0 0, .int .i64 0] 87)) := Below.alloc (Below.refl _ _) hB _
  have hws : WrS (w.alloc (.cells #[.slice none 0 0, .int .i64 (0 : Nat)] 87)) w.heap.size w.heap.size (.slice none 0 0) [] 0 := ⟨Blk.new _ _ _, OwnL.nil _ _ _ _ _⟩
  refine (put_any d l ao cap 1 0 [] (.slice none 0 0) _ B w.heap.size w.heap.size (h.below hbel1) hB hB (by simp) (by simp; omega) hws (by decide) (by decide) (by simp)).mono ?_
  rintro e w2 ⟨rfl, hb2, hp2⟩
  obtain ⟨⟨c2, e2⟩, hr2⟩ : ∃ r2, r2 = chkL l 1 0 := ⟨_, rfl⟩
  have hrr := hr.out
  rw [← hr2] at hp2 hrr ⊢
  have hbel2 := hbel1.trans hb2
  simp only [List.nil_append] at hp2 hrr ⊢
  by_cases he2 : e2 = 0
  · subst he2
    obtain ⟨v2, hws2⟩ := hp2 rfl
    obtain ⟨ao2, cap2, rfl, _, _, _⟩ := hws2.own.slice
    have k0 := hws2.c0
    obtain ⟨n2, hn2'⟩ : ∃ n2, n2 = (cutL l).length := ⟨_, rfl⟩
    rw [← hn2'] at k0
    by_cases hbig : 65536 < (cutL l).length
    · have hd : decide ((65536 : Int) < (n2 : Int)) = true := by simp; omega
      have hrv : r = (2, []) := by rw [hrr]; simp [hbig]
      subst hrv
      replace hn2' := Lib.hid hn2'
      clear hrr hr2 hp2 hr
      go_wp2_with fail
      go_ret2
      exact ⟨hbel2, _, rfl, OwnL.nil _ _ _ _ _⟩
    · have hd : decide ((65536 : Int) < (n2 : Int)) = false := by simp; omega
      have hrv : r = (0, cutL l) := by rw [hrr]; simp [hbig]
      subst hrv
      have hown2 := hws2.own
      rw [← hn2'] at hown2
      replace hn2' := Lib.hid hn2'
      clear hrr hr2 hp2 hr
      go_wp2_with fail
      go_ret2
      exact ⟨hbel2, _, rfl, hown2⟩
  · have hne2 : ((e2 : Int) != 0) = true := by simpa using he2
    have hrv : r = (e2, []) := by rw [hrr]; simp [he2]
    subst hrv
    clear hrr hr2 hp2 hr
    go_wp2_with fail
    go_ret2
    exact ⟨hbel2, _, rfl, OwnL.nil _ _ _ _ _⟩
end Go.Proofs.Ytjgiphoolfhlmaa
