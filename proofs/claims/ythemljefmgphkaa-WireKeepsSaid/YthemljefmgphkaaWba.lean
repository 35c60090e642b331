/- Wire: the walk of WireBack. -/
import Derived.Test.YthemljefmgphkaaWy
import Derived.Test.YthemljefmgphkaaWlaw
namespace Go.Proofs.Ythemljefmgphkaa
open Go.RowKit
set_option linter.unusedVariables false

/-- Same of a row of the call's own and bytes that came in. -/
theorem by_same {w : World} {B : Nat} {ao : Option Addr} {cap : Nat} {bs : List Nat} (h : RBy B w ao cap bs) (hb : ∀ x ∈ bs, x < 256) : (convert 23 9 (.slice ao bs.length cap)).run Try.prog w = .ok (.string (toB bs)) w := by
  cases ao with
  | none =>
    obtain rfl : cap = 0 := h.2.2.1 rfl
    obtain rfl : bs = [] := List.length_eq_zero_iff.1 (by have := h.1; omega)
    rw [List.length_nil, run_convert_bytes_string w _ _ _ none 0 0 Try.underlying23 Try.underlying5 Try.underlying9]
    rfl
  | some a =>
    refine by_text (fun j hj => ?_) hb
    obtain ⟨b, off, he, _, _⟩ := SlA.addr h (by omega)
    cases he
    rw [show (⟨b, off, none⟩ : Addr).add j = ⟨b, off + j, none⟩ by unfold Addr.add; split <;> simp_all, h.at hj]
set_option maxRecDepth 100000 in
theorem same_by {base1 B : Nat} {v1 : Value} {ao : Option Addr} {cap : Nat} {bs1 bs2 : List Nat} (w : World) (h1 : OwnB w base1 v1 bs1) (h2 : RBy B w ao cap bs2) (hb1 : ∀ x ∈ bs1, x < 256) (hb2 : ∀ x ∈ bs2, x < 256) :
    Calls Try.prog 12 #[v1, .slice ao bs2.length cap] w fun e w' => e = .returned (.bool (decide (bs1 = bs2))) ∧ w' = w := by
  have c1 := own_text h1 hb1
  have c2 := by_same h2 hb2
  have he := toB_eq hb1 hb2
  clear h1 h2
  obtain ⟨n2, hn2⟩ : ∃ n, n = bs2.length := ⟨_, rfl⟩
  rw [← hn2] at c2 ⊢
  clear hn2
  go_enter Try.func12, Try.ntmps12
  go_wp2_with fail
  go_ret
  refine ⟨?_, rfl⟩
  show Ending.returned (.bool ((toB bs1).toList == (toB bs2).toList)) = _
  have : ((toB bs1).toList == (toB bs2).toList) = decide (bs1 = bs2) := by
    by_cases hb : bs1 = bs2
    · rw [he.2 hb]; simp [hb]
    · have : ¬ ((toB bs1).toList == (toB bs2).toList) = true := fun h => hb (he.1 h)
      simp [hb]
      simpa using this
  rw [this]

/-- The second half: bytes decoded, and encoded again. -/
def BackQ (bs : List Nat) (n : Nat) (l : List Itm) : Prop := (n = 0 → encV l = (0, bs)) ∧ (n ≠ 0 → l = [])
theorem backQ {bs : List Nat} (hb : ∀ x ∈ bs, x < 256) : BackQ bs (decV bs).1 (decV bs).2 := by
  refine ⟨fun h => ?_, fun h => dec_err h⟩
  refine enc_dec hb ?_
  rw [← h]

set_option maxRecDepth 100000 in
set_option maxHeartbeats 4000000 in
theorem back_walk (d : Nat) (l : List Itm) (ao : Option Addr) (cap : Nat) (bs : List Nat) (hbs : ∀ x ∈ bs, x < 256) (ao2 : Option Addr) (cap2 : Nat) (w : World) (h : RIts d w.heap.size w ao cap l) (h2 : RBy w.heap.size w ao2 cap2 bs) :
    Calls Try.prog 7 #[.slice ao l.length cap, .slice ao2 bs.length cap2] w fun e w' => e = .returned (.bool true) ∧ Below w.heap.size w w' := by
  have hwf := h.wf
  have hlt := encV_lt l
  have hde := @dec_enc l hwf
  have hbq := backQ hbs
  obtain ⟨⟨a, xs⟩, hr⟩ : ∃ r, r = encV l := ⟨_, rfl⟩
  have hE := fun (u : World) (hb : Below w.heap.size w u) => encode_any d l ao cap u u.heap.size (h.imp hb hb.size) (Nat.le_refl _)
  rw [← hr] at hE hlt hde
  dsimp only at hlt hde
  have hD2 := fun (u : World) (hb : Below w.heap.size w u) => decode_any bs hbs ao2 cap2 u (h2.imp hb hb.size)
  obtain ⟨⟨b, m⟩, hr2⟩ : ∃ r, r = decV bs := ⟨_, rfl⟩
  rw [← hr2] at hD2 hbq
  dsimp only at hbq
  clear hr hr2
  have hD1 := fun (u : World) (aox : Option Addr) (cpx : Nat) (hb : RBy u.heap.size u aox cpx xs) => decode_any xs hlt aox cpx u hb
  have hS := fun (u : World) (hb : Below w.heap.size w u) (aox : Option Addr) (cpx : Nat) (hb2 : RIts 8 u.heap.size u aox cpx l) => same_its 8 l l aox ao cpx cap d u u.heap.size hb2 (h.imp hb hb.size) (Nat.le_refl _)
  have hSb := fun (u : World) (hb : Below w.heap.size w u) (base : Nat) (v : Value) (ho : OwnB u base v bs) => same_by u ho (h2.imp hb hb.size) hbs hbs
  rw [sameB_true rfl] at hS
  obtain ⟨nl, hnl⟩ : ∃ k, k = l.length := ⟨_, rfl⟩
  obtain ⟨nb, hnb⟩ : ∃ k, k = bs.length := ⟨_, rfl⟩
  rw [← hnl] at hE hS ⊢
  rw [← hnb] at hD2 hSb ⊢
  replace hnl := Lib.hid hnl
  replace hnb := Lib.hid hnb
  replace hde := Lib.hid hde
  go_enter Try.func7, Try.ntmps7
  go_wp2_with (go_at_call 11; refine (known_any _).mono ?k0)
  case k0 =>
  intro e w1
  try rw [and_imp]
  rintro rfl hb1
  try dsimp only
  go_wp2_with (go_at_call 9; refine (hE _ hb1).mono ?k1)
  case k1 =>
  intro e w2 hR
  obtain ⟨hb2, v2, he2, hown2⟩ := hR
  subst he2
  dsimp only at hown2 ⊢
  replace hb2 := hb1.trans (hb2.mono hb1.size)
  clear hE hb1
  by_cases ha : a = 0
  · subst ha
    have hde := hde.out rfl
    obtain ⟨ao3, cap3, rfl, hby3⟩ := RBy.of_own hown2
    have hD1 := hD1 w2 ao3 cap3 hby3
    rw [hde] at hD1
    obtain ⟨nx, hnx⟩ : ∃ k, k = xs.length := ⟨_, rfl⟩
    rw [← hnx] at hD1 ⊢
    clear hnx hby3 hown2 hde
    go_wp2_with (go_at_call 18; refine hD1.mono ?k2)
    case k2 =>
    intro e w3 hR3
    obtain ⟨hb3, ao4, cap4, he3, hl3⟩ := hR3.mk'
    subst he3
    dsimp only at hl3 ⊢
    rw [← hnl.out]
    replace hb3 := hb2.trans (hb3.mono hb2.size)
    replace hS := hS w3 hb3 ao4 cap4 hl3
    clear hD1 hl3 hR3
    go_wp2_with (go_at_call 16; refine Shut.out ?ks)
    unfold Shut
    refine hS.mono ?_
    rintro e w4 ⟨rfl, hb4⟩
    dsimp only
    replace hb4 := hb3.trans (hb4.mono hb3.size)
    clear hb3 hb2
    go_wp2_with (go_at_call 18; refine (hD2 _ hb4).mono ?kd1)
    case kd1 =>
    intro e w5 hR5
    obtain ⟨hb5, ao6, cap6, he5, hl5⟩ := hR5.mk'
    subst he5
    dsimp only at hl5 ⊢
    replace hb5 := Below.trans hb4 (hb5.mono (Below.size hb4))
    clear hR5 hD2 hS
    by_cases hb0 : b = 0
    · subst hb0
      have hE2 := encode_any 8 m ao6 cap6 w5 w5.heap.size hl5 (Nat.le_refl _)
      rw [hbq.1 rfl] at hE2
      obtain ⟨nm, hnm⟩ : ∃ k, k = m.length := ⟨_, rfl⟩
      rw [← hnm] at hE2 ⊢
      clear hnm hl5 hbq
      go_wp2_with (go_at_call 9; refine hE2.mono ?ke1)
      case ke1 =>
      intro e w6 hR6
      obtain ⟨hb6, v6, he6, hown6⟩ := hR6
      subst he6
      dsimp only at hown6 ⊢
      replace hb6 := hb5.trans (hb6.mono hb5.size)
      replace hSb := hSb w6 hb6 _ v6 hown6
      simp only [decide_true] at hSb
      clear hE2 hown6
      go_wp2_with (go_at_call 12; refine Shut.out ?kz1)
      unfold Shut
      refine hSb.mono ?_
      rintro e w7 ⟨rfl, rfl⟩
      dsimp only
      go_wp2_with fail
      go_ret
      exact ⟨by simp, hb6⟩
    · have hm := hbq.2 hb0
      subst hm
      have hbd : ((b : Int) != 0) = true := by simpa using hb0
      go_wp2_with fail
      go_ret
      exact ⟨by simp, hb5⟩
  · have had : ((a : Int) == 0) = false := by simpa using ha
    clear hde hD1 hown2
    go_wp2_with (go_at_call 18; refine (hD2 _ hb2).mono ?kd2)
    case kd2 =>
    intro e w5 hR5
    obtain ⟨hb5, ao6, cap6, he5, hl5⟩ := hR5.mk'
    subst he5
    dsimp only at hl5 ⊢
    replace hb5 := Below.trans hb2 (hb5.mono (Below.size hb2))
    clear hR5 hD2 hS
    by_cases hb0 : b = 0
    · subst hb0
      have hE2 := encode_any 8 m ao6 cap6 w5 w5.heap.size hl5 (Nat.le_refl _)
      rw [hbq.1 rfl] at hE2
      obtain ⟨nm, hnm⟩ : ∃ k, k = m.length := ⟨_, rfl⟩
      rw [← hnm] at hE2 ⊢
      clear hnm hl5 hbq
      go_wp2_with (go_at_call 9; refine hE2.mono ?ke2)
      case ke2 =>
      intro e w6 hR6
      obtain ⟨hb6, v6, he6, hown6⟩ := hR6
      subst he6
      dsimp only at hown6 ⊢
      replace hb6 := hb5.trans (hb6.mono hb5.size)
      replace hSb := hSb w6 hb6 _ v6 hown6
      simp only [decide_true] at hSb
      clear hE2 hown6
      go_wp2_with (go_at_call 12; refine Shut.out ?kz2)
      unfold Shut
      refine hSb.mono ?_
      rintro e w7 ⟨rfl, rfl⟩
      dsimp only
      go_wp2_with fail
      go_ret
      exact ⟨by simp, hb6⟩
    · have hm := hbq.2 hb0
      subst hm
      have hbd : ((b : Int) != 0) = true := by simpa using hb0
      go_wp2_with fail
      go_ret
      exact ⟨by simp, hb5⟩

theorem back_row {w : World} {d : Nat} {l : List Itm} {ao : Option Addr} {cap : Nat} (h : RIts d w.heap.size w ao cap l) (_ : l.length * 56 ≤ 140737488351232) (ao2 : Option Addr) (len2 cap2 : Nat) (xs : List Int) (h2 : RSl w.heap.size 1 (RI .u8) w (Value.cells (.slice ao2 len2 cap2)).toList xs) (_ : cap2 * 1 ≤ reachBytes) :
    Calls Try.prog 7 #[.slice ao l.length cap, .slice ao2 len2 cap2] w fun e w' => e = .returned (.bool true) ∧ Below w.heap.size w w' := by
  obtain ⟨bs, rfl, hbs, hby⟩ := bytes_arg h2
  exact back_walk d l ao cap bs hbs ao2 cap2 w h hby
end Go.Proofs.Ythemljefmgphkaa
