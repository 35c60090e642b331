/- Wire: the walk of WireDecodes. -/
import Derived.Test.YthemljefmgphkaaWx
import Derived.Test.YthemljefmgphkaaWp
namespace Go.Proofs.Ythemljefmgphkaa
open Go.RowKit
set_option linter.unusedVariables false

theorem DecR.mk' {w w' : World} {r : Nat × List Itm} {e : Ending} (h : DecR w r e w') : Below w.heap.size w w' ∧ ∃ ao cap, e = .returned (.tuple #[.slice ao r.2.length cap, .int .i64 r.1]) ∧ RIts 8 w'.heap.size w' ao cap r.2 := by
  obtain ⟨h1, ao, cap, h2, h3⟩ := h
  exact ⟨h1, ao, cap, h2, h3.rits (fun b hb => hb.2)⟩

theorem bytes_arg {B : Nat} {w : World} {ao : Option Addr} {len cap : Nat} {xs : List Int} (h : RSl B 1 (RI .u8) w (Value.cells (.slice ao len cap)).toList xs) : ∃ bs : List Nat, bs.length = len ∧ (∀ x ∈ bs, x < 256) ∧ RBy B w ao cap bs := by
  obtain ⟨a1, c1, h1, h2⟩ := h
  obtain ⟨rfl, rfl, rfl⟩ : ao = a1 ∧ len = xs.length ∧ cap = c1 := by simpa [Value.cells] using h1
  have hw : ∀ x ∈ xs, 0 ≤ x ∧ x < 256 := by
    intro x hx
    obtain ⟨i, hi, rfl⟩ := List.mem_iff_getElem.1 hx
    obtain ⟨b, off, rfl, hb, h5⟩ := h2.addr (by omega)
    obtain ⟨cs, _, _, _, hwf⟩ := h5 i hi
    simp [Lit.wf, IntKind.min, IntKind.max, IntKind.bits, IntKind.signed] at hwf
    omega
  refine ⟨xs.map Int.toNat, by simp, ?_, ?_⟩
  · intro x hx
    obtain ⟨y, hy, rfl⟩ := List.mem_map.1 hx
    have := hw y hy
    omega
  · obtain ⟨h3, h4, h5, h6⟩ := h2
    refine ⟨by simpa using h3, h4, h5, fun hne => ?_⟩
    obtain ⟨b, off, rfl, hb, h7⟩ := h6 (fun h => hne (by simp [h]))
    refine ⟨b, off, rfl, hb, fun i hi => ?_⟩
    have hi2 : i < xs.length := by simpa using hi
    obtain ⟨cs, h8, h9, rfl, _⟩ := h7 i hi2
    refine ⟨_, h8, h9, ?_⟩
    have := hw xs[i] (List.getElem_mem hi2)
    simp
    omega

set_option maxRecDepth 100000 in
set_option maxHeartbeats 1000000 in
theorem decodes_walk (bs : List Nat) (hbs : ∀ x ∈ bs, x < 256) (ao : Option Addr) (cap : Nat) (w : World) (h : RBy w.heap.size w ao cap bs) :
    Calls Try.prog 6 #[.slice ao bs.length cap] w fun e w' => e = .returned (.bool true) ∧ Below w.heap.size w w' := by
  have h1 := (decode_any bs hbs ao cap w h)
  have h2 := fun (u : World) (hb : Below w.heap.size w u) => refDecode_any bs hbs ao cap u (h.imp hb hb.size)
  obtain ⟨⟨n, l⟩, hr⟩ : ∃ r, r = decV bs := ⟨_, rfl⟩
  rw [← hr] at h1 h2
  replace hr := Lib.hid hr
  obtain ⟨nb, hnb⟩ : ∃ k, k = bs.length := ⟨_, rfl⟩
  rw [← hnb] at h1 h2 ⊢
  replace hnb := Lib.hid hnb
  go_enter Try.func6, Try.ntmps6
  go_wp2_with (go_at_call 18; refine h1.mono ?k1)
  case k1 =>
  intro e w1 hR1
  obtain ⟨hb1, ao1, cap1, he1, hl1⟩ := hR1.mk'
  subst he1
  dsimp only at hl1 ⊢
  clear h1 hR1
  go_wp2_with (go_at_call 19; refine (h2 _ hb1).mono ?k2)
  case k2 =>
  intro e w2 hR2
  obtain ⟨hb2, ao2, cap2, he2, hl2⟩ := hR2.mk'
  subst he2
  dsimp only at hl2 ⊢
  replace hl1 := hl1.imp hb2 hb2.size
  replace hb2 := hb1.trans (hb2.mono hb1.size)
  clear h2 hR2
  obtain ⟨q, hq⟩ : ∃ k, k = l.length := ⟨_, rfl⟩
  have hsm := fun (u : World) (hb : Below w2.heap.size w2 u) => same_its 8 l l ao1 ao2 cap1 cap2 8 u u.heap.size (hl1.imp hb hb.size) (hl2.imp hb hb.size) (Nat.le_refl _)
  rw [sameB_true rfl, ← hq] at hsm
  rw [← hq]
  replace hq := Lib.hid hq
  go_wp2_with (go_at_call 11; refine (known_any _).mono ?k3)
  case k3 =>
  rintro e w3 ⟨rfl, hb3⟩
  dsimp only
  have hs3 := hsm w3 hb3
  replace hb3 := hb2.trans (hb3.mono hb2.size)
  clear hsm hl1 hl2
  go_wp2_with fail
  refine hs3.mono ?_
  rintro e w4 ⟨rfl, hb4⟩
  dsimp only
  go_wp2_with fail
  go_ret
  exact ⟨by simp, hb3.trans (hb4.mono hb3.size)⟩

theorem decodes_row {w : World} (ao : Option Addr) (len cap : Nat) (xs : List Int) (h : RSl w.heap.size 1 (RI .u8) w (Value.cells (.slice ao len cap)).toList xs) :
    Calls Try.prog 6 #[.slice ao len cap] w fun e w' => e = .returned (.bool true) ∧ Below w.heap.size w w' := by
  obtain ⟨bs, rfl, hbs, hby⟩ := bytes_arg h
  exact decodes_walk bs hbs ao cap w hby
end Go.Proofs.Ythemljefmgphkaa
