/- Wire: the reference's size. -/
import Derived.Test.YtjgiphoolfhlmaaWe
namespace Go.Proofs.Ytjgiphoolfhlmaa
open Go.RowKit
set_option linter.unusedVariables false

mutual
def szI : Itm → Nat
  | .mk _ _ s l => s.size + szL l 0
def szL : List Itm → Nat → Nat
  | [], a => a
  | x :: r, a => if a ≤ 65536 then szL r (a + szI x) else a
end
mutual
def nestI : Itm → Nat → Bool
  | .mk _ _ _ l, f => decide (0 < f) && nestL l (f - 1)
def nestL : List Itm → Nat → Bool
  | [], _ => true
  | x :: r, f => nestI x f && nestL r f
end
mutual
theorem szI_spec : ∀ (x : Itm), (szI x = sizI x ∧ szI x ≤ 65536) ∨ (65536 < szI x ∧ 65536 < sizI x)
  | .mk k n s l => by
    have h := szL_spec l 0
    rw [szI, sizI]
    omega
theorem szL_spec : ∀ (l : List Itm) (a : Nat), (szL l a = a + sizL l ∧ szL l a ≤ 65536) ∨ (65536 < szL l a ∧ 65536 < a + sizL l)
  | [], a => by rw [szL, sizL]; omega
  | x :: r, a => by
    rw [szL, sizL]
    have h1 := szI_spec x
    have h2 := szL_spec r (a + szI x)
    split <;> omega
end
mutual
theorem nestI_chk : ∀ (x : Itm) (d c : Nat), (chkI x d c).2 = 0 → d ≤ 8 ∧ nestI x (9 - d) = true
  | .mk k n s l, d, c, h => by
    rw [chkI] at h
    by_cases hf : formI (.mk k n s l) = true
    · simp only [hf, Bool.not_true, Bool.false_eq_true, if_false] at h
      by_cases hc : 4096 < c + 1 ∨ 8 < d
      · rw [if_pos hc] at h; simp at h
      · rw [if_neg hc] at h
        have := nestL_chk l (d + 1) (c + 1) h
        refine ⟨by omega, ?_⟩
        rw [nestI, show 9 - d - 1 = 9 - (d + 1) by omega, this]
        simp; omega
    · have hf : formI (.mk k n s l) = false := by simpa using hf
      simp [hf] at h
theorem nestL_chk : ∀ (l : List Itm) (d c : Nat), (chkL l d c).2 = 0 → nestL l (9 - d) = true
  | [], d, c, h => by rw [nestL]
  | x :: r, d, c, h => by
    rw [chkL] at h
    by_cases he : (chkI x d c).2 = 0
    · rw [if_pos he] at h
      rw [nestL, (nestI_chk x d c he).2, nestL_chk r d _ h]
      rfl
    · rw [if_neg he] at h; exact absurd h he
end
theorem nestL_at : ∀ {l : List Itm} {f : Nat}, nestL l f = true → ∀ {k : Nat} (hk : k < l.length), nestI l[k] f = true
  | [], _, _, k, hk => absurd hk (by simp)
  | x :: r, f, h, 0, _ => by rw [nestL, Bool.and_eq_true] at h; exact h.1
  | x :: r, f, h, k + 1, hk => by rw [nestL, Bool.and_eq_true] at h; exact nestL_at h.2 (by simpa using hk)

set_option maxRecDepth 100000 in
set_option maxHeartbeats 4000000 in
theorem size_any : ∀ (f d : Nat) (l : List Itm) (ao : Option Addr) (cap : Nat) (w : World) (B : Nat), RIts d B w ao cap l → B ≤ w.heap.size → nestL l f = true → f ≤ 8 →
    szL l 0 ≤ f * 281474976710656 ∧
    Calls Try.prog 51 #[.slice ao l.length cap] w fun e w' => e = .returned (.int .i64 (szL l 0)) ∧ Below w.heap.size w w' := by
  intro f
  induction f using Nat.strongRecOn with
  | _ f ih =>
  intro d l ao cap w B hl hBs hnest hf8
  -- each element's size
  have hel : ∀ k (hk : k < l.length), szI l[k] ≤ 140737488351232 + (f - 1) * 281474976710656 ∧ 0 < f := by
    intro k hk
    obtain ⟨⟨kd, nm, tx, ls⟩, hx⟩ : ∃ x, l[k] = x := ⟨_, rfl⟩
    have h1 := nestL_at hnest hk
    rw [hx, nestI, Bool.and_eq_true] at h1
    obtain ⟨b1, o1, rfl, hb1, _⟩ := hl.1.addr (by omega)
    obtain ⟨la, lc, d', hd', e0, e1, e2, e3, w0, w1, hts, hls⟩ := hl.at hk hx
    have hf0 : 0 < f := by simpa using h1.1
    have := (ih (f - 1) (by omega) d' ls la lc w B hls hBs h1.2 (by omega)).1
    rw [hx, szI]
    exact ⟨by omega, hf0⟩
  have hgo : ∀ (r : List Itm) (a : Nat), (∀ x ∈ r, szI x ≤ 140737488351232 + (f - 1) * 281474976710656 ∧ 0 < f) → szL r a ≤ max a (65536 + 140737488351232 + (f - 1) * 281474976710656) := by
    intro r
    induction r with
    | nil => intro a _; rw [szL]; omega
    | cons x r ihr =>
      intro a hx
      rw [szL]
      have h1 := hx x (by simp)
      have h2 := ihr (a + szI x) (fun y hy => hx y (by simp [hy]))
      split <;> omega
  have hall : ∀ x ∈ l, szI x ≤ 140737488351232 + (f - 1) * 281474976710656 ∧ 0 < f := by
    intro x hx
    obtain ⟨k, hk, rfl⟩ := List.getElem_of_mem hx
    exact hel k hk
  refine ⟨?_, ?_⟩
  · cases l with
    | nil => rw [szL]; omega
    | cons x r =>
      have h1 := hgo (x :: r) 0 hall
      have h2 := (hall x (by simp)).2
      omega
  have hll := hl.len
  obtain ⟨n, hn⟩ : ∃ n, n = l.length := ⟨_, rfl⟩
  rw [← hn] at hll ⊢
  obtain ⟨res, hres⟩ : ∃ res, res = szL l 0 := ⟨_, rfl⟩
  rw [← hres]
  replace hres := Lib.hid hres
  replace hn := Lib.hid hn
  replace hgo := Lib.hid hgo
  replace hall := Lib.hid hall
  go_enter Try.func51, Try.ntmps51
  go_wp2_with fail
  go_loopw [3, 4] (fun x3 x4 wr => ∃ (k s : Nat), k ≤ n ∧ x4 = .int .i64 k ∧ x3 = .int .i64 s ∧ s ≤ 2251799813685248 ∧ Below w.heap.size w wr ∧ Hid (szL (l.drop k) s = res)) (fun _ x4 _ => n - (intOf x4).toNat)
  case atStart => exact ⟨0, 0, Nat.zero_le _, rfl, rfl, by omega, Below.refl _ _, Lib.hid (by rw [List.drop_zero]; exact hres.out.symm)⟩
  case round =>
    obtain ⟨k, s, hk, rfl, rfl, hs, hbel, hinv⟩ := hrel
    have hsz := hbel.size
    by_cases hlt : k < n
    · have hkl : k < l.length := by rw [← hn.out]; exact hlt
      have hdr : l.drop k = l[k] :: l.drop (k + 1) := List.drop_eq_getElem_cons hkl
      have hstep := hinv.out
      rw [hdr, szL] at hstep
      by_cases hsm : s ≤ 65536
      · rw [if_pos hsm] at hstep
        have hd65 : decide ((s : Int) ≤ 65536) = true := by simp; omega
        have hek := hel k hkl
        have h1 := nestL_at hnest hkl
        obtain ⟨b1, o1, rfl, hb1, _⟩ := hl.1.addr (by omega)
        obtain ⟨⟨kd, nm, tx, ls⟩, hx⟩ : ∃ x, l[k] = x := ⟨_, rfl⟩
        obtain ⟨la, lc, d', hd', e0, e1, e2, e3, w0, w1, hts, hls⟩ := hl.at hkl hx
        rw [hx] at hstep hek h1
        rw [szI] at hstep hek
        rw [nestI, Bool.and_eq_true] at h1
        have hb1w : b1 < w.heap.size := by omega
        have hls2 := hls.below (hbel.mono hBs)
        obtain ⟨r2, hr2⟩ : ∃ r2, r2 = szL ls 0 := ⟨_, rfl⟩
        have hcall : ∀ u : Wd wr, Calls Try.prog 51 #[.slice la ls.length lc] u.v fun e w' => e = .returned (.int .i64 r2) ∧ Below u.v.heap.size u.v w' := fun u => by
          rw [hr2]
          exact (ih (f - 1) (by omega) d' ls la lc u.v B (hls2.below (u.h.mono (by omega))) (by have := u.h.size; omega) h1.2 (by omega)).2
        rw [← hr2] at hstep hek
        have c2 : ∀ u : Wd wr, u.v.cell? ⟨b1, o1 + k * 4 + 2, none⟩ = some (.string tx) := fun u => Wd.cell ((hbel.cell (p := ⟨b1, o1 + k * 4 + 2, none⟩) hb1w).trans e2) (by simp; omega) u
        have c3 : ∀ u : Wd wr, u.v.cell? ⟨b1, o1 + k * 4 + 3, none⟩ = some (.slice la ls.length lc) := fun u => Wd.cell ((hbel.cell (p := ⟨b1, o1 + k * 4 + 3, none⟩) hb1w).trans e3) (by simp; omega) u
        have hlsl := hls.len
        obtain ⟨B2, hB2⟩ : ∃ B2, B2 = (f - 1) * 281474976710656 := ⟨_, rfl⟩
        have hB3 : B2 ≤ 7 * 281474976710656 := by omega
        rw [← hB2] at hek
        have hle : s + (tx.size + r2) ≤ 2251799813685248 := by omega
        replace hstep := Lib.hid hstep
        replace hr2 := Lib.hid hr2
        clear hel hek hB2 hB3 hinv hdr
        go_wp2_with fail
        refine wp_region_below (by kernel_rfl) (by kernel_rfl) ?_
        repeat (go_big_quiet_step ((go_at_call 51; exact (hcall _).quiet_below)))
        refine wpQuiet_nil ?_
        rintro _ ⟨u, rfl⟩
        go_wp2_with fail
        go_roundw
        case rel => exact ⟨k + 1, s + tx.size + r2, by omega, rfl, rfl, by omega, hbel.trans (u.h.mono hsz), Lib.hid (by rw [Nat.add_assoc]; exact hstep.out)⟩
        case measure =>
          simp [intOf]
          omega
      · rw [if_neg hsm] at hstep
        subst hstep
        have hd65 : decide ((s : Int) ≤ 65536) = false := by simp; omega
        clear hinv hres ih hel hdr
        go_wp2_with fail
        go_ret
        exact ⟨rfl, (by repeat (first | exact Below.refl _ _ | assumption | refine below_drewN ?_ _ | refine Below.drew ?_ | (refine Below.setCell ?_ (by first | omega | (simp; omega) | simp) _) | (refine Below.alloc ?_ (by first | omega | (simp; omega) | simp) _) | (refine Below.trans ?_ (Below.mono (by assumption) (by first | omega | (simp; omega) | simp)))))⟩
    · have hkn : k = n := by omega
      have hdr : l.drop k = [] := by rw [List.drop_eq_nil_iff, hkn, hn.out]; exact Nat.le_refl _
      have hr : res = s := by rw [← hinv.out, hdr, szL]
      subst hr
      clear hinv hres ih hdr hel
      go_wp2_with fail
      go_ret
      exact ⟨rfl, (by repeat (first | exact Below.refl _ _ | assumption | refine below_drewN ?_ _ | refine Below.drew ?_ | (refine Below.setCell ?_ (by first | omega | (simp; omega) | simp) _) | (refine Below.alloc ?_ (by first | omega | (simp; omega) | simp) _) | (refine Below.trans ?_ (Below.mono (by assumption) (by first | omega | (simp; omega) | simp)))))⟩
end Go.Proofs.Ytjgiphoolfhlmaa
