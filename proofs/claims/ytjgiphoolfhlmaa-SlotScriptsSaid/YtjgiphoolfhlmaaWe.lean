/- Wire: the reference's check. -/
import Derived.Test.YtjgiphoolfhlmaaWd
namespace Go.Proofs.Ytjgiphoolfhlmaa
open Go.RowKit
set_option linter.unusedVariables false

/-- What check answers. -/
def ChkR (w : World) (r : Nat × Nat) (e : Ending) (w' : World) : Prop := e = .returned (.tuple #[.int .i64 r.1, .int .i64 r.2]) ∧ Below w.heap.size w w'

set_option maxRecDepth 100000 in
set_option maxHeartbeats 4000000 in
theorem check_any : ∀ (d : Nat) (l : List Itm) (ao : Option Addr) (cap dep cnt : Nat) (w : World) (B : Nat), RIts d B w ao cap l → B ≤ w.heap.size → dep ≤ 9 → cnt ≤ 4096 →
    Calls Try.prog 50 #[.slice ao l.length cap, .int .i64 dep, .int .i64 cnt] w (ChkR w (chkL l dep cnt)) := by
  intro d
  induction d using Nat.strongRecOn with
  | _ d ih =>
  intro l ao cap dep cnt w B hl hBs hdep hcnt
  have hll := hl.len
  obtain ⟨n, hn⟩ : ∃ n, n = l.length := ⟨_, rfl⟩
  rw [← hn] at hll ⊢
  obtain ⟨res, hres⟩ : ∃ res, res = chkL l dep cnt := ⟨_, rfl⟩
  rw [← hres]
  replace hres := Lib.hid hres
  replace hn := Lib.hid hn
  go_enter Try.func50, Try.ntmps50
  go_wp2_with fail
  go_loopw [2, 8] (fun x2 x8 wr => ∃ (k c : Nat), k ≤ n ∧ x8 = .int .i64 k ∧ x2 = .int .i64 c ∧ c ≤ 4096 ∧ Below w.heap.size w wr ∧ Hid (chkL (l.drop k) dep c = res)) (fun _ x8 _ => n - (intOf x8).toNat)
  case atStart => exact ⟨0, cnt, Nat.zero_le _, rfl, rfl, hcnt, Below.refl _ _, Lib.hid (by rw [List.drop_zero]; exact hres.out.symm)⟩
  case round =>
    obtain ⟨k, c, hk, rfl, rfl, hc, hbel, hinv⟩ := hrel
    have hsz := hbel.size
    by_cases hlt : k < n
    · have hkl : k < l.length := by rw [← hn.out]; exact hlt
      obtain ⟨b1, o1, rfl, hb1, _⟩ := hl.1.addr (by omega)
      obtain ⟨⟨kd, nm, tx, ls⟩, hx⟩ : ∃ x, l[k] = x := ⟨_, rfl⟩
      obtain ⟨la, lc, d', hd', e0, e1, e2, e3, w0, w1, hts, hls⟩ := hl.at hkl hx
      have hb1w : b1 < w.heap.size := by omega
      replace e0 := (hbel.cell (p := ⟨b1, o1 + k * 4, none⟩) hb1w).trans e0
      replace e1 := (hbel.cell (p := ⟨b1, o1 + k * 4 + 1, none⟩) hb1w).trans e1
      replace e2 := (hbel.cell (p := ⟨b1, o1 + k * 4 + 2, none⟩) hb1w).trans e2
      replace e3 := (hbel.cell (p := ⟨b1, o1 + k * 4 + 3, none⟩) hb1w).trans e3
      have hlsl := hls.len
      have hch := chk_head (r := []) (dep := dep) (c := c) hkl hx
      rw [hinv.out] at hch
      go_wp2_with (go_at_call 63; refine (form_any kd nm tx la lc ls _).mono ?formk)
      case formk =>
      rintro e w2 ⟨rfl, hb2⟩
      have hbel2 := hbel.trans (hb2.mono hsz)
      replace e3 := (hbel2.cell (p := ⟨b1, o1 + k * 4 + 3, none⟩) hb1w).trans ((hbel.cell (p := ⟨b1, o1 + k * 4 + 3, none⟩) hb1w).symm.trans e3)
      by_cases hf : formI (.mk kd nm tx ls) = true
      · rw [hf]
        by_cases hlim : 4096 < c + 1 ∨ 8 < dep
        · have hr : res = (c + 1, 2) := by rw [hch, chkI]; simp [hf, hlim]
          subst hr
          clear hf hch hinv hres hx ih hls
          by_cases hcl : 4096 < c + 1
          · have hlim2 : decide (4096 < (c : Int) + 1) = true := by simp; omega
            go_wp2_with fail
            go_ret2
            exact ⟨rfl, hbel2⟩
          · have hlim3 : decide (4096 < (c : Int) + 1) = false := by simp; omega
            have hlim2 : decide (8 < (dep : Int)) = true := by simp; omega
            go_wp2_with fail
            go_ret2
            exact ⟨rfl, hbel2⟩
        · have hlim3 : decide (4096 < (c : Int) + 1) = false := by simp; omega
          have hlim4 : decide (8 < (dep : Int)) = false := by simp; omega
          have hrI : chkI (.mk kd nm tx ls) dep c = chkL ls (dep + 1) (c + 1) := by rw [chkI]; simp [hf, hlim]
          rw [hrI] at hch
          have hls2 := hls.below (hbel2.mono hBs)
          have hB2 := hbel2.size
          go_wp2_with (go_at_call 50; refine (ih d' (by omega) ls la lc (dep + 1) (c + 1) _ B hls2 (by omega) (by omega) (by omega)).mono ?chkk)
          case chkk =>
          rintro e w3 ⟨rfl, hb3⟩
          have hbel3 := hbel2.trans (hb3.mono hB2)
          obtain ⟨⟨c2, e2'⟩, hr2⟩ : ∃ r2, r2 = chkL ls (dep + 1) (c + 1) := ⟨_, rfl⟩
          have hok := chkL_ok ls (dep + 1) (c + 1)
          rw [← hr2] at hch hok ⊢
          simp only at hch hok ⊢
          by_cases he2 : e2' = 0
          · subst he2
            rw [if_pos rfl] at hch
            obtain ⟨hk1, hk2, hc4⟩ := hok rfl
            clear hk1 hk2
            have hc4 := hc4 (by omega)
            replace hch := Lib.hid hch
            clear hok hr2 hrI
            go_wp2_with fail
            go_roundw
            case rel => exact ⟨k + 1, c2, by omega, rfl, rfl, hc4, hbel3, Lib.hid hch.out.symm⟩
            case measure =>
              simp [intOf]
              omega
          · have hne2 : ((e2' : Int) != 0) = true := by simpa using he2
            rw [if_neg he2] at hch
            subst hch
            clear hok hr2 hrI
            go_wp2_with fail
            go_ret2
            exact ⟨rfl, hbel3⟩
      · have hf2 : formI (.mk kd nm tx ls) = false := by simpa using hf
        have hr : res = (c + 1, 3) := by rw [hch, chkI]; simp [hf2]
        subst hr
        rw [hf2]
        clear hf hf2 hch hinv hres hx ih hls
        go_wp2_with fail
        go_ret2
        exact ⟨rfl, hbel2⟩
    · have hkn : k = n := by omega
      have hdr : l.drop k = [] := by rw [List.drop_eq_nil_iff, hkn, hn.out]; exact Nat.le_refl _
      have hr : res = (c, 0) := by rw [← hinv.out, hdr, chkL]
      subst hr
      clear hinv hres ih hdr
      go_wp2_with fail
      go_ret2
      exact ⟨rfl, (by repeat (first | exact Below.refl _ _ | assumption | refine below_drewN ?_ _ | refine Below.drew ?_ | (refine Below.setCell ?_ (by first | omega | (simp; omega) | simp) _) | (refine Below.alloc ?_ (by first | omega | (simp; omega) | simp) _) | (refine Below.trans ?_ (Below.mono (by assumption) (by first | omega | (simp; omega) | simp)))))⟩
end Go.Proofs.Ytjgiphoolfhlmaa
