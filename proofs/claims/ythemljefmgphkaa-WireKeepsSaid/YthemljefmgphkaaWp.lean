/- Wire: the reference's Same. -/
import Derived.Test.YthemljefmgphkaaWn
namespace Go.Proofs.Ythemljefmgphkaa
open Go.RowKit
set_option linter.unusedVariables false

noncomputable def sameB (a b : List Itm) : Bool := @decide (a = b) (Classical.propDecidable _)
theorem sameB_true {a b : List Itm} (h : a = b) : sameB a b = true := by unfold sameB; exact @decide_eq_true _ (Classical.propDecidable _) h
theorem sameB_false {a b : List Itm} (h : ¬ a = b) : sameB a b = false := by unfold sameB; exact @decide_eq_false _ (Classical.propDecidable _) h
theorem sameB_iff {a b : List Itm} : sameB a b = true ↔ a = b := by
  constructor
  · intro h; exact Classical.byContradiction fun hn => by rw [sameB_false hn] at h; cases h
  · exact sameB_true
theorem bytes_eq {a b : ByteArray} : (a.toList == b.toList) = true ↔ a = b := by
  constructor
  · intro h
    have h : a.toList = b.toList := by simpa using h
    rw [ByteArray.toList_eq, ByteArray.toList_eq] at h
    have := Array.toList_inj.1 h
    cases a; cases b
    simpa using this
  · rintro rfl; simp

set_option maxRecDepth 100000 in
set_option maxHeartbeats 4000000 in
theorem same_its : ∀ (d : Nat) (l1 l2 : List Itm) (ao1 ao2 : Option Addr) (cap1 cap2 d2 : Nat) (w : World) (B : Nat), RIts d B w ao1 cap1 l1 → RIts d2 B w ao2 cap2 l2 → B ≤ w.heap.size →
    Calls Try.prog 16 #[.slice ao1 l1.length cap1, .slice ao2 l2.length cap2] w fun e w' => e = .returned (.bool (sameB l1 l2)) ∧ Below w.heap.size w w' := by
  intro d
  induction d using Nat.strongRecOn with
  | _ d ih =>
  intro l1 l2 ao1 ao2 cap1 cap2 d2 w B hl1 hl2 hB
  have hll1 := hl1.len
  have hll2 := hl2.len
  obtain ⟨res, hres⟩ : ∃ res, res = sameB l1 l2 := ⟨_, rfl⟩
  rw [← hres]
  replace hres := Lib.hid hres
  obtain ⟨n1, hn1⟩ : ∃ n, n = l1.length := ⟨_, rfl⟩
  obtain ⟨n2, hn2⟩ : ∃ n, n = l2.length := ⟨_, rfl⟩
  rw [← hn1] at hll1 ⊢
  rw [← hn2] at hll2 ⊢
  replace hn1 := Lib.hid hn1
  replace hn2 := Lib.hid hn2
  go_enter Try.func16, Try.ntmps16
  by_cases hne : n1 = n2
  · subst hne
    have hne2 : ((n1 : Int) != (n1 : Int)) = false := by simp
    go_wp2_with fail
    go_loopw [5] (fun x5 wr => ∃ (k : Nat), k ≤ n1 ∧ x5 = .int .i64 k ∧ l1.take k = l2.take k ∧ Below w.heap.size w wr) (fun x5 _ => n1 - (intOf x5).toNat)
    case atStart => exact ⟨0, Nat.zero_le _, rfl, by simp, Below.refl _ _⟩
    case round =>
      obtain ⟨k, hk, rfl, hpre, hbel⟩ := hrel
      have hsz := hbel.size
      by_cases hlt : k < n1
      · have hk1 : k < l1.length := by rw [← hn1.out]; exact hlt
        have hk2 : k < l2.length := by rw [← hn2.out]; exact hlt
        obtain ⟨b1, o1, rfl, hb1, _⟩ := hl1.1.addr (by omega)
        obtain ⟨b2, o2, rfl, hb2, _⟩ := hl2.1.addr (by omega)
        obtain ⟨⟨k1, m1, s1, r1⟩, hx⟩ : ∃ x, l1[k] = x := ⟨_, rfl⟩
        obtain ⟨⟨k2, m2, s2, r2⟩, hy⟩ : ∃ x, l2[k] = x := ⟨_, rfl⟩
        obtain ⟨la1, lc1, d', hd', e0, e1, e2, e3, w0, w1, hts, hls1⟩ := hl1.at hk1 hx
        obtain ⟨la2, lc2, d2', hd2', g0, g1, g2, g3, v0, v1, hts2, hls2⟩ := hl2.at hk2 hy
        have hb1w : b1 < w.heap.size := by omega
        have hb2w : b2 < w.heap.size := by omega
        have hcall : ∀ u : Wd wr, Calls Try.prog 16 #[.slice la1 r1.length lc1, .slice la2 r2.length lc2] u.v fun e w' => e = .returned (.bool (sameB r1 r2)) ∧ Below u.v.heap.size u.v w' := fun u =>
          ih d' (by omega) r1 r2 la1 la2 lc1 lc2 d2' u.v B (hls1.below ((hbel.mono hB).trans (u.h.mono (by omega)))) (hls2.below ((hbel.mono hB).trans (u.h.mono (by omega)))) (by have := u.h.size; omega)
        have c0 : ∀ u : Wd wr, u.v.cell? ⟨b1, o1 + k * 4, none⟩ = some (.int .i64 k1) := fun u => Wd.cell ((hbel.cell (p := ⟨b1, o1 + k * 4, none⟩) hb1w).trans e0) (by simp; omega) u
        have c1 : ∀ u : Wd wr, u.v.cell? ⟨b1, o1 + k * 4 + 1, none⟩ = some (.int .i64 m1) := fun u => Wd.cell ((hbel.cell (p := ⟨b1, o1 + k * 4 + 1, none⟩) hb1w).trans e1) (by simp; omega) u
        have c2 : ∀ u : Wd wr, u.v.cell? ⟨b1, o1 + k * 4 + 2, none⟩ = some (.string s1) := fun u => Wd.cell ((hbel.cell (p := ⟨b1, o1 + k * 4 + 2, none⟩) hb1w).trans e2) (by simp; omega) u
        have c3 : ∀ u : Wd wr, u.v.cell? ⟨b1, o1 + k * 4 + 3, none⟩ = some (.slice la1 r1.length lc1) := fun u => Wd.cell ((hbel.cell (p := ⟨b1, o1 + k * 4 + 3, none⟩) hb1w).trans e3) (by simp; omega) u
        have c4 : ∀ u : Wd wr, u.v.cell? ⟨b2, o2 + k * 4, none⟩ = some (.int .i64 k2) := fun u => Wd.cell ((hbel.cell (p := ⟨b2, o2 + k * 4, none⟩) hb2w).trans g0) (by simp; omega) u
        have c5 : ∀ u : Wd wr, u.v.cell? ⟨b2, o2 + k * 4 + 1, none⟩ = some (.int .i64 m2) := fun u => Wd.cell ((hbel.cell (p := ⟨b2, o2 + k * 4 + 1, none⟩) hb2w).trans g1) (by simp; omega) u
        have c6 : ∀ u : Wd wr, u.v.cell? ⟨b2, o2 + k * 4 + 2, none⟩ = some (.string s2) := fun u => Wd.cell ((hbel.cell (p := ⟨b2, o2 + k * 4 + 2, none⟩) hb2w).trans g2) (by simp; omega) u
        have c7 : ∀ u : Wd wr, u.v.cell? ⟨b2, o2 + k * 4 + 3, none⟩ = some (.slice la2 r2.length lc2) := fun u => Wd.cell ((hbel.cell (p := ⟨b2, o2 + k * 4 + 3, none⟩) hb2w).trans g3) (by simp; omega) u
        have hno : (.mk k1 m1 s1 r1 : Itm) ≠ .mk k2 m2 s2 r2 → res = false := by
          intro h
          rw [hres.out]
          refine sameB_false fun he => h ?_
          rw [← hx, ← hy]
          simp only [he]
        have hyes : (.mk k1 m1 s1 r1 : Itm) = .mk k2 m2 s2 r2 → l1.take (k + 1) = l2.take (k + 1) := by
          intro h
          rw [List.take_add_one, List.take_add_one, hpre, List.getElem?_eq_getElem hk1, List.getElem?_eq_getElem hk2, hx, hy, h]
        clear ih e0 e1 e2 e3 g0 g1 g2 g3 w0 w1 v0 v1 hpre
        obtain ⟨rv, hrv⟩ : ∃ rv, rv = sameB r1 r2 := ⟨_, rfl⟩
        rw [← hrv] at hcall
        have hrb : rv = true ↔ r1 = r2 := by rw [hrv]; exact sameB_iff
        clear hrv hres
        replace hno := Lib.hid hno
        replace hyes := Lib.hid hyes
        replace hrb := Lib.hid hrb
        obtain ⟨q1, hq1⟩ : ∃ q, q = r1.length := ⟨_, rfl⟩
        obtain ⟨q2, hq2⟩ : ∃ q, q = r2.length := ⟨_, rfl⟩
        rw [← hq1] at hcall c3
        rw [← hq2] at hcall c7
        clear hq1 hq2
        by_cases h1 : k1 = k2
        · subst h1
          by_cases h2 : m1 = m2
          · subst h2
            by_cases h3 : s1 = s2
            · subst h3
              cases rv with
              | true =>
                go_wp2_with fail
                refine wp_region_below (by kernel_rfl) (by kernel_rfl) ?_
                repeat (go_big_quiet_step ((go_at_call 16; exact (hcall _).quiet_below)))
                refine wpQuiet_nil ?_
                rintro _ ⟨u, rfl⟩
                go_wp2_with fail
                go_roundw
                case rel => exact ⟨k + 1, by omega, rfl, hyes.out (by rw [hrb.out.1 (by simp)]), hbel.trans (u.h.mono hsz)⟩
                case measure => simp [intOf]; omega
              | false =>
                go_wp2_with fail
                refine wp_region_below (by kernel_rfl) (by kernel_rfl) ?_
                repeat (go_big_quiet_step ((go_at_call 16; exact (hcall _).quiet_below)))
                refine wpQuiet_nil ?_
                rintro _ ⟨u, rfl⟩
                go_wp2_with fail
                obtain rfl := hno.out (by intro h; injection h; exact absurd (hrb.out.2 (by assumption)) (by simp))
                go_ret
                exact ⟨rfl, hbel.trans (u.h.mono hsz)⟩
            · have h3b : (s1.toList == s2.toList) = false := by
                cases h : (s1.toList == s2.toList) with
                | true => exact absurd (bytes_eq.1 h) h3
                | false => rfl
              go_wp2_with fail
              refine wp_region_below (by kernel_rfl) (by kernel_rfl) ?_
              repeat (go_big_quiet_step ((go_at_call 16; exact (hcall _).quiet_below)))
              refine wpQuiet_nil ?_
              rintro _ ⟨u, rfl⟩
              go_wp2_with fail
              obtain rfl := hno.out (by intro h; injection h; exact absurd (by assumption) h3)
              go_ret
              exact ⟨rfl, hbel.trans (u.h.mono hsz)⟩
          · have h2b : (m1 != m2) = true := by simpa using h2
            go_wp2_with fail
            refine wp_region_below (by kernel_rfl) (by kernel_rfl) ?_
            repeat (go_big_quiet_step ((go_at_call 16; exact (hcall _).quiet_below)))
            refine wpQuiet_nil ?_
            rintro _ ⟨u, rfl⟩
            go_wp2_with fail
            obtain rfl := hno.out (by intro h; injection h; exact absurd (by assumption) h2)
            go_ret
            exact ⟨rfl, hbel.trans (u.h.mono hsz)⟩
        · have h1b : (k1 != k2) = true := by simpa using h1
          go_wp2_with fail
          refine wp_region_below (by kernel_rfl) (by kernel_rfl) ?_
          repeat (go_big_quiet_step ((go_at_call 16; exact (hcall _).quiet_below)))
          refine wpQuiet_nil ?_
          rintro _ ⟨u, rfl⟩
          go_wp2_with fail
          obtain rfl := hno.out (by intro h; injection h; exact absurd (by assumption) h1)
          go_ret
          exact ⟨rfl, hbel.trans (u.h.mono hsz)⟩
      · obtain rfl : k = n1 := by omega
        have hr : res = true := by
          rw [hres.out]
          apply sameB_true
          have := hpre
          rwa [List.take_of_length_le (by rw [← hn1.out]; exact Nat.le_refl _), List.take_of_length_le (by rw [← hn2.out]; exact Nat.le_refl _)] at this
        subst hr
        clear hres
        go_wp2_with fail
        go_ret
        exact ⟨rfl, hbel⟩
  · have hne2 : ((n1 : Int) != (n2 : Int)) = true := by simpa using fun h => hne (by omega)
    have hr : res = false := by
      rw [hres.out]
      refine sameB_false fun he => hne ?_
      rw [hn1.out, hn2.out, he]
    subst hr
    clear hres
    go_wp2_with fail
    go_ret
    exact ⟨rfl, Below.refl _ _⟩
end Go.Proofs.Ythemljefmgphkaa
