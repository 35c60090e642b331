/- Stamp: SameTimes, the document's Covers and Front. -/
import Derived.Test.YtjigbkklgekjlaaSa
namespace Go.Proofs.Ytjigbkklgekjlaa
open Go.RowKit
set_option linter.unusedVariables false

theorem imp_times {B : Nat} {w w' : World} {ao : Option Addr} {cap : Nat} {xs : List TTime} (h : SlA B 2 (RTime B) w ao cap xs) (hb : Below B w w') : SlA B 2 (RTime B) w' ao cap xs := h.imp hb (Nat.le_refl _) (fun _ _ _ h => h)
theorem imp_times' {B B' : Nat} {w : World} {ao : Option Addr} {cap : Nat} {xs : List TTime} (h : SlA B 2 (RTime B) w ao cap xs) (hb : B ≤ B') : SlA B' 2 (RTime B') w ao cap xs := h.imp (Below.refl _ _) hb (fun _ _ _ h => h)
theorem sameTs_iff (a b : List TTime) : sameTs a b = true ↔ a = b := by
  constructor
  · intro h
    unfold sameTs at h
    simp only [Bool.and_eq_true, decide_eq_true_eq] at h
    obtain ⟨hl, hz⟩ := h
    refine List.ext_getElem hl fun i h1 h2 => ?_
    rw [List.all_eq_true] at hz
    have := hz (a[i], b[i]) (List.mem_iff_getElem.2 ⟨i, by simp; omega, by simp⟩)
    exact (sameT_iff _ _).1 this
  · rintro rfl; exact sameTs_self a
theorem sameTs_false {a b : List TTime} (h : a ≠ b) : sameTs a b = false := by
  cases hs : sameTs a b with
  | false => rfl
  | true => exact absurd ((sameTs_iff a b).1 hs) h
theorem take_succ_eq {α : Type} {l m : List α} {k : Nat} (h1 : k < l.length) (h2 : k < m.length) (h : l.take k = m.take k) (he : l[k] = m[k]) : l.take (k + 1) = m.take (k + 1) := by
  rw [List.take_succ_eq_append_getElem h1, List.take_succ_eq_append_getElem h2, h, he]

set_option maxHeartbeats 1000000 in
theorem sameTimes_any (l m : List TTime) (ao bo : Option Addr) (c1 c2 : Nat) (w : World) (B : Nat) (hB : B ≤ w.heap.size) (hl : SlA B 2 (RTime B) w ao c1 l) (hm : SlA B 2 (RTime B) w bo c2 m) :
    Calls Try.prog 10 #[.slice ao l.length c1, .slice bo m.length c2] w fun e w' => e = .returned (.bool (sameTs l m)) ∧ Below w.heap.size w w' := by
  by_cases hlen : l.length = m.length
  · have hln := hl.len
    obtain ⟨n, hn⟩ : ∃ n, n = l.length := ⟨_, rfl⟩
    rw [← hlen, ← hn]
    rw [← hn] at hln
    have Hm : Hid (n = m.length) := Lib.hid (hn.trans hlen)
    replace hn := Lib.hid hn
    clear hlen
    obtain ⟨res, hres⟩ : ∃ res, res = sameTs l m := ⟨_, rfl⟩
    rw [← hres]
    replace hres := Lib.hid hres
    go_enter Try.func10, Try.ntmps10
    go_wp2_with fail
    go_loopw [5] (fun i wr => ∃ k : Nat, k ≤ n ∧ i = .int .i64 k ∧ Below w.heap.size w wr ∧ Hid (l.take k = m.take k)) (fun i _ => n - (intOf i).toNat)
    case atStart => exact ⟨0, Nat.zero_le _, rfl, Below.refl _ _, Lib.hid rfl⟩
    case round =>
      obtain ⟨k, hk, rfl, hbel, hpre⟩ := hrel
      by_cases hlt : k < n
      · have hkl : k < l.length := by rw [← hn.out]; exact hlt
        have hkm : k < m.length := by rw [← Hm.out]; exact hlt
        obtain ⟨b1, o1, rfl, hb1, _⟩ := hl.addr (by omega)
        obtain ⟨b2, o2, rfl, hb2, _⟩ := hm.addr (by omega)
        obtain ⟨x, hx⟩ : ∃ x, l[k] = x := ⟨_, rfl⟩
        obtain ⟨y, hy⟩ : ∃ y, m[k] = y := ⟨_, rfl⟩
        obtain ⟨e0, e1, _, _⟩ := RTime.at (imp_times hl (hbel.mono hB)) hkl hx
        obtain ⟨g0, g1, _, _⟩ := RTime.at (imp_times hm (hbel.mono hB)) hkm hy
        have hsz := hbel.size
        have q0 := Wd.cell e0 (show b1 < wr.heap.size by omega)
        have q1 := Wd.cell e1 (show b1 < wr.heap.size by omega)
        have q2 := Wd.cell g0 (show b2 < wr.heap.size by omega)
        have q3 := Wd.cell g1 (show b2 < wr.heap.size by omega)
        have hsame := fun W => same_t x y W
        have hts := take_succ_eq hkl hkm hpre.out
        rw [hx, hy] at hts
        have hne : x ≠ y → res = false := fun hxy => by rw [hres.out]; exact sameTs_false (fun e => hxy (by rw [← hx, ← hy]; simp only [e]))
        replace hts := Lib.hid hts
        replace hne := Lib.hid hne
        clear e0 e1 g0 g1 hx hy hl hm
        cases hs : sameT x y with
        | true =>
          have hxy := (sameT_iff x y).1 hs
          have hts2 := Lib.hid (hts.out hxy)
          rw [hs] at hsame
          clear hs hxy hts hne
          go_wp2_with fail
          refine wp_region_below (by kernel_rfl) (by kernel_rfl) ?_
          repeat (go_big_quiet_step ((go_at_call 11; exact Calls.quiet_below (hsame _))))
          refine wpQuiet_nil ?_
          rintro _ ⟨u, rfl⟩
          have hbu := hbel.trans (u.h.mono hsz)
          go_wp2_with fail
          go_roundw
          case rel => exact ⟨k + 1, by omega, by go_num, hbu, hts2⟩
          case measure => simp [intOf]; omega
        | false =>
          have hxy : x ≠ y := fun e => by rw [(sameT_iff x y).2 e] at hs; cases hs
          have hr := hne.out hxy
          rw [hs] at hsame
          subst hr
          clear hs hxy hts hne
          go_wp2_with fail
          refine wp_region_below (by kernel_rfl) (by kernel_rfl) ?_
          repeat (go_big_quiet_step ((go_at_call 11; exact Calls.quiet_below (hsame _))))
          refine wpQuiet_nil ?_
          rintro _ ⟨u, rfl⟩
          have hbu := hbel.trans (u.h.mono hsz)
          go_wp2_with fail
          go_ret
          exact ⟨rfl, hbu⟩
      · obtain rfl : k = n := by omega
        have hr : res = true := by
          rw [hres.out, sameTs_iff]
          have h1 := hpre.out
          rw [List.take_of_length_le (by rw [← hn.out]; exact Nat.le_refl _), List.take_of_length_le (by rw [← Hm.out]; exact Nat.le_refl _)] at h1
          exact h1
        subst hr
        clear hres
        go_wp2_with fail
        go_ret
        exact ⟨rfl, hbel⟩
  · have hr : sameTs l m = false := sameTs_false fun e => hlen (by rw [e])
    rw [hr]
    have h1 := hl.len
    have h2 := hm.len
    have e1 : ((l.length : Int) != (m.length : Int)) = true := by simp; omega
    clear hlen hr
    go_enter Try.func10, Try.ntmps10
    go_wp2_with fail
    go_ret
    exact ⟨rfl, Below.refl _ _⟩

theorem covers_succ {l : List TTime} {k : Nat} {x : TTime} (t : TTime) (h : k < l.length) (hx : l[k] = x) (hp : coversT (l.take k) t = false) : coversT (l.take (k + 1)) t = (goodT x && leT x t) := by
  unfold coversT at *
  rw [List.take_succ_eq_append_getElem h, List.any_append, hp, hx]
  simp
theorem covers_hit {l : List TTime} {k : Nat} {x : TTime} (t : TTime) (h : k < l.length) (hx : l[k] = x) (hp : (goodT x && leT x t) = true) : coversT l t = true := by
  unfold coversT
  exact List.any_eq_true.2 ⟨x, by rw [← hx]; exact List.getElem_mem h, hp⟩

set_option maxHeartbeats 1000000 in
theorem rcovers_any (l : List TTime) (t : TTime) (ao : Option Addr) (c1 : Nat) (w : World) (B : Nat) (hB : B ≤ w.heap.size) (hl : SlA B 2 (RTime B) w ao c1 l) :
    Calls Try.prog 17 #[.slice ao l.length c1, .agg #[.int .i64 t.fEpoch, .int .i64 t.fRound]] w fun e w' => e = .returned (.bool (coversT l t)) ∧ Below w.heap.size w w' := by
  have hln := hl.len
  obtain ⟨n, hn⟩ : ∃ n, n = l.length := ⟨_, rfl⟩
  rw [← hn]
  rw [← hn] at hln
  replace hn := Lib.hid hn
  obtain ⟨res, hres⟩ : ∃ res, res = coversT l t := ⟨_, rfl⟩
  rw [← hres]
  replace hres := Lib.hid hres
  go_enter Try.func17, Try.ntmps17
  go_wp2_with fail
  refine Code.wp_world ?_
  intro w1 hw1
  have hb1 : Below w.heap.size w w1 := by rw [hw1]; exact (by repeat (first | exact Below.refl _ _ | assumption | refine below_drewN ?_ _ | refine Below.drew ?_ | (refine Below.setCell ?_ (by first | omega | (simp; omega) | simp) _) | (refine Below.alloc ?_ (by first | omega | (simp; omega) | simp) _) | (refine Below.trans ?_ (Below.mono (by assumption) (by first | omega | (simp; omega) | simp)))))
  have hT : Blk w1 w.heap.size #[.int .i64 t.fEpoch, .int .i64 t.fRound] 25 := by rw [hw1]; exact Blk.new _ _ _
  have hl1 := imp_times hl (hb1.mono hB)
  have hB1 : B ≤ w1.heap.size := Nat.le_trans hB hb1.size
  clear hw1 hl hB
  go_loopw [5] (fun i wr => ∃ k : Nat, k ≤ n ∧ i = .int .i64 k ∧ Below w1.heap.size w1 wr ∧ Hid (coversT (l.take k) t = false)) (fun i _ => n - (intOf i).toNat)
  case atStart => exact ⟨0, Nat.zero_le _, rfl, Below.refl _ _, Lib.hid rfl⟩
  case round =>
    obtain ⟨k, hk, rfl, hbel, hpre⟩ := hrel
    have hsz := hbel.size
    by_cases hlt : k < n
    · have hkl : k < l.length := by rw [← hn.out]; exact hlt
      obtain ⟨b1, o1, rfl, hb1', _⟩ := hl1.addr (by omega)
      obtain ⟨x, hx⟩ : ∃ x, l[k] = x := ⟨_, rfl⟩
      obtain ⟨e0, e1, _, _⟩ := RTime.at (imp_times hl1 (hbel.mono hB1)) hkl hx
      have hT2 := hT.below hbel hT.lt
      have q0 := Wd.cell e0 (show b1 < wr.heap.size by omega)
      have q1 := Wd.cell e1 (show b1 < wr.heap.size by omega)
      have q2 := Wd.cell (hT2.cellAt (i := 0) (v := .int .i64 t.fEpoch) rfl) hT2.lt
      have q3 := Wd.cell (hT2.cellAt (i := 1) (v := .int .i64 t.fRound) rfl) hT2.lt
      have hg := fun W => rgood_t x W
      have hle := fun W => rle_t x t W
      have hs := covers_succ t hkl hx hpre.out
      have hr : (goodT x && leT x t) = true → res = true := fun h => by rw [hres.out]; exact covers_hit t hkl hx h
      clear e0 e1 hx hl1 hT hT2
      cases h1 : goodT x with
      | true =>
        rw [h1] at hg hs hr
        cases h2 : leT x t with
        | true =>
          rw [h2] at hle hr
          obtain rfl := hr rfl
          clear hs hr h1 h2
          go_wp2_with fail
          refine wp_region_below (by kernel_rfl) (by kernel_rfl) ?_
          repeat (go_big_quiet_step (first | (go_at_call 19; exact Calls.quiet_below (hg _)) | (go_at_call 20; exact Calls.quiet_below (hle _))))
          refine wpQuiet_nil ?_
          rintro _ ⟨u, rfl⟩
          go_wp2_with fail
          go_ret
          exact ⟨rfl, hb1.trans ((hbel.trans (u.h.mono hsz)).mono hb1.size)⟩
        | false =>
          rw [h2] at hle hs
          replace hs := Lib.hid hs
          clear hr h1 h2
          go_wp2_with fail
          refine wp_region_below (by kernel_rfl) (by kernel_rfl) ?_
          repeat (go_big_quiet_step (first | (go_at_call 19; exact Calls.quiet_below (hg _)) | (go_at_call 20; exact Calls.quiet_below (hle _))))
          refine wpQuiet_nil ?_
          rintro _ ⟨u, rfl⟩
          have hbu := hbel.trans (u.h.mono hsz)
          go_wp2_with fail
          go_roundw
          case rel => exact ⟨k + 1, by omega, by go_num, hbu, hs⟩
          case measure => simp [intOf]; omega
      | false =>
        rw [h1] at hg hs
        replace hs := Lib.hid hs
        clear hr h1
        go_wp2_with fail
        refine wp_region_below (by kernel_rfl) (by kernel_rfl) ?_
        repeat (go_big_quiet_step ((go_at_call 19; exact Calls.quiet_below (hg _))))
        refine wpQuiet_nil ?_
        rintro _ ⟨u, rfl⟩
        have hbu := hbel.trans (u.h.mono hsz)
        go_wp2_with fail
        go_roundw
        case rel => exact ⟨k + 1, by omega, by go_num, hbu, hs⟩
        case measure => simp [intOf]; omega
    · obtain rfl : k = n := by omega
      have hr : res = false := by
        rw [hres.out]
        have h1 := hpre.out
        rw [List.take_of_length_le (by rw [← hn.out]; exact Nat.le_refl _)] at h1
        exact h1
      subst hr
      clear hres
      go_wp2_with fail
      go_ret
      exact ⟨rfl, hb1.trans (hbel.mono hb1.size)⟩
end Go.Proofs.Ytjigbkklgekjlaa
