/- Stamp: StampLeast: the walk. -/
import Derived.Test.YtjigbkklgekjlaaSg
namespace Go.Proofs.Ytjigbkklgekjlaa
open Go.RowKit
set_option linter.unusedVariables false

theorem leftT_len (t : TTime) : ∀ (l : List TTime) (done : Bool), (leftT t l done).length ≤ l.length + (if done then 0 else 1)
  | [], done => by cases done <;> simp [leftT]
  | o :: r, done => by
    have h1 := leftT_len t r done
    have h2 := leftT_len t r true
    rw [leftT]
    split
    · simp; omega
    · split
      · rename_i hd
        have : done = false := by cases done <;> simp_all
        subst this
        simp at h2 ⊢; omega
      · simp; omega
theorem stepT_len (out : List TTime) (t : TTime) : (stepT out t).length ≤ out.length + 1 := by
  unfold stepT
  split
  · omega
  · simpa using leftT_len t out false
theorem frontT_len (l : List TTime) : (frontT l).length ≤ l.length := by
  suffices H : ∀ (l out : List TTime), (l.foldl stepT out).length ≤ out.length + l.length by simpa [frontT] using H l []
  intro l
  induction l with
  | nil => intro out; simp
  | cons t r ih =>
    intro out
    have h1 := ih (stepT out t)
    have h2 := stepT_len out t
    simp; omega
theorem IsFront.apart {l f : List TTime} (h : IsFront l f) {i k : Nat} (hi : i < f.length) (hk : k < f.length) (hik : i ≠ k) : leT f[i] f[k] = false := by
  cases hle : leT f[i] f[k] with
  | false => rfl
  | true =>
    have hmi := (h.mem f[i]).1 (List.getElem_mem hi)
    have hmk := (h.mem f[k]).1 (List.getElem_mem hk)
    have he := hmk.2.2 _ hmi.1 hmi.2.1 hle
    have ha := List.pairwise_iff_getElem.1 h.asc
    rcases Nat.lt_or_gt_of_ne hik with h1 | h1
    · have := ha i k hi hk h1; rw [he] at this; omega
    · have := ha k i hk hi h1; rw [he] at this; omega
theorem IsFront.rise {l f : List TTime} (h : IsFront l f) {i k : Nat} (hi : i < f.length) (hk : k < f.length) (hik : i < k) : f[i].fEpoch < f[k].fEpoch :=
  List.pairwise_iff_getElem.1 h.asc i k hi hk hik

theorem sameTimes_at (l m : List TTime) (n1 n2 : Nat) (ao bo : Option Addr) (c1 c2 : Nat) (w : World) (B : Nat) (e1 : n1 = l.length) (e2 : n2 = m.length) (hB : B ≤ w.heap.size) (hl : SlA B 2 (RTime B) w ao c1 l) (hm : SlA B 2 (RTime B) w bo c2 m) (h : l = m) :
    Calls Try.prog 10 #[.slice ao n1 c1, .slice bo n2 c2] w fun e w' => e = .returned (.bool true) ∧ Below w.heap.size w w' := by
  rw [e1, e2]
  exact sameTimes_true l m ao bo c1 c2 w B hB hl hm h

set_option maxRecDepth 100000 in
set_option maxHeartbeats 400000 in
theorem least_walk (l : List TTime) (t : TTime) (ao : Option Addr) (c1 : Nat) (w : World) (hl : SlA w.heap.size 2 (RTime w.heap.size) w ao c1 l) (hreach : l.length * 16 ≤ 140737488351232) :
    Calls Try.prog 6 #[.slice ao l.length c1, .agg #[.int .i64 t.fEpoch, .int .i64 t.fRound]] w fun e w' => e = .returned (.bool true) ∧ Below w.heap.size w w' := by
  have hfr : ∀ W, Below w.heap.size w W → Calls Try.prog 9 #[.slice ao l.length c1] W fun e w' => ∃ v f, e = .returned v ∧ OwnT w' W.heap.size v f ∧ IsFront l f ∧ Below W.heap.size W w' := fun W hb =>
    front_any l ao c1 W w.heap.size hb.size (imp_times hl hb) hreach
  have hcv : ∀ W, Below w.heap.size w W → Calls Try.prog 16 #[.slice ao l.length c1, .agg #[.int .i64 t.fEpoch, .int .i64 t.fRound]] W fun e w' => e = .returned (.bool (coversT l t)) ∧ Below W.heap.size W w' := fun W hb =>
    covers_any l t ao c1 W w.heap.size hb.size (imp_times hl hb)
  have hwf := Lib.hid (wf_of_sla hl)
  obtain ⟨i0, hi, hz0, hz1, hz2⟩ := info_parts infoT
  obtain ⟨n, hn⟩ : ∃ n, n = l.length := ⟨_, rfl⟩
  rw [← hn] at hfr hcv hreach ⊢
  replace hn := Lib.hid hn
  go_enter Try.func6, Try.ntmps6
  go_wp2_with fail
  refine (known_any _).mono ?_
  rintro e w1 ⟨rfl, b1⟩
  have hbel : Below w.heap.size w w1 := (by repeat (first | exact Below.refl _ _ | assumption | refine below_drewN ?_ _ | refine Below.drew ?_ | (refine Below.setCell ?_ (by first | omega | (simp; omega) | simp) _) | (refine Below.alloc ?_ (by first | omega | (simp; omega) | simp) _) | (refine Below.trans ?_ (Below.mono (by assumption) (by first | omega | (simp; omega) | simp)))))
  have hT : Blk w1 w.heap.size #[.int .i64 t.fEpoch, .int .i64 t.fRound] 25 := (Blk.new _ _ _).below b1 (by simp)
  clear b1
  go_wp2_with fail
  refine (hfr _ hbel).mono ?_
  rintro e w2 ⟨v, f, rfl, hv, hf, b2⟩
  have hbel := hbel.trans (b2.mono hbel.size)
  have hT := hT.below b2 hT.lt
  have hfl : f.length ≤ n := by have h1 := frontT_len l; rw [← front_unique hf] at h1; have := hn.out; omega
  have e0 : w2.cell? ⟨w.heap.size, 0, none⟩ = some (.int .i64 t.fEpoch) := hT.cellAt rfl
  have e1 : w2.cell? ⟨w.heap.size, 1, none⟩ = some (.int .i64 t.fRound) := hT.cellAt rfl
  obtain ⟨fa, fc, rfl, hsl⟩ := hv.sla
  have hfr2 : ∀ W, Below w2.heap.size w2 W → Calls Try.prog 9 #[.slice fa f.length fc] W fun e w' => ∃ v g, e = .returned v ∧ OwnT w' W.heap.size v g ∧ g = f ∧ Below W.heap.size W w' := fun W hb =>
    (front_any f fa fc W w2.heap.size hb.size (imp_times hsl hb) (by omega)).mono fun e w' ⟨v, g, he, ho, hg, hb'⟩ => ⟨v, g, he, ho, hg.unique hf.self, hb'⟩
  have hcv2 : ∀ W, Below w2.heap.size w2 W → Calls Try.prog 16 #[.slice fa f.length fc, .agg #[.int .i64 t.fEpoch, .int .i64 t.fRound]] W fun e w' => e = .returned (.bool (coversT l t)) ∧ Below W.heap.size W w' := fun W hb => by
    rw [← hf.covers t]
    exact covers_any f t fa fc W w2.heap.size hb.size (imp_times hsl hb)
  obtain ⟨m, hm⟩ : ∃ m, m = f.length := ⟨_, rfl⟩
  rw [← hm] at hfr2 hcv2 hfl ⊢
  replace hm := Lib.hid hm
  generalize coversT l t = cv at hcv hcv2
  have hcc : (cv != cv) = false := by cases cv <;> rfl
  have b2 : Below w2.heap.size w2 w2 := Below.refl _ _
  have hvf := hv
  go_wp2_with fail
  go_region_held3 (fun wx => wx.cell? ⟨w.heap.size, 0, none⟩ = some (.int .i64 t.fEpoch) ∧ wx.cell? ⟨w.heap.size, 1, none⟩ = some (.int .i64 t.fRound))
    (first | exact ⟨hT.cellAt rfl, hT.cellAt rfl⟩)
    (first
      | (go_at_call 16; (with_reducible refine (hcv2 _ b2.drew).mono ?_); rintro e w3 ⟨rfl, b3⟩; have hbel := hbel.drew.trans (b3.mono hbel.size); have hT := hT.drew.below b3 hT.lt; have b2 := b2.drew.trans (b3.mono b2.size))
      | (go_at_call 16; (with_reducible refine (hcv _ hbel).mono ?_); rintro e w3 ⟨rfl, b3⟩; have hbel := hbel.trans (b3.mono hbel.size); have hT := hT.below b3 hT.lt; have b2 := b2.trans (b3.mono b2.size))
      | (go_at_call 9; refine (hfr2 _ b2).mono ?_; rintro e w3 ⟨v3, g3, rfl, hv3, hg3, b3⟩; rw [hg3] at hv3; clear hg3; have hbel := hbel.trans (b3.mono hbel.size); have hT := hT.below b3 hT.lt; have b2 := b2.trans (b3.mono b2.size); obtain ⟨a3, k3, rfl, s3⟩ := hv3.sla)
      | (go_at_call 10; refine (sameTimes_at _ _ _ _ _ _ _ _ _ _ rfl hm.out (Nat.le_refl _) s3 (imp_times' (imp_times hsl b2) b2.size) rfl).mono ?_; rintro e w3 ⟨rfl, b3⟩; have hbel := hbel.trans (b3.mono hbel.size); have hT := hT.below b3 hT.lt; have b2 := b2.trans (b3.mono b2.size)))
  go_wp2_with fail
  refine Code.wp_world ?_
  intro w4 hw4
  rw [← hw4] at hbel hT b2
  have hsl4 := imp_times' (imp_times hsl b2) b2.size
  have hl4 := imp_times hl hbel
  clear hw4 hv hvf hsl hfr hcv hcv2 hcc e0 e1 hT
  have ha : ∀ i k (hi : i < f.length) (hk : k < f.length), i ≠ k → leT f[i] f[k] = false := fun i k hi hk h => hf.apart hi hk h
  have hr : ∀ i k (hi : i < f.length) (hk : k < f.length), i < k → f[i].fEpoch < f[k].fEpoch := fun i k hi hk h => hf.rise hi hk h
  replace ha := Lib.hid ha
  replace hr := Lib.hid hr
  replace hf := Lib.hid hf
  go_loopw [6] (fun i wr => ∃ j : Nat, j ≤ m ∧ i = .int .i64 j ∧ Below w4.heap.size w4 wr) (fun i _ => m - (intOf i).toNat)
  case atStart => exact ⟨0, Nat.zero_le _, rfl, Below.refl _ _⟩
  case round =>
    obtain ⟨j, hj, rfl, hb4⟩ := hrel
    have hsz4 := hb4.size
    by_cases hjm : j < m
    · have hjf : j < f.length := by rw [← hm.out]; exact hjm
      go_wp2_with fail
      go_loopw [7] (fun i wx => ∃ k : Nat, k ≤ m ∧ i = .int .i64 k ∧ Below w4.heap.size w4 wx) (fun i _ => m - (intOf i).toNat)
      case atStart => exact ⟨0, Nat.zero_le _, rfl, hb4⟩
      case round =>
        clear hb4 hsz4
        obtain ⟨k, hk, rfl, hbx⟩ := hrel
        have hszx := hbx.size
        by_cases hkm : k < m
        · have hkf : k < f.length := by rw [← hm.out]; exact hkm
          obtain ⟨b1, o1, rfl, hb1, _⟩ := hsl4.addr (by omega)
          obtain ⟨x, hx⟩ : ∃ x, f[j] = x := ⟨_, rfl⟩
          obtain ⟨y, hy⟩ : ∃ y, f[k] = y := ⟨_, rfl⟩
          obtain ⟨e0, e1, _, _⟩ := RTime.at (imp_times hsl4 hbx) hjf hx
          obtain ⟨g0, g1, _, _⟩ := RTime.at (imp_times hsl4 hbx) hkf hy
          have q0 := Wd.cell e0 (show b1 < wr.heap.size by omega)
          have q1 := Wd.cell e1 (show b1 < wr.heap.size by omega)
          have q2 := Wd.cell g0 (show b1 < wr.heap.size by omega)
          have q3 := Wd.cell g1 (show b1 < wr.heap.size by omega)
          have hle := fun W => le_t x y W
          have hax := ha.out j k hjf hkf
          have hrx := hr.out j k hjf hkf
          rw [hx, hy] at hax hrx
          clear e0 e1 g0 g1 hx hy
          rcases Nat.lt_trichotomy j k with h1 | h1 | h1
          · have h2 := hax (by omega)
            have h3 := hrx h1
            rw [h2] at hle
            have d1 : ((j : Int) != (k : Int)) = true := by simp; omega
            have d2 : decide ((j : Int) < (k : Int)) = true := by simp; omega
            have d3 : decide (y.fEpoch ≤ x.fEpoch) = false := by simp; omega
            clear hax hrx h2
            go_wp2_with fail
            refine wp_region_below (by kernel_rfl) (by kernel_rfl) ?_
            repeat (go_big_quiet_step ((go_at_call 15; exact Calls.quiet_below (hle _))))
            refine wpQuiet_nil ?_
            rintro _ ⟨u, rfl⟩
            have hbu := hbx.trans (u.h.mono hszx)
            go_wp2_with fail
            go_roundw
            case rel => exact ⟨k + 1, by omega, by go_num, hbu⟩
            case measure => simp [intOf]; omega
          · subst h1
            have d1 : ((j : Int) != (j : Int)) = false := by simp
            have d2 : decide ((j : Int) < (j : Int)) = false := by simp
            clear hax hrx
            go_wp2_with fail
            refine wp_region_below (by kernel_rfl) (by kernel_rfl) ?_
            repeat (go_big_quiet_step ((go_at_call 15; exact Calls.quiet_below (hle _))))
            refine wpQuiet_nil ?_
            rintro _ ⟨u, rfl⟩
            have hbu := hbx.trans (u.h.mono hszx)
            go_wp2_with fail
            go_roundw
            case rel => exact ⟨j + 1, by omega, by go_num, hbu⟩
            case measure => simp [intOf]; omega
          · have h2 := hax (by omega)
            rw [h2] at hle
            have d1 : ((j : Int) != (k : Int)) = true := by simp; omega
            have d2 : decide ((j : Int) < (k : Int)) = false := by simp; omega
            have d4 : decide (j < k) = false := by simp; omega
            clear hax hrx h2
            go_wp2_with fail
            refine wp_region_below (by kernel_rfl) (by kernel_rfl) ?_
            repeat (go_big_quiet_step ((go_at_call 15; exact Calls.quiet_below (hle _))))
            refine wpQuiet_nil ?_
            rintro _ ⟨u, rfl⟩
            have hbu := hbx.trans (u.h.mono hszx)
            go_wp2_with fail
            go_roundw
            case rel => exact ⟨k + 1, by omega, by go_num, hbu⟩
            case measure => simp [intOf]; omega
        · go_wp2_with fail
          go_roundw
          case rel => exact ⟨j + 1, by omega, by go_num, hbx⟩
          case measure => simp [intOf]; omega
    · have hbel4 := hbel.trans (hb4.mono hbel.size)
      have hlz := imp_times hl4 (hb4.mono hbel.size)
      have hfz := imp_times' (imp_times hsl4 hb4) hb4.size
      have hnl : n ≤ 8796093022208 := by omega
      clear hl4 hsl4 hl ha hr
      go_wp2_with fail
      refine Code.wp_world ?_
      intro w5 hw5
      rw [← hw5] at hbel4 hlz hfz
      clear hw5 hb4 hsz4 hbel b2
      go_loopw [8, 9] (fun v i wr => ∃ j : Nat, j ≤ n ∧ i = .int .i64 ((j : Int) - 1) ∧ OwnT wr w5.heap.size v (l.drop j).reverse ∧ Below w5.heap.size w5 wr) (fun _ i _ => (intOf i + 1).toNat)
      case atStart => exact ⟨n, Nat.le_refl _, rfl, by rw [List.drop_eq_nil_of_le (by rw [← hn.out]; exact Nat.le_refl _)]; exact OwnT.nil _ _, Below.refl _ _⟩
      case round =>
        obtain ⟨k, hk, hik, hown, hb5⟩ := hrel
        have hs5 := hb5.size
        cases k with
        | succ k =>
          have hik2 : u9 = .int .i64 k := by rw [hik]; congr 1; omega
          clear hik
          subst hik2
          have hkl : k < l.length := by rw [← hn.out]; omega
          obtain ⟨b1, o1, rfl, hb1, _⟩ := hlz.addr (by omega)
          obtain ⟨⟨x0, x1⟩, hx⟩ : ∃ x, l[k] = x := ⟨_, rfl⟩
          obtain ⟨e0, e1, hw0, hw1⟩ := RTime.at (imp_times hlz (hb5.mono hbel4.size)) hkl hx
          simp only at e0 e1
          have hrv : (l.drop k).reverse = (l.drop (k + 1)).reverse ++ [⟨x0, x1⟩] := by rw [List.drop_eq_getElem_cons hkl, hx, List.reverse_cons]
          replace hrv := Lib.hid hrv
          have hrl : (l.drop (k + 1)).reverse.length ≤ n := by have := hn.out; simp; omega
          obtain ⟨L, hL⟩ : ∃ L, L = (l.drop (k + 1)).reverse := ⟨_, rfl⟩
          rw [← hL] at hown hrl hrv
          have hb1r : b1 < wr.heap.size := by have := hbel4.size; omega
          clear hx hL
          go_wp2_with (at_builtin; (refine wpList_app1 rfl _ _ 22 rfl Try.underlying22 hi hz0 hz1 hz2 rfl (by decide) (enc := encT) ⟨x0, x1⟩ rfl hown.1 rfl (encT_len _) (encT_one _) ?hb1 ?hb2 hs5 ?next))
          case hb1 => omega
          case hb2 => unfold maxLen; omega
          case next =>
          intro a1 cp1 w6 hown6 hb6 _
          have hbu := hb5.trans hb6
          have hwL : ∀ z ∈ L, wfT z := hown.2
          clear hb6 hown
          go_wp2_with fail
          go_roundw
          case rel =>
            refine ⟨k, by omega, rfl, ?_, hbu⟩
            rw [hrv.out]
            refine ⟨hown6, ?_⟩
            intro z hz
            simp only [List.mem_append, List.mem_singleton] at hz
            rcases hz with hz | rfl
            · exact hwL z hz
            · exact ⟨hw0, hw1⟩
          case measure => (simp [intOf]; try omega)
        | zero =>
          have hik2 : u9 = .int .i64 (-1) := by rw [hik]; rfl
          clear hik
          subst hik2
          rw [List.drop_zero] at hown
          obtain ⟨la, lc, rfl, hls⟩ := hown.sla
          have hrev : IsFront l.reverse f := hf.out.congr (fun x => by simp)
          have hfb := front_any l.reverse la lc wr _ (Nat.le_refl _) hls (by have := hn.out; simp; omega)
          have hlr : l.reverse.length = n := by rw [List.length_reverse, ← hn.out]
          rw [hlr] at hfb ⊢
          replace hlr := Lib.hid hlr
          have hfx := imp_times hfz hb5
          go_wp2_with fail
          refine hfb.mono ?_
          rintro e w6 ⟨v6, g6, rfl, hv6, hg6, b6⟩
          obtain ⟨ga, gc, rfl, hgs⟩ := hv6.sla
          go_wp2_with fail
          refine (sameTimes_at _ _ _ _ _ _ _ _ _ _ rfl hm.out (Nat.le_refl _) hgs (imp_times' (imp_times hfx (b6.mono hs5)) (Nat.le_trans hs5 b6.size)) (hg6.unique hrev)).mono ?_
          rintro e w7 ⟨rfl, b7⟩
          have hbw : Below w.heap.size w w7 := hbel4.trans ((hb5.trans ((b6.trans (b7.mono b6.size)).mono hs5)).mono hbel4.size)
          go_wp2_with fail
          go_ret
          exact ⟨rfl, hbw⟩

theorem least_row {w : World} (ao : Option Addr) (len cap : Nat) (xs : List TTime) (hx : RSl w.heap.size 2 (RTime w.heap.size) w (Value.cells (.slice ao len cap)).toList xs) (hz : cap * 16 ≤ reachBytes)
    (cs : Array Value) (t : TTime) (ht : RTime w.heap.size w (Value.cells (.agg cs)).toList t) :
    Calls Try.prog 6 #[.slice ao len cap, .agg cs] w fun e w' => e = .returned (.bool true) ∧ Below w.heap.size w w' := by
  obtain ⟨rfl, h⟩ := times_arg hx
  obtain ⟨rfl, _⟩ := time_agg ht
  have hr : reachBytes = 140737488351232 := rfl
  have hl := h.1
  exact least_walk xs t ao cap w h (by omega)
end Go.Proofs.Ytjigbkklgekjlaa
