/- Wire: Copy. -/
import Derived.Test.YthemljefmgphkaaWwi
namespace Go.Proofs.Ythemljefmgphkaa
open Go.RowKit
set_option linter.unusedVariables false

theorem elems_grow2 {d : Nat} {w0 w6 w7 : World} {lo g cap7 : Nat} {v : Value} {ps : List PIt} {p : PIt} (hgr : Grew w6 v w7 (.slice (some ⟨g, 0, none⟩) (ps.length + 1) cap7)) (hlo : ∀ b, v.ownBlock = some b → b < w0.heap.size) (hl0 : lo ≤ w0.heap.size)
    (hch : Below w0.heap.size w0 w6)
    (hels : ∀ q ∈ ps, RItP d (fun b => lo ≤ b ∧ b < w0.heap.size ∧ v.ownBlock ≠ some b) w0 (encP q) q.x)
    (hit : RItP d (fun b => w0.heap.size ≤ b ∧ b < w6.heap.size) w6 (encP p) p.x) :
    ∀ q ∈ ps ++ [p], RItP d (fun b => lo ≤ b ∧ b < w7.heap.size ∧ (Value.slice (some ⟨g, 0, none⟩) (ps.length + 1) cap7).ownBlock ≠ some b) w7 (encP q) q.x := by
  have hs6 := hch.size
  have hs7 := hgr.grown.size
  have hplace : ∀ b, b < w6.heap.size → v.ownBlock ≠ some b → (Value.slice (some ⟨g, 0, none⟩) (ps.length + 1) cap7).ownBlock ≠ some b := fun b hb hbo h => by
    rcases hgr.place with e | ⟨g', e, hg'⟩
    · rw [e] at h; exact hbo h
    · rw [e] at h; cases h; omega
  intro q hq
  rcases List.mem_append.1 hq with hq | hq
  · refine (hels q hq).imp fun b hb => ⟨⟨hb.1, by omega, hplace b (by omega) hb.2.2⟩, ?_⟩
    rw [hgr.grown.block b (by omega) (Ne.symm hb.2.2)]
    exact hch.block b hb.2.1
  · obtain rfl : q = p := by simpa using hq
    have hbo : ∀ b, w0.heap.size ≤ b → v.ownBlock ≠ some b := fun b hb h => by have := hlo b h; omega
    exact hit.imp fun b hb => ⟨⟨by omega, by omega, hplace b hb.2 (hbo b hb.1)⟩, hgr.grown.block b hb.2 (Ne.symm (hbo b hb.1))⟩

set_option maxRecDepth 100000 in
set_option maxHeartbeats 4000000 in
theorem copy_any : ∀ (d : Nat) (l : List Itm) (ao : Option Addr) (cap : Nat) (w : World) (B : Nat), RIts d B w ao cap l → B ≤ w.heap.size →
    Calls Try.prog 20 #[.slice ao l.length cap] w fun e w' => ∃ ao' cap', e = .returned (.slice ao' l.length cap') ∧ RItsP d (fun b => w.heap.size ≤ b ∧ b < w'.heap.size) w' ao' cap' l ∧ Below w.heap.size w w' := by
  intro d
  induction d using Nat.strongRecOn with
  | _ d ih =>
  intro l ao cap w B hl hB
  have hll := hl.len
  obtain ⟨n, hn⟩ : ∃ n, n = l.length := ⟨_, rfl⟩
  rw [← hn] at hll ⊢
  replace hn := Lib.hid hn
  obtain ⟨j0, hi, hz0, hz1, hz2⟩ := info_parts infoI
  go_enter Try.func20, Try.ntmps20
  go_wp2_with fail
  go_loopw [3, 4] (fun x3 x4 wr => ∃ (k : Nat) (ps : List PIt), k ≤ n ∧ x4 = .int .i64 k ∧ ps.map (·.x) = l.take k ∧ OwnL encP wr w.heap.size 33 4 x3 ps ∧ Below w.heap.size w wr ∧
    (∀ p ∈ ps, RItP d (fun b => w.heap.size ≤ b ∧ b < wr.heap.size ∧ x3.ownBlock ≠ some b) wr (encP p) p.x)) (fun _ x4 _ => n - (intOf x4).toNat)
  case atStart => exact ⟨0, [], Nat.zero_le _, rfl, rfl, OwnL.nil _ _ _ _ _, Below.refl _ _, by simp⟩
  case round =>
    obtain ⟨k, ps, hk, rfl, hpm, hown, hbel, hels⟩ := hrel
    rename_i v0
    obtain ⟨aov, capv, hvv, _, _, _⟩ := hown.slice
    subst hvv
    have hsz := hbel.size
    have hpk : ps.length = k := by have := congrArg List.length hpm; rw [List.length_map, List.length_take, ← hn.out] at this; omega
    replace hpk := Lib.hid hpk
    by_cases hlt : k < n
    · have hkl : k < l.length := by rw [← hn.out]; exact hlt
      obtain ⟨b1, o1, rfl, hb1, _⟩ := hl.1.addr (by omega)
      obtain ⟨⟨kd, nm, tx, ls⟩, hx⟩ : ∃ x, l[k] = x := ⟨_, rfl⟩
      obtain ⟨la, lc, d', hd', e0, e1, e2, e3, w0, w1, hts, hls⟩ := hl.at hkl hx
      have hb1w : b1 < w.heap.size := by omega
      replace e0 := (hbel.cell (p := ⟨b1, o1 + k * 4, none⟩) hb1w).trans e0
      replace e1 := (hbel.cell (p := ⟨b1, o1 + k * 4 + 1, none⟩) hb1w).trans e1
      replace e2 := (hbel.cell (p := ⟨b1, o1 + k * 4 + 2, none⟩) hb1w).trans e2
      replace e3 := (hbel.cell (p := ⟨b1, o1 + k * 4 + 3, none⟩) hb1w).trans e3
      have hcall := fun (u : World) (hb : Below w.heap.size w u) => ih d' (by omega) ls la lc u B (hls.below (hb.mono hB)) (Nat.le_trans hB hb.size)
      have htake : l.take (k + 1) = l.take k ++ [.mk kd nm tx ls] := by rw [List.take_add_one, List.getElem?_eq_getElem hkl, hx]; rfl
      obtain ⟨q, hq⟩ : ∃ q, q = ls.length := ⟨_, rfl⟩
      rw [← hq] at hcall e3
      replace hq := Lib.hid hq
      go_upto_region 6 with fail
      refine Code.wp_world ?_
      intro w2 hw2
      obtain ⟨kb, hkb⟩ : ∃ c, c = wr.heap.size := ⟨_, rfl⟩
      have hK2 : Blk w2 kb #[.int .i64 kd, .int .i64 nm, .string tx, .slice la q lc] 33 := by rw [hw2, hkb]; exact Blk.new _ _ _
      have hb2 : Below wr.heap.size wr w2 := by rw [hw2]; exact below_alloc1 _ _
      have hs2 : w2.heap.size = kb + 1 := by rw [hw2, hkb]; simp
      have hown2 : OwnL encP w2 w.heap.size 33 4 (.slice aov ps.length capv) ps := by rw [hw2]; exact hown.alloc _
      rw [← hkb]
      clear hw2
      replace hkb := Lib.hid hkb
      replace hs2 := Lib.hid hs2
      have hbw2 := hbel.trans (hb2.mono hsz)
      obtain ⟨m0, m1, m2, m3⟩ := blk4 hK2
      go_wp2_with (go_at_call 20; refine Shut.out ?kc)
      unfold Shut
      refine (hcall w2 hbw2).mono ?_
      rintro e w3 ⟨ao', cap', rfl, hit, hb3⟩
      dsimp only
      have hK3 := hK2.below hb3 hK2.lt
      have f3 := hK3.frozen 3
      have m3' : w3.cell? ⟨kb, 3, none⟩ = some (.slice la q lc) := hK3.cellAt rfl
      have hown3 := hown2.below hb3 (Nat.le_refl _)
      have hs3 := hb3.size
      have hbw3 := hb2.trans (hb3.mono (by have := hb2.size; omega))
      clear m0 m1 m2 m3
      go_upto_region 7 with fail
      refine Code.wp_world ?_
      intro w4 hw4
      have hK4 : Blk w4 kb #[.int .i64 kd, .int .i64 nm, .string tx, .slice ao' q cap'] 33 := by rw [hw4]; exact hK3.set 3 _
      have hch4 : Chg (fun b => b = kb) w3 w4 := by rw [hw4]; exact (Chg.refl (fun b => b = kb) w3).setCell ⟨kb, 3, none⟩ _ (fun _ => rfl)
      have hs4 : w4.heap.size = w3.heap.size := by rw [hw4]; simp
      have hown4 : OwnL encP w4 w.heap.size 33 4 (.slice aov ps.length capv) ps := hown3.chg hch4 (fun g hg h => by have := (hown.lt g hg).2; have := hkb.out; omega)
      have hit4 : RItP d (fun b => wr.heap.size ≤ b ∧ b < w4.heap.size) w4 (encP ⟨.mk kd nm tx ls, ao', cap'⟩) (.mk kd nm tx ls) := by
        rw [hd']
        refine RItP.mk' w0 w1 hts (hit.imp fun b hb => ⟨⟨by have := hkb.out; have := hs2.out; omega, by omega⟩, ?_⟩)
        exact hch4.block b hb.2 (by have := hs2.out; omega)
      have hbw4 : Below wr.heap.size wr w4 := hbw3.trans (hch4.below (by have := hs2.out; have := hkb.out; omega) (fun b hb h => by have := hkb.out; omega))
      clear hw4 hK3 m3' f3 hit hown3 hK2 hown2 hcall
      obtain ⟨m0, m1, m2, m3⟩ := blk4 hK4
      rw [hq.out] at hK4 m3
      rw [hq.out]
      replace hs4 := Lib.hid hs4
      have hbound : (ps.length + 1) * 56 ≤ 140737488355328 := by have := hpk.out; omega
      have hbound2 : ps.length + 1 ≤ 9223372036854775807 := by have := hpk.out; omega
      have hbase4 : w.heap.size ≤ w4.heap.size := Nat.le_trans hsz hbw4.size
      go_wp2_with (at_builtin; refine Shut.out ?kap)
      unfold Shut
      refine wpList_app1g rfl _ _ 22 rfl Try.underlying22 hi hz0 hz1 hz2 rfl (by decide) (enc := encP) ⟨.mk kd nm tx ls, ao', cap'⟩ rfl hown4 rfl (encP_len _) (encP_one _) hbound (by unfold maxLen; exact hbound2) hbase4 (fun g cap7 w7 hown7 hgr7 => ?_)
      have hels7 := elems_grow2 hgr7 (fun b hb => (hown.lt b hb).2) hsz hbw4 hels hit4
      have hbel7 := hbel.trans ((hbw4.mono hsz).grown hgr7.grown (by omega) (fun k hk => (hown.lt k hk).1))
      clear hgr7 hown4 hit4 hK4 m0 m1 m2 m3 hels hown
      go_wp2_with fail
      go_roundw
      case rel => exact ⟨k + 1, ps ++ [⟨.mk kd nm tx ls, ao', cap'⟩], by omega, rfl, by rw [List.map_append, hpm, htake]; rfl, hown7, hbel7, hels7⟩
      case measure => simp [intOf]; omega
    · obtain rfl : k = n := by omega
      have hpl : ps.map (·.x) = l := by rw [hpm]; exact List.take_of_length_le (by rw [← hn.out]; exact Nat.le_refl _)
      obtain ⟨aoz, capz, hez, hlz⟩ := RItsP.of_own hown (D := fun b => w.heap.size ≤ b ∧ b < wr.heap.size) (fun p hp => (hels p hp).imp fun b hb => ⟨⟨hb.1, hb.2.1⟩, rfl⟩) (fun g hg => hown.lt g hg) (by have := hpk.out; omega)
      cases hez
      rw [hpl] at hlz
      clear hels hown
      go_wp2_with fail
      go_ret
      exact ⟨aov, capv, by rw [hpk.out]; rfl, hlz, hbel⟩
end Go.Proofs.Ythemljefmgphkaa
