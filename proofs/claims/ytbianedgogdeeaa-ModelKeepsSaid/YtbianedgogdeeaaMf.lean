/- Model: a join by keys (joined). -/
import Derived.Test.YtbianedgogdeeaaMe
namespace Go.Proofs.Ytbianedgogdeeaa
open Go.RowKit Go.Maps Fold
attribute [local go_sem] Oper.semAt_some
set_option linter.unusedVariables false
set_option linter.unusedSimpArgs false

def joinK (wh : Int) (l r : PRS) (ks : List ByteArray) : PRS := (ks.filter (fun k => decide (k ∈ keysK r))).map (fun k => (k, joinN wh (allN wh (valsK l k)) (allN wh (valsK r k))))
theorem joinK_snoc (wh : Int) (l r : PRS) (ks : List ByteArray) (k : ByteArray) : joinK wh l r (ks ++ [k]) = joinK wh l r ks ++ (if k ∈ keysK r then [(k, joinN wh (allN wh (valsK l k)) (allN wh (valsK r k)))] else []) := by
  unfold joinK
  rw [List.filter_append, List.map_append]
  by_cases h : k ∈ keysK r <;> simp [h]
theorem joinK_len (wh : Int) (l r : PRS) (ks : List ByteArray) : (joinK wh l r ks).length ≤ ks.length := by
  unfold joinK
  rw [List.length_map]
  exact List.length_filter_le _ _
theorem ByK.next {w wr wr' : World} {mb mb2 rb : Nat} {es es2 rest : List (ByteArray × Value)} {v : Value} {out l r : PRS} (hF : FoS w wr mb mb2 rb es es2 rest v out l) (h : ByK wr w.heap.size es r) (hc : Chg (fun j => j = rb) wr wr') : ByK wr' w.heap.size es r :=
  h.chg hc (fun g cs hb e => (hF.noblk (b := 0) g cs _ hb).2.2 e)
theorem ByK.grow {w wr wr' : World} {mb mb2 rb : Nat} {es es2 rest : List (ByteArray × Value)} {v v' : Value} {out l r : PRS} (hF : FoS w wr mb mb2 rb es es2 rest v out l) (h : ByK wr w.heap.size es r) (hg : Grew wr v wr' v') : ByK wr' w.heap.size es r :=
  h.chg (Chg.of_grown hg.grown) (fun g cs hb e => hF.own.ne_blk hb (by decide) e)

set_option maxRecDepth 100000 in
set_option maxHeartbeats 4000000 in
theorem joined_any (wh : Int) (l r : PRS) (ao ro : Option Addr) (cap rcap B : Nat) (w : World) (hB : B ≤ w.heap.size) (h : PrA B w ao cap l) (hr : PrA B w ro rcap r) (hok : ∀ p ∈ l, okR p) (hokr : ∀ p ∈ r, okR p)
    (hz : l.length ≤ 1000000) (hzr : r.length ≤ 1000000) :
    Calls Try.prog 32 #[.int .i64 wh, .slice ao l.length cap, .slice ro r.length rcap] w fun e w' => ∃ v out, e = .returned v ∧ OwnR w' w.heap.size v out ∧ out.Perm (joinOut wh l r) ∧ Below w.heap.size w w' := by
  obtain ⟨iR, hiR, hR0, hR1, hR2⟩ := partsR
  have hby := fun W (hb : Below w.heap.size w W) => byKey_any l ao cap B W (Nat.le_trans hB hb.size) (h.imp' (hb.mono hB) (Nat.le_refl _)) hok hz
  have hbr0 := byKey_any r ro rcap B w hB hr hokr hzr
  obtain ⟨n, hn⟩ : ∃ n, n = l.length := ⟨_, rfl⟩
  obtain ⟨m, hm⟩ : ∃ m, m = r.length := ⟨_, rfl⟩
  rw [← hn] at hz hby ⊢
  rw [← hm] at hzr hbr0 ⊢
  replace hn := Lib.hid hn
  replace hm := Lib.hid hm
  replace hby := Lib.hid hby
  replace hbr0 := Lib.hid hbr0
  clear h hr
  go_enter Try.func32, Try.ntmps32
  go_wp2_with fail
  refine hbr0.out.mono ?_
  rintro e w1 ⟨mb, es, rfl, hM1, hK1, hb1, hm1⟩
  have hby1 := hby.out w1 hb1
  replace hby1 := Lib.hid hby1
  clear hby hbr0
  dsimp only
  go_wp2_with fail
  refine hby1.out.mono ?_
  rintro e w2 ⟨mb2, es2, rfl, hM2, hK2, hb2, hm2⟩
  have hM12 := hM1.below hb2 hM1.lt
  have hne : mb ≠ mb2 := by have := hM1.lt; omega
  have hb12 := hb1.trans (hb2.mono hb1.size)
  have hK12 := hK2.base_le hb1.size
  have hKr := hK1.below hb2
  have hm12 := Nat.le_trans hb1.size hm2
  clear hM1 hK1 hK2 hb2 hby1 hm2 hb1
  dsimp only
  go_wp2_with (at_range; refine wpList_rangeL rfl _ _ rfl keyN hM2 Try.underlying87 rfl ?next)
  case next =>
  intro w3 hr3 hb3 hs3
  have hF3 : FoS w w3 mb mb2 w2.heap.size es es2 es2 (.slice none 0 0) [] l := ⟨hb12.trans (hb3.mono hb12.size), hM12.below hb3 hM12.lt, hr3, hK12.below hb3, OwnL.nil _ _ _ _ _, hne, hm1, hm12, hb12.size⟩
  have hKr3 := hKr.below hb3
  have hn2 := hr3.nodup
  have hkeys := hK12.keys
  have hel3 := hK12.len hn2
  rw [← hn.out] at hel3
  have hin2 : (es2.map Prod.fst).Perm ([] ++ es2.map Prod.fst) := .refl _
  obtain ⟨rb, hrb⟩ : ∃ rb, rb = w2.heap.size := ⟨_, rfl⟩
  rw [← hrb] at hF3 ⊢
  replace hkeys := Lib.hid hkeys
  clear hrb hr3 hb3 hs3 hM2 hM12 hK12 hb12 hne hm12 hKr hm1
  go_wp2_with fail
  go_loopw [8] (fun x8 wr => ∃ (rest : List (ByteArray × Value)) (ks : List ByteArray), FoS w wr mb mb2 rb es es2 rest x8 (joinK wh l r ks) l ∧ ByK wr w.heap.size es r ∧ (es2.map Prod.fst).Perm (ks ++ rest.map Prod.fst)) (fun _ wr => wr.rangeLeft mb2 rb)
  case atStart => exact ⟨es2, [], hF3, hKr3, hin2⟩
  case round =>
    clear hF3 hKr3 hin2
    obtain ⟨rest, ks, hF, hKr, hperm⟩ := hrel
    have hrng := hF.rng
    go_wp2_with (at_next; refine wpList_nextL rfl _ rfl keyN hrng rfl ?fin ?more)
    case fin =>
      rintro rfl
      have hp : (joinK wh l r ks).Perm (joinOut wh l r) := by
        rw [List.map_nil, List.append_nil] at hperm
        have h1 : (es2.map Prod.fst).Perm (keysK l) := (List.perm_ext_iff_of_nodup hn2 (nodup_keysK l)).2 hkeys.out
        exact ((hperm.symm.trans h1).filter _).map _
      have hown := hF.own
      have hbel := hF.bel
      replace hp := Lib.hid hp
      clear hF hKr hperm hrng
      go_wp2_with fail
      go_ret
      exact ⟨_, _, rfl, hown, hp.out, hbel⟩
    case more =>
      intro k sv w4 hm4 hk4 hr4 hlt4 hch4 hsz4 hen4
      clear hsz4
      have hmem2 : (k, sv) ∈ es2 := hrng.sub _ hm4
      have hF4 := hF.next hr4 hch4
      have hKr4 := ByK.next hF hKr hch4
      have hrow4 := hF4.rows.rows _ hmem2
      obtain ⟨sao, scap, hsv, hUR⟩ := UR.of_vals hrow4 (valsK_lt hok k)
      dsimp only at hsv
      subst hsv
      have hget := hKr4.get hF4.all.nodup k
      obtain ⟨tao, tcap, htv, hURr⟩ := UR.of_vals hget (valsK_lt hokr k)
      have hla := all_any wh (valsK l k) sao scap _ w4 hUR
      have hra := all_any wh (valsK r k) tao tcap _ w4 hURr
      have hjn := join_any wh (allN wh (valsK l k)) (allN wh (valsK r k)) w4 (allN_lt' wh _ (valsK_lt hok k)) (allN_lt' wh _ (valsK_lt hokr k))
      have hjl := joinN_lt wh (allN wh (valsK l k)) (allN wh (valsK r k)) (allN_lt' wh _ (valsK_lt hok k)) (allN_lt' wh _ (valsK_lt hokr k))
      have hsn := joinK_snoc wh l r ks k
      have hpm : (es2.map Prod.fst).Perm (ks ++ [k] ++ (delE rest k).map Prod.fst) := by
        have h1 := (RangeL.del_perm hrng.rnodup hm4).map Prod.fst
        rw [List.map_cons] at h1
        refine hperm.trans ?_
        rw [List.append_assoc]
        exact h1.append_left ks
      have hkl : ks.length < n := by
        have := hpm.length_eq
        simp at this
        omega
      have hjl2 := joinK_len wh l r ks
      have hin : (valsK r k = []) ↔ k ∉ keysK r := valsK_nil
      obtain ⟨nv, hnv⟩ : ∃ nv, nv = (valsK l k).length := ⟨_, rfl⟩
      obtain ⟨mv, hmv⟩ : ∃ mv, mv = (valsK r k).length := ⟨_, rfl⟩
      obtain ⟨va, hva⟩ : ∃ vn, vn = allN wh (valsK l k) := ⟨_, rfl⟩
      obtain ⟨vb, hvb⟩ : ∃ vn, vn = allN wh (valsK r k) := ⟨_, rfl⟩
      obtain ⟨ba, hba⟩ : ∃ bn, bn = allB wh (valsK l k) := ⟨_, rfl⟩
      obtain ⟨bb, hbb⟩ : ∃ bn, bn = allB wh (valsK r k) := ⟨_, rfl⟩
      rw [← hva, ← hvb] at hjn hjl hsn
      rw [← hnv, ← hva, ← hba] at hla
      rw [← hmv, ← hvb, ← hbb] at hra
      rw [← hmv] at htv
      rw [← hnv] at hen4 ⊢
      have hmvk : (0 < mv) ↔ k ∈ keysK r := by
        rw [hmv, List.length_pos_iff]
        constructor
        · intro h1; exact Decidable.byContradiction (fun h2 => h1 (hin.2 h2))
        · intro h1 h2; exact hin.1 h2 h1
      have hmvl : mv ≤ 9223372036854775807 := by rw [hmv]; exact hURr.len
      obtain ⟨jn, hjnn⟩ : ∃ jn, jn = joinN wh va vb := ⟨_, rfl⟩
      rw [← hjnn] at hjn hjl hsn
      replace hla := Lib.hid hla
      replace hra := Lib.hid hra
      replace hjn := Lib.hid hjn
      replace hpm := Lib.hid hpm
      have hM4 := hF4.all
      clear hF hrow4 hUR hURr hmem2 hnv hmv hva hvb hba hbb hjnn hr4 hch4 hrng hperm hKr hget hin
      by_cases hin : 0 < mv
      · have d1 : decide ((0 : Int) < (mv : Int)) = true := by simp; omega
        rw [if_pos (hmvk.1 hin)] at hsn
        replace hsn := Lib.hid hsn
        clear hmvk
        go_wp2_with (first | (go_at_call 47; with_reducible refine hla.out.mono ?_; rintro e w' ⟨rfl, rfl⟩) | (go_at_call 47; with_reducible refine hra.out.mono ?_; rintro e w' ⟨rfl, rfl⟩) | (go_at_call 48; refine hjn.out.mono ?_; rintro e w' ⟨rfl, rfl⟩) | (at_lookup; refine wpList_lookupL rfl _ _ _ _ rfl keyN hM4 Try.underlying87 (zeroSV _) (x := k) hk4 rfl rfl ?_; simp only [Bool.false_eq_true, if_false, htv]) | (at_builtin; refine Shut.out ?ka))
        unfold Shut
        refine wpList_app1g rfl _ _ 29 rfl Try.underlying29 hiR hR0 hR1 hR2 rfl (by decide) (enc := encR) (k, jn) rfl hF4.own rfl (encR_len _) (encR_one _) (by omega) (by unfold maxLen; omega) hF4.bel.size ?_
        intro g cap7 w7 hown7 hgr7
        rw [← hsn.out] at hown7
        obtain ⟨hF7, hl7⟩ := hF4.grow hown7 hgr7
        have hKr7 := ByK.grow hF4 hKr4 hgr7
        clear hF4 hM4 hown7 hgr7 hla hra htv hKr4
        go_wp2_with fail
        go_roundw
        case rel => exact ⟨_, _, hF7, hKr7, hpm.out⟩
        case measure => rw [hl7]; exact hlt4
      · have d1 : decide ((0 : Int) < (mv : Int)) = false := by simp; omega
        rw [if_neg (fun h => hin (hmvk.2 h)), List.append_nil] at hsn
        rw [← hsn] at hF4
        clear hsn hmvk
        go_wp2_with (at_lookup; refine wpList_lookupL rfl _ _ _ _ rfl keyN hM4 Try.underlying87 (zeroSV _) (x := k) hk4 rfl rfl ?_; simp only [Bool.false_eq_true, if_false, htv])
        go_roundw
        case rel => exact ⟨_, _, hF4, hKr4, hpm.out⟩
        case measure => exact hlt4
end Go.Proofs.Ytbianedgogdeeaa
