/- Model: the values of each key (byKey). -/
import Derived.Test.YtbianedgogdeeaaMb
import Derived.Test.YtbianedgogdeeaaL6
namespace Go.Proofs.Ytbianedgogdeeaa
open Go.RowKit Go.Maps Fold
attribute [local go_sem] Oper.semAt_some
set_option linter.unusedVariables false
set_option linter.unusedSimpArgs false

theorem keyN : KeyL Try.prog 9 Value.string klT wfT := keyT Try.underlying9
abbrev MpT (w : World) (b : Nat) (es : List (ByteArray × Value)) : Prop := MapL Try.prog 9 klT wfT w b es
/-- The map's rows: each key's values. -/
structure ByK (w : World) (base : Nat) (es : List (ByteArray × Value)) (l : PRS) : Prop where
  rows : ∀ p ∈ es, OwnL encV w base 45 1 p.2 (valsK l p.1)
  keys : ∀ k, k ∈ es.map Prod.fst ↔ k ∈ keysK l
  apart : ∀ p ∈ es, ∀ q ∈ es, p.1 ≠ q.1 → ∀ g, p.2.ownBlock = some g → q.2.ownBlock ≠ some g
namespace ByK
variable {w w' : World} {base : Nat} {es : List (ByteArray × Value)} {l : PRS}
theorem nil (w : World) (base : Nat) : ByK w base [] [] where
  rows p hp := absurd hp List.not_mem_nil
  keys k := ⟨fun h => absurd h List.not_mem_nil, fun h => absurd h List.not_mem_nil⟩
  apart p hp := absurd hp List.not_mem_nil
theorem below (h : ByK w base es l) (hb : Below w.heap.size w w') : ByK w' base es l := ⟨fun p hp => (h.rows p hp).below hb (Nat.le_refl _), h.keys, h.apart⟩
theorem chg {S : Nat → Prop} (h : ByK w base es l) (hc : Chg S w w') (hS : ∀ g cs, Blk w g cs 45 → ¬ S g) : ByK w' base es l :=
  ⟨fun p hp => (h.rows p hp).chg hc (fun g e => by
    rcases (h.rows p hp).form with ⟨e1, _⟩ | ⟨g', cap, cells, e1, hb, _⟩
    · rw [e1] at e; cases e
    · rw [e1] at e
      obtain rfl : g' = g := by simpa [Value.ownBlock] using e
      exact hS _ _ hb), h.keys, h.apart⟩
theorem get (h : ByK w base es l) (hn : (es.map Prod.fst).Nodup) (k : ByteArray) : OwnL encV w base 45 1 ((getE es k).getD (.slice none 0 0)) (valsK l k) := by
  cases hg : getE es k with
  | none =>
    have : valsK l k = [] := valsK_nil.2 (fun hk => by
      obtain ⟨p, hp, e⟩ := List.mem_map.1 ((h.keys k).2 hk)
      exact getE_none.1 hg p hp e)
    rw [this]
    exact OwnL.nil _ _ _ _ _
  | some v => exact h.rows _ (getE_mem hg)
theorem mem_get (h : ByK w base es l) (hn : (es.map Prod.fst).Nodup) {k : ByteArray} : (getE es k).isSome = decide (k ∈ keysK l) := by
  cases hg : getE es k with
  | none =>
    have : k ∉ keysK l := fun hk => by
      obtain ⟨p, hp, e⟩ := List.mem_map.1 ((h.keys k).2 hk)
      exact getE_none.1 hg p hp e
    simp [this]
  | some v =>
    have : k ∈ keysK l := (h.keys k).1 (List.mem_map.2 ⟨_, getE_mem hg, rfl⟩)
    simp [this]
theorem step (h : ByK w base es l) (hn : (es.map Prod.fst).Nodup) {k : ByteArray} {n : Nat} {v' : Value} (hown : OwnL encV w' base 45 1 v' (valsK l k ++ [n])) (hg : Grew w ((getE es k).getD (.slice none 0 0)) w' v') : ByK w' base (setE es k v') (l ++ [(k, n)]) := by
  obtain ⟨v, hv⟩ : ∃ v, v = (getE es k).getD (.slice none 0 0) := ⟨_, rfl⟩
  rw [← hv] at hg
  have hne : ∀ p ∈ es, p.1 ≠ k → ∀ g, p.2.ownBlock = some g → v.ownBlock ≠ some g := fun p hp hpk g e1 e2 => by
    rw [hv] at e2
    cases hq : getE es k with
    | none => rw [hq] at e2; cases e2
    | some u =>
      rw [hq] at e2
      exact h.apart p hp _ (getE_mem hq) hpk g e1 e2
  have hvl : ∀ k2, valsK (l ++ [(k, n)]) k2 = if k = k2 then valsK l k2 ++ [n] else valsK l k2 := fun k2 => by
    rw [valsK_append]
    by_cases e : k = k2 <;> simp [valsK, e]
  refine ⟨fun p hp => ?_, fun k2 => ?_, fun p hp q hq hpq g e1 e2 => ?_⟩
  · rw [hvl]
    rcases List.mem_cons.1 hp with rfl | hp
    · simpa using hown
    · obtain ⟨hp1, hp2⟩ := mem_delE.1 hp
      rw [if_neg (fun e => hp2 e.symm)]
      exact (h.rows p hp1).chg (Chg.of_grown hg.grown) (fun g e1 e2 => hne p hp1 hp2 g e1 e2)
  · rw [mem_keysK]
    unfold setE
    rw [List.map_cons, List.mem_cons]
    constructor
    · rintro (rfl | hm)
      · exact ⟨(k2, n), by simp, rfl⟩
      · obtain ⟨p, hp, rfl⟩ := List.mem_map.1 hm
        obtain ⟨q, hq, e⟩ := mem_keysK.1 ((h.keys p.1).1 (List.mem_map.2 ⟨p, (mem_delE.1 hp).1, rfl⟩))
        exact ⟨q, by simp [hq], e⟩
    · rintro ⟨q, hq, rfl⟩
      by_cases e : q.1 = k
      · exact .inl e
      · rcases List.mem_append.1 hq with hq | hq
        · obtain ⟨p, hp, e2⟩ := List.mem_map.1 ((h.keys q.1).2 (mem_keysK.2 ⟨q, hq, rfl⟩))
          exact .inr (List.mem_map.2 ⟨p, mem_delE.2 ⟨hp, by rw [e2]; exact e⟩, e2⟩)
        · simp only [List.mem_singleton] at hq
          rw [hq] at e
          exact absurd rfl e
  · have hlt : ∀ p ∈ es, ∀ g, p.2.ownBlock = some g → g < w.heap.size := fun p hp g e => ((h.rows p hp).lt g e).2
    have hnew : ∀ q ∈ es, q.1 ≠ k → ∀ g, v'.ownBlock = some g → q.2.ownBlock = some g → False := fun q hq hqk g e1 e2 => by
      rcases hg.place with e3 | ⟨g', e3, hg'⟩
      · exact hne q hq hqk g e2 (by rw [← e3]; exact e1)
      · rw [e3] at e1
        cases e1
        have := hlt q hq _ e2
        omega
    rcases List.mem_cons.1 hp with rfl | hp
    · rcases List.mem_cons.1 hq with rfl | hq
      · exact hpq rfl
      · exact hnew q (mem_delE.1 hq).1 (mem_delE.1 hq).2 g e1 e2
    · rcases List.mem_cons.1 hq with rfl | hq
      · exact hnew p (mem_delE.1 hp).1 (mem_delE.1 hp).2 g e2 e1
      · exact h.apart p (mem_delE.1 hp).1 q (mem_delE.1 hq).1 hpq g e1 e2
theorem len (h : ByK w base es l) (hn : (es.map Prod.fst).Nodup) : es.length ≤ l.length := by
  have h1 : (es.map Prod.fst).Perm (keysK l) := (List.perm_ext_iff_of_nodup hn (nodup_keysK l)).2 h.keys
  have := h1.length_eq
  rw [List.length_map] at this
  have := len_keysK l
  omega
end ByK
theorem mk_mapV (u : World) : (Instr.makeMap 87 none).run Try.prog u = .ok (.map (some u.heap.size)) (u.alloc (.map #[] 0)) := rfl
attribute [local go_sem] mk_mapV
theorem zeroSV (w : World) : (zeroValue 62).run Try.prog w = .ok (.slice none 0 0) w := Try.zeroValue62 w

set_option maxRecDepth 100000 in
set_option maxHeartbeats 2000000 in
theorem byKey_any (l : PRS) (ao : Option Addr) (cap B : Nat) (w : World) (hB : B ≤ w.heap.size) (h : PrA B w ao cap l) (hok : ∀ p ∈ l, okR p) (hz : l.length ≤ 1000000) :
    Calls Try.prog 46 #[.slice ao l.length cap] w fun e w' => ∃ mb es, e = .returned (.map (some mb)) ∧ MpT w' mb es ∧ ByK w' w.heap.size es l ∧ Below w.heap.size w w' ∧ w.heap.size ≤ mb := by
  obtain ⟨iV, hiV, hV0, hV1, hV2⟩ := partsV
  obtain ⟨n, hn⟩ : ∃ n, n = l.length := ⟨_, rfl⟩
  rw [← hn] at hz ⊢
  replace hn := Lib.hid hn
  go_enter Try.func46, Try.ntmps46
  go_upto_region 2 with fail
  refine Code.wp_world ?_
  intro w1 hw1
  have hb1 : Below w.heap.size w w1 := by rw [hw1]; exact belowAlloc _ _
  have hM1 : MpT w1 w.heap.size [] := by rw [hw1]; exact MapL.made w
  obtain ⟨mb, hmb⟩ : ∃ mb, mb = w.heap.size := ⟨_, rfl⟩
  have hK1 : ByK w1 w.heap.size [] [] := ByK.nil _ _
  rw [← hmb] at hM1 ⊢
  have hmb2 : w.heap.size ≤ mb := by omega
  replace hmb := Lib.hid hmb
  clear hw1
  go_wp2_with fail
  go_loopw [9] (fun x9 wr => ∃ (i : Nat) (es : List (ByteArray × Value)), i ≤ n ∧ x9 = .int .i64 i ∧ MpT wr mb es ∧ ByK wr w.heap.size es (l.take i) ∧ Below w.heap.size w wr) (fun x9 _ => n - (intOf x9).toNat)
  case atStart => exact ⟨0, [], Nat.zero_le _, rfl, hM1, hK1, hb1⟩
  case round =>
    clear hM1 hK1 hb1
    obtain ⟨i, es, hi, rfl, hM, hK, hbr⟩ := hrel
    by_cases hin : i < n
    · have d1 : decide ((i : Int) < (n : Int)) = true := by simp; omega
      have hix : i < l.length := by rw [← hn.out]; exact hin
      obtain ⟨b, off, rfl, hb, _⟩ := h.addr (by omega)
      obtain ⟨p, hp⟩ : ∃ p, l[i] = p := ⟨_, rfl⟩
      obtain ⟨e0, e1⟩ := PrA.at (h.imp' (hbr.mono hB) (Nat.le_refl _)) hix
      have hpo := hok p (by rw [← hp]; exact List.getElem_mem hix)
      have hti : l.take (i + 1) = l.take i ++ [p] := by rw [List.take_add_one, List.getElem?_eq_getElem hix, hp]; rfl
      rw [hp] at e0 e1
      obtain ⟨k, u⟩ := p
      obtain ⟨hk, hu⟩ := hpo
      dsimp only at e0 e1 hk hu
      have hbw : b < wr.heap.size := by have := hbr.size; omega
      have hel := hK.len hM.nodup
      have hel2 : es.length < maxLen := by rw [List.length_take] at hel; unfold maxLen; omega
      replace hp := Lib.hid hp
      replace hti := Lib.hid hti
      go_upto_region 5 with fail
      refine Code.wp_world ?_
      intro w5 hw5
      have hb5 : Below wr.heap.size wr w5 := by rw [hw5]; exact belowAlloc _ _
      have hB5 : Blk w5 wr.heap.size #[.string k, .int .u32 (u : Nat)] 53 := by rw [hw5]; exact Blk.new _ _ _
      have hM5 := hM.below hb5 hM.lt
      have hK5 := hK.below hb5
      have hbw5 := hbr.trans (hb5.mono hbr.size)
      obtain ⟨z, hzz⟩ : ∃ z, z = wr.heap.size := ⟨_, rfl⟩
      rw [← hzz] at hB5 ⊢
      clear hw5 hM hK hbr e0 e1 hzz
      have hd5 : Below w5.heap.size w5 w5.drew := (Below.refl _ _).drew
      have hlook := (hM5.below hd5 hM5.lt).look keyN Try.underlying87 (zeroSV w5.drew) (x := k) hk false
      simp only [Bool.false_eq_true, if_false] at hlook
      have hown := hK5.get hM5.nodup k
      have hvl : (valsK (l.take i) k).length ≤ n := by
        have h1 : (valsK (l.take i) k).length ≤ (l.take i).length := by unfold valsK; rw [List.length_map]; exact List.length_filter_le _ _
        rw [List.length_take] at h1
        omega
      obtain ⟨v, hv⟩ : ∃ v, v = (getE es k).getD (.slice none 0 0) := ⟨_, rfl⟩
      rw [← hv] at hlook hown
      replace hv := Lib.hid hv
      have c0 := hB5.cellAt (i := 0) (v := .string k) rfl
      have c1 := hB5.cellAt (i := 1) (v := .int .u32 (u : Nat)) rfl
      refine wp_region_tree (fun wx => wx.cell? ⟨z, 0, none⟩ = some (.string k) ∧ wx.cell? ⟨z, 1, none⟩ = some (.int .u32 (u : Nat)) ∧ (Instr.lookup 87 (.map (some mb)) (.string k) false).run Try.prog wx = .ok v wx) 11 12 (by kernel_rfl) rfl (by kernel_rfl) (fun d _ _ _ _ h => by cases d <;> exact h) (⟨c0, c1, hlook⟩) (fun opz T hOps hT hTok hHeld => ?_)
      (refine wpTree_q 0 hTok hOps (by kernel_rfl) rfl rfl ⟨?_, ?_, ?_⟩; rotate_left; (focus (intro wx hSx; (try dsimp only at hSx); go_simp; (try with_reducible rfl))); (simp only [Act.put, List.setIfInBounds_toArray, List.set_cons_zero, List.set_cons_succ]))
      (refine wpTree_q 1 hTok hOps (by kernel_rfl) rfl rfl ⟨?_, ?_, ?_⟩; rotate_left; (focus (intro wx hSx; (try dsimp only at hSx); go_simp; (try with_reducible rfl))); (simp only [Act.put, List.setIfInBounds_toArray, List.set_cons_zero, List.set_cons_succ]))
      (refine wpTree_q 2 hTok hOps (by kernel_rfl) rfl rfl ⟨?_, ?_, ?_⟩; rotate_left; (focus (intro wx hSx; (try dsimp only at hSx); go_simp; (try with_reducible rfl))); (simp only [Act.put, List.setIfInBounds_toArray, List.set_cons_zero, List.set_cons_succ]))
      (refine wpTree_q 3 hTok hOps (by kernel_rfl) rfl rfl ⟨?_, ?_, ?_⟩; rotate_left; (focus (intro wx hSx; (try dsimp only at hSx); go_simp; (try with_reducible rfl))); (simp only [Act.put, List.setIfInBounds_toArray, List.set_cons_zero, List.set_cons_succ]))
      (refine wpTree_q 4 hTok hOps (by kernel_rfl) rfl rfl ⟨?_, ?_, ?_⟩; rotate_left; (focus (intro wx hSx; (try dsimp only at hSx); go_simp; (try with_reducible rfl))); (simp only [Act.put, List.setIfInBounds_toArray, List.set_cons_zero, List.set_cons_succ]))
      (refine wpTree_q 5 hTok hOps (by kernel_rfl) rfl rfl ⟨?_, ?_, ?_⟩; rotate_left; (focus (intro wx hSx; (try dsimp only at hSx); go_simp; (try with_reducible rfl))); (simp only [Act.put, List.setIfInBounds_toArray, List.set_cons_zero, List.set_cons_succ]))
      (refine wpTree_q 6 hTok hOps (by kernel_rfl) rfl rfl ⟨?_, ?_, ?_⟩; rotate_left; (focus (intro wx hSx; (try dsimp only at hSx); go_simp; (try with_reducible rfl))); (simp only [Act.put, List.setIfInBounds_toArray, List.set_cons_zero, List.set_cons_succ]))
      (refine wpTree_q 7 hTok hOps (by kernel_rfl) rfl rfl ⟨?_, ?_, ?_⟩; rotate_left; (focus (intro wx hSx; (try dsimp only at hSx); go_simp; (try with_reducible rfl))); (simp only [Act.put, List.setIfInBounds_toArray, List.set_cons_zero, List.set_cons_succ]))
      (refine wpTree_q 8 hTok hOps (by kernel_rfl) rfl rfl ⟨?_, ?_, ?_⟩; rotate_left; (focus (intro wx hSx; (try dsimp only at hSx); go_simp; (try with_reducible rfl))); (simp only [Act.put, List.setIfInBounds_toArray, List.set_cons_zero, List.set_cons_succ]))
      refine wpTree_world ?_
      intro w6 hw6
      have hb6 : Below w5.heap.size w5 w6 := by rw [hw6]; exact hd5
      have hs6 := (hB5.below hb6 hB5.lt)
      have hM6 := hM5.below hb6 hM5.lt
      have hK6 := hK5.below hb6
      have hown6 := hown.below hb6 (Nat.le_refl _)
      have hbw6 := hbw5.trans (hb6.mono hbw5.size)
      clear hw6 hd5 hB5 hM5 hK5 hown hlook c0 c1 hb5 hHeld
      refine wpTree_1 9 hOps (by kernel_rfl) (by decide) rfl (fun K' hK => ?_)
      go_simp
      have hM7 := hM6.below (belowAlloc w6 (.cells #[.int .u32 (u : Nat)] 45)) hM6.lt
      have hlook := hM7.look keyN Try.underlying87 (zeroSV _) (x := k) hk false
      simp only [Bool.false_eq_true, if_false, ← hv.out] at hlook
      refine hK.out _ _ ⟨(hs6.alloc _).cellAt rfl, (hs6.alloc _).cellAt rfl, hlook⟩ ?_
      clear hK K'
      try simp only [Act.put, List.setIfInBounds_toArray, List.set_cons_zero, List.set_cons_succ]
      refine wpTree_1 10 hOps (by kernel_rfl) (by decide) rfl (fun K' hK => ?_)
      change if _ = true then Oper.wp _ _ _ (w6.alloc (.cells (encV u).toArray 45)) _ _ else _
      have hvl2 := Lib.hid hvl
      refine step_app1g rfl _ _ 62 rfl Try.underlying62 hiV hV0 hV1 hV2 rfl (by decide) (enc := encV) u rfl hown6 rfl (encV_len _) (encV_one _) (by have := hvl2.out; omega) (by have := hvl2.out; unfold maxLen; omega) hbw6.size ?_
      intro g cap7 w7 hown7 hgr7
      have hb67 : Below w.heap.size w6 w7 := hgr7.below hbw6.size (fun g e => (hown6.lt g e).1)
      have hMne : v.ownBlock ≠ some mb := fun e => by
        rcases hown6.form with ⟨e1, _⟩ | ⟨g', c', cells, e1, hb, _⟩
        · rw [e1] at e; cases e
        · rw [e1] at e
          obtain rfl : g' = mb := by simpa [Value.ownBlock] using e
          exact hM6.ne_blk hb rfl
      have hM8 := hM6.chg (Chg.of_grown hgr7.grown) hMne
      have hlook := hM8.look keyN Try.underlying87 (zeroSV _) (x := k) hk false
      simp only [Bool.false_eq_true, if_false, ← hv.out] at hlook
      have hs7 := hgr7.blk hs6 (hown6.ne_blk hs6 (by decide))
      refine hK.out _ _ ⟨hs7.cellAt rfl, hs7.cellAt rfl, hlook⟩ ?_
      clear hK K'
      try simp only [Act.put, List.setIfInBounds_toArray, List.set_cons_zero, List.set_cons_succ]
      have hK8 := hK6.step hM6.nodup hown7 (by rw [← hv.out]; exact hgr7)
      rw [← hti.out] at hK8
      have hbw7 := hbw6.trans hb67
      clear hlook hM7 hown7 hgr7 hs7 hs6 hb67 hMne hM6 hK6 hown6 hvl hti
      refine wpTree_nil hOps (by kernel_rfl) ?_
      refine hT.out _ _ ?_
      simp only [List.drop_succ_cons, List.drop_zero]
      clear hTok hOps hT
      refine wpList_updateL rfl _ _ _ _ rfl keyN hM8 Try.underlying87 hel2 (x := k) hk rfl rfl ?_
      intro w8 hM9 hc8
      have hK9 := hK8.chg hc8 (fun g cs hb e => by
        subst e
        exact hM8.ne_blk hb rfl)
      have hb8 := hbw7.trans (hc8.below hbw7.size (fun k hk e => by omega))
      clear hM8 hK8 hbw7 hc8
      go_wp2_with fail
      go_roundw
      case rel => exact ⟨i + 1, _, by omega, by go_num, hM9, hK9, hb8⟩
      case measure => simp [intOf]; omega
    · have d1 : decide ((i : Int) < (n : Int)) = false := by simp; omega
      have hti : l.take i = l := List.take_of_length_le (by have := hn.out; omega)
      rw [hti] at hK
      clear hti
      go_wp2_with fail
      go_ret
      exact ⟨mb, es, rfl, hM, hK, hbr, hmb2⟩
end Go.Proofs.Ytbianedgogdeeaa
