/- Gossip: does a list stand? -/
import Derived.Test.YtjmbafcpbagpdaaJ0
namespace Go.Proofs.Ytjmbafcpbagpdaa
open Go.RowKit Go.Shelf Go.Maps
set_option linter.unusedVariables false
set_option linter.unusedSimpArgs false
attribute [local go_sem] mk_map

noncomputable def hitE (ops : List TOp) (y : TStamp) (e : TStamp × Value) : Bool := decide (intOf e.2 < 0) && cld ops e.1 y
theorem hitE_any (ops : List TOp) (y : TStamp) (nx : List (TStamp × Int)) : (entC nx).any (hitE ops y) = nx.any fun q => decide (q.2 < 0) && cld ops q.1 y := by
  unfold entC
  rw [List.any_map]
  rfl
theorem any_del {es : List (TStamp × Value)} {x : TStamp} {v : Value} (hn : (es.map Prod.fst).Nodup) (h : (x, v) ∈ es) (f : TStamp × Value → Bool) : es.any f = (f (x, v) || (delE es x).any f) := by
  have := (RangeL.del_perm hn h).any_eq (f := f)
  rw [this, List.any_cons]
/-- What stands reads while it goes. -/
structure StS (w wr : World) (gb tb n cap : Nat) (ao : Option Addr) (base : Nat) (x : TrX) (ops : List TOp) (cs : List (TStamp × Int)) : Prop where
  bel : Below w.heap.size w wr
  c0 : w.cell? ⟨gb, 0, none⟩ = some (.slice ao n cap)
  c1 : w.cell? ⟨gb, 1, none⟩ = some (.pointer (some ⟨tb, 0, none⟩))
  sl : SlA w.heap.size 7 (ROp w.heap.size) w ao cap ops
  tr : Tr w base tb x ops cs
namespace StS
variable {w wr w' : World} {gb tb n cap : Nat} {ao : Option Addr} {base : Nat} {x : TrX} {ops : List TOp} {cs : List (TStamp × Int)}
theorem below (h : StS w wr gb tb n cap ao base x ops cs) (hb : Below w.heap.size wr w') : StS w w' gb tb n cap ao base x ops cs := ⟨h.bel.trans hb, h.c0, h.c1, h.sl, h.tr⟩
theorem chg (h : StS w wr gb tb n cap ao base x ops cs) {S : Nat → Prop} (hc : Chg S wr w') (hS : ∀ k, S k → w.heap.size ≤ k) : StS w w' gb tb n cap ao base x ops cs := h.below (hc.below h.bel.size (fun k hk e => by have := hS k e; omega))
theorem cell0 (h : StS w wr gb tb n cap ao base x ops cs) : wr.cell? ⟨gb, 0, none⟩ = some (.slice ao n cap) := (h.bel.cell (p := ⟨gb, 0, none⟩) (World.lt_of_cell h.c0)).trans h.c0
theorem cell1 (h : StS w wr gb tb n cap ao base x ops cs) : wr.cell? ⟨gb, 1, none⟩ = some (.pointer (some ⟨tb, 0, none⟩)) := (h.bel.cell (p := ⟨gb, 1, none⟩) (World.lt_of_cell h.c1)).trans h.c1
theorem tr' (h : StS w wr gb tb n cap ao base x ops cs) : Tr wr base tb x ops cs := h.tr.below h.bel
end StS

set_option maxRecDepth 100000 in
set_option maxHeartbeats 4000000 in
theorem stands_any (l : List TCount) (la : Option Addr) (lc : Nat) {base tb gb cap : Nat} {ao : Option Addr} {x : TrX} {ops : List TOp} {cs : List (TStamp × Int)} (w : World) (hS : StS w w gb tb ops.length cap ao base x ops cs) (hl : SlA w.heap.size 4 (RCount w.heap.size) w la lc l) (hz : l.length * 32 ≤ 140737488355328) :
    Calls Try.prog 29 #[.pointer (some ⟨gb, 0, none⟩), .slice la l.length lc] w fun e w' => e = .returned (.bool (standsF ops (cntC cs) l)) ∧ Below w.heap.size w w' := by
  have hcnt := fun s hs W (hb : Below w.heap.size w W) => count_any s hs W (hS.tr.below hb)
  have hcld := fun la ea ra lb eb rb W (hb : Below w.heap.size w W) => could_any ops cap ao la ea ra lb eb rb w.heap.size W hb.size (imp_ops hS.sl hb)
  obtain ⟨n, hn⟩ : ∃ n, n = ops.length := ⟨_, rfl⟩
  rw [← hn] at hS hcld
  have hlen := hl.len
  obtain ⟨m, hm⟩ : ∃ m, m = l.length := ⟨_, rfl⟩
  rw [← hm] at hlen hz ⊢
  replace hn := Lib.hid hn
  replace hm := Lib.hid hm
  replace hcnt := Lib.hid hcnt
  replace hcld := Lib.hid hcld
  go_enter Try.func29, Try.ntmps29
  go_upto_region 2 with fail
  have hN : MapL Try.prog 47 klS wfS (w.alloc (.map #[] 0)) w.heap.size (entC (nxL (l.take 0))) := MapL.made w
  have hS0 : StS w (w.alloc (.map #[] 0)) gb tb n cap ao base x ops cs := hS.below ((Below.refl _ _).alloc (Nat.le_refl _) _)
  obtain ⟨nb, hnbe⟩ : ∃ nb, nb = w.heap.size := ⟨_, rfl⟩
  have hnb : w.heap.size ≤ nb := by omega
  rw [← hnbe] at hN ⊢
  generalize w.alloc (.map #[] 0) = w2 at hN hS0 ⊢
  clear hnbe hS
  have hkey : ∀ c ∈ l, wfS c.fS := fun c hc => by
    obtain ⟨j, hj, rfl⟩ := List.getElem_of_mem hc
    obtain ⟨b2, off2, rfl, _, _⟩ := hl.addr (by omega)
    obtain ⟨_, _, _, _, h1, h2, h3, _⟩ := RCount.at hl hj rfl
    exact ⟨h1, h2, h3⟩
  replace hkey := Lib.hid hkey
  go_wp2_with fail
  go_loopw [16] (fun x16 wr => ∃ i : Nat, i ≤ m ∧ x16 = .int .i64 i ∧ StS w wr gb tb n cap ao base x ops cs ∧ MapL Try.prog 47 klS wfS wr nb (entC (nxL (l.take i)))) (fun x16 _ => m - (intOf x16).toNat)
  case atStart => exact ⟨0, Nat.zero_le _, rfl, hS0, hN⟩
  case round =>
    clear hN hS0
    obtain ⟨i, him, rfl, hI, hN⟩ := hrel
    by_cases hi : i < m
    · have hbr := hI.bel
      have hix : i < l.length := by rw [← hm.out]; exact hi
      obtain ⟨b2, off2, rfl, hb2l, _⟩ := hl.addr (by omega)
      obtain ⟨c, hc⟩ : ∃ c, l[i] = c := ⟨_, rfl⟩
      obtain ⟨e0, e1, e2, e3, _⟩ := RCount.at (hl.imp hbr (Nat.le_refl _) (fun _ _ _ h => h.imp hbr (Nat.le_refl _))) hix hc
      have hcw := hkey.out c (by rw [← hc]; exact List.getElem_mem hix)
      have hsn : nxL (l.take (i + 1)) = nxC (nxL (l.take i)) c := by rw [take_snoc hix, nxL_snoc, hc]
      have hnl := nxL_len l i (by omega)
      generalize nxL (l.take i) = na at hN hsn hnl
      obtain ⟨⟨cl, ⟨ce, cr⟩⟩, cN⟩ := c
      dsimp only at e0 e1 e2 e3 hcw
      have hb2w : b2 < wr.heap.size := Nat.lt_of_lt_of_le hb2l hbr.size
      have hwr3 := hbr.size
      replace hsn := Lib.hid hsn
      clear hc
      go_upto_region 5 with fail
      refine Code.wp_world ?_
      intro w5 hw5
      have h5 : Chg (fun _ => False) wr w5 := by rw [hw5]; exact (Chg.refl _ _).alloc _
      have hA5 : Blk w5 wr.heap.size #[.int .i64 cl, .int .i64 ce, .int .i64 cr, .int .i64 cN] 57 := by rw [hw5]; exact Blk.new _ _ _
      have hI5 := hI.chg h5 (fun _ h => h.elim)
      have hN5 := hN.chg h5 (fun h => h)
      obtain ⟨z, hz0⟩ : ∃ z, z = wr.heap.size := ⟨_, rfl⟩
      rw [← hz0] at hA5 ⊢
      have s0 := hA5.cellAt (i := 0) (v := .int .i64 cl) rfl
      have s1 := hA5.cellAt (i := 1) (v := .int .i64 ce) rfl
      have s2 := hA5.cellAt (i := 2) (v := .int .i64 cr) rfl
      have s3 := hA5.cellAt (i := 3) (v := .int .i64 cN) rfl
      clear hw5 h5 e0 e1 e2 e3 hb2w hbr hwr3 hz0 hN hI
      have hNd : MapL Try.prog 47 klS wfS w5.drew nb (entC na) := hN5.chg ((Chg.refl (fun _ => False) w5).drew) (fun h => h)
      have hId := hI5.chg ((Chg.refl (fun _ => False) w5).drew) (fun _ h => h.elim)
      have hlk := hNd.look keyS Try.underlying86 (zeroInt _) hcw false
      simp only [Bool.false_eq_true, if_false, cnt_ent] at hlk
      obtain ⟨st, w6, he1, he2, hN6, he3⟩ := hNd.entryV keyS Try.underlying86 (fun u => zeroInt u) (by unfold maxLen; unfold entC; rw [List.length_map]; omega) hcw
      have hlk6 := hN6.look keyS Try.underlying86 (zeroInt _) hcw false
      rw [cnt_ent] at he1 hN6 hlk6
      simp only [Bool.false_eq_true, if_false, getE_setE, Option.getD_some] at hlk6
      obtain ⟨old, hold⟩ : ∃ o, o = cntC na ⟨cl, ⟨ce, cr⟩⟩ := ⟨_, rfl⟩
      rw [← hold] at hlk he1 hlk6
      obtain ⟨w7, he4, hN7, hc7⟩ := he3 (.int .i64 (wrap64 (old + cN)))
      have hN8 : MapL Try.prog 47 klS wfS w7 nb (entC (nxL (l.take (i + 1)))) := by
        rw [hsn.out]
        unfold nxC
        rw [entC_set]
        dsimp only
        rw [← hold]
        exact hN7
      have hI8 := hId.chg hc7 (fun k e => by omega)
      have hznb : ¬ z = nb := fun e => hNd.ne_blk hA5.drew e.symm
      have t0 := (he2.cell (World.lt_of_cell s0) hznb).trans s0
      have t1 := (he2.cell (World.lt_of_cell s1) hznb).trans s1
      have t2 := (he2.cell (World.lt_of_cell s2) hznb).trans s2
      have t3 := (he2.cell (World.lt_of_cell s3) hznb).trans s3
      generalize goInt st = g at he1 he4
      unfold mkS at hlk he1 hlk6
      dsimp only at hlk he1 hlk6
      clear hsn hold he2 he3 hN7 hc7 hN6 hznb hId hI5
      refine wp_region_tree (fun wx => wx.cell? ⟨z, 0, none⟩ = some (.int .i64 cl) ∧ wx.cell? ⟨z, 1, none⟩ = some (.int .i64 ce) ∧ wx.cell? ⟨z, 2, none⟩ = some (.int .i64 cr) ∧ wx.cell? ⟨z, 3, none⟩ = some (.int .i64 cN)) 9 10 (by kernel_rfl) rfl (by kernel_rfl) (fun d _ _ _ _ h => by cases d <;> exact h) (⟨s0, s1, s2, s3⟩) (fun opz T hOps hT hTok hHeld => ?_)
      (refine wpTree_q 0 hTok hOps (by kernel_rfl) rfl rfl ⟨?_, ?_, ?_⟩; rotate_left; (focus (intro wx hSx; (try dsimp only at hSx); go_simp; (try with_reducible rfl))); (simp only [Act.put, List.setIfInBounds_toArray, List.set_cons_zero, List.set_cons_succ]))
      (refine wpTree_q 1 hTok hOps (by kernel_rfl) rfl rfl ⟨?_, ?_, ?_⟩; rotate_left; (focus (intro wx hSx; (try dsimp only at hSx); go_simp; (try with_reducible rfl))); (simp only [Act.put, List.setIfInBounds_toArray, List.set_cons_zero, List.set_cons_succ]))
      (refine wpTree_q 2 hTok hOps (by kernel_rfl) rfl rfl ⟨?_, ?_, ?_⟩; rotate_left; (focus (intro wx hSx; (try dsimp only at hSx); go_simp; (try with_reducible rfl))); (simp only [Act.put, List.setIfInBounds_toArray, List.set_cons_zero, List.set_cons_succ]))
      (refine wpTree_q 4 hTok hOps (by kernel_rfl) rfl rfl ⟨?_, ?_, ?_⟩; rotate_left; (focus (intro wx hSx; (try dsimp only at hSx); go_simp; (try with_reducible rfl))); (simp only [Act.put, List.setIfInBounds_toArray, List.set_cons_zero, List.set_cons_succ]))
      (refine wpTree_q 5 hTok hOps (by kernel_rfl) rfl rfl ⟨?_, ?_, ?_⟩; rotate_left; (focus (intro wx hSx; (try dsimp only at hSx); go_simp; (try with_reducible rfl))); (simp only [Act.put, List.setIfInBounds_toArray, List.set_cons_zero, List.set_cons_succ]))
      refine wpTree_2 3 7 hOps (by kernel_rfl) (by decide) (by decide) rfl rfl (fun K' hK => ?_) (fun K' hK => ?_)
      · go_simp
        refine hK.out _ _ ⟨s0, s1, s2, s3⟩ ?_
        clear hK K'
        try simp only [Act.put, List.setIfInBounds_toArray, List.set_cons_zero, List.set_cons_succ]
        (refine wpTree_q 6 hTok hOps (by kernel_rfl) rfl rfl ⟨?_, ?_, ?_⟩; rotate_left; (focus (intro wx hSx; (try dsimp only at hSx); go_simp; (try with_reducible rfl))); (simp only [Act.put, List.setIfInBounds_toArray, List.set_cons_zero, List.set_cons_succ]))
        refine wpTree_1 7 hOps (by kernel_rfl) (by decide) rfl (fun K' hK => ?_)
        go_simp
        refine hK.out _ _ ⟨t0, t1, t2, t3⟩ ?_
        clear hK K'
        try simp only [Act.put, List.setIfInBounds_toArray, List.set_cons_zero, List.set_cons_succ]
        (refine wpTree_q 8 hTok hOps (by kernel_rfl) rfl rfl ⟨?_, ?_, ?_⟩; rotate_left; (focus (intro wx hSx; (try dsimp only at hSx); go_simp; (try with_reducible rfl))); (simp only [Act.put, List.setIfInBounds_toArray, List.set_cons_zero, List.set_cons_succ]))
        refine wpTree_nil hOps (by kernel_rfl) ?_
        refine hT.out _ _ ?_
        simp only [List.drop_succ_cons, List.drop_zero]
        clear hHeld hTok hOps hT hlk hlk6 he1
        go_wp2_with fail
        go_roundw
        case rel => exact ⟨i + 1, by omega, by go_num, hI8, hN8⟩
        case measure => simp [intOf]; omega
      · go_simp
        refine hK.out _ _ ⟨t0, t1, t2, t3⟩ ?_
        clear hK K'
        try simp only [Act.put, List.setIfInBounds_toArray, List.set_cons_zero, List.set_cons_succ]
        (refine wpTree_q 8 hTok hOps (by kernel_rfl) rfl rfl ⟨?_, ?_, ?_⟩; rotate_left; (focus (intro wx hSx; (try dsimp only at hSx); go_simp; (try with_reducible rfl))); (simp only [Act.put, List.setIfInBounds_toArray, List.set_cons_zero, List.set_cons_succ]))
        refine wpTree_1 3 hOps (by kernel_rfl) (by decide) rfl (fun K' hK => ?_)
        go_simp
        refine hK.out _ _ ⟨t0, t1, t2, t3⟩ ?_
        clear hK K'
        try simp only [Act.put, List.setIfInBounds_toArray, List.set_cons_zero, List.set_cons_succ]
        (refine wpTree_q 6 hTok hOps (by kernel_rfl) rfl rfl ⟨?_, ?_, ?_⟩; rotate_left; (focus (intro wx hSx; (try dsimp only at hSx); go_simp; (try with_reducible rfl))); (simp only [Act.put, List.setIfInBounds_toArray, List.set_cons_zero, List.set_cons_succ]))
        refine wpTree_nil hOps (by kernel_rfl) ?_
        refine hT.out _ _ ?_
        simp only [List.drop_succ_cons, List.drop_zero]
        clear hHeld hTok hOps hT hlk hlk6 he1
        go_wp2_with fail
        go_roundw
        case rel => exact ⟨i + 1, by omega, by go_num, hI8, hN8⟩
        case measure => simp [intOf]; omega
    · obtain rfl : m = i := by omega
      rw [List.take_of_length_le (by rw [← hm.out]; exact Nat.le_refl _)] at hN
      have hbad : (∃ p ∈ nxL l, standB ops (cntC cs) (nxL l) p = false) → standsF ops (cntC cs) l = false := fun ⟨p, hp, h⟩ => by
        unfold standsF
        rw [List.all_eq_false]
        exact ⟨p, hp, by rw [h]; simp⟩
      have hgood : (∀ p ∈ nxL l, standB ops (cntC cs) (nxL l) p = true) → standsF ops (cntC cs) l = true := fun h => List.all_eq_true.2 h
      generalize nxL l = nx at hN hbad hgood
      replace hbad := Lib.hid hbad
      replace hgood := Lib.hid hgood
      clear hi him hl hkey
      go_wp2_with (at_range; refine wpList_rangeL rfl _ _ rfl keyS hN Try.underlying86 rfl ?next)
      case next =>
      intro w3 hr hb1 hs1
      obtain ⟨rb, hrb⟩ : ∃ rb, rb = wr.heap.size := ⟨_, rfl⟩
      have hI3 := hI.below (hb1.mono hI.bel.size)
      have hnrb : w.heap.size ≤ rb := by rw [hrb]; exact hI.bel.size
      have hnlt : nb < rb := by rw [hrb]; exact hN.lt
      rw [← hrb] at hr hs1 ⊢
      have hrl : rb < w3.heap.size := by omega
      clear hb1 hs1 hrb hN hI wr
      go_wp2_with fail
      go_loopw [10] (fun _ wr => ∃ rest, RangeL Try.prog 47 klS wfS wr nb rb (entC nx) rest ∧ StS w wr gb tb n cap ao base x ops cs ∧ rb < wr.heap.size ∧ Hid (∀ p ∈ nx, encC p ∈ rest ∨ standB ops (cntC cs) nx p = true)) (fun _ wr => wr.rangeLeft nb rb)
      case atStart => exact ⟨_, hr, hI3, hrl, Lib.hid (fun p hp => .inl (List.mem_map.2 ⟨p, hp, rfl⟩))⟩
      case round =>
        clear hr hI3 hrl
        obtain ⟨rest, hr, hI, hrl, hps⟩ := hrel
        go_wp2_with (at_next; refine wpList_nextL rfl _ rfl keyS hr rfl ?fin ?more)
        case fin =>
          rintro rfl
          have hE := hgood.out (fun p hp => (hps.out p hp).resolve_left (by simp))
          have hbE := hI.bel
          replace hE := Lib.hid hE
          clear hps hgood hbad
          go_wp2_with fail
          go_ret
          exact ⟨by rw [hE.out]; rfl, hbE⟩
        case more =>
          intro y v w4 hym hy hr4 hlt4 hch4 hsz4 hen
          obtain ⟨k, hkm, rfl⟩ := ent_mem (hr.sub _ hym)
          have hnext : standB ops (cntC cs) nx (y, k) = true → Hid (∀ p ∈ nx, encC p ∈ delE rest y ∨ standB ops (cntC cs) nx p = true) := fun hp => Lib.hid (fun q hq => by
            rcases hps.out q hq with h1 | h1
            · by_cases hqy : q.1 = y
              · have h2 : (q.1, Value.int .i64 q.2) ∈ entC nx := List.mem_map.2 ⟨q, hq, rfl⟩
                have h3 : (y, Value.int .i64 k) ∈ entC nx := hr.sub _ hym
                have h4 := getE_of_mem hr.nodup h2
                have h5 := getE_of_mem hr.nodup h3
                rw [hqy, h5] at h4
                simp only [Option.some.injEq, Value.int.injEq, true_and] at h4
                right
                rw [show q = (y, k) from Prod.ext hqy h4.symm]
                exact hp
              · left
                exact List.mem_filter.2 ⟨h1, by rw [Bool.not_eq_true', decide_eq_false_iff_not]; exact hqy⟩
            · exact .inr h1)
          have hbd : standB ops (cntC cs) nx (y, k) = false → standsF ops (cntC cs) l = false := fun h => hbad.out ⟨_, hkm, h⟩
          have hI4 := hI.chg hch4 (fun j e => by omega)
          have hrl4 : rb < w4.heap.size := by omega
          have hctn := hcnt.out y hy
          clear hr hym hkm hps hch4 hI hrl hsz4
          obtain ⟨old, hold⟩ : ∃ o, o = cntC cs y := ⟨_, rfl⟩
          have hsB : standB ops (cntC cs) nx (y, k) = (!(decide (k < 0) && decide (old < wrap64 (-k))) && (decide (k ≤ 0) || (entC nx).any (hitE ops y))) := by
            rw [hold, hitE_any]
            rfl
          rw [← hold] at hctn
          rw [hsB] at hnext hbd
          replace hnext := Lib.hid hnext
          replace hbd := Lib.hid hbd
          replace hctn := Lib.hid hctn
          clear hold hsB hbad
          obtain ⟨ax, hax⟩ : ∃ ax, ax = (entC nx).any (hitE ops y) := ⟨_, rfl⟩
          rw [← hax] at hnext hbd
          replace hax := Lib.hid hax
          obtain ⟨yl, ⟨ye, yr⟩⟩ := y
          have hctn2 := hctn.out
          unfold mkS at hen hctn2 ⊢
          dsimp only at hen hctn2 ⊢
          replace hctn2 := Lib.hid hctn2
          clear hctn
          go_upto_region 10 with fail
          refine Code.wp_world ?_
          intro w5 hw5
          have h5 : Chg (fun _ => False) w4 w5 := by rw [hw5]; exact (Chg.refl _ _).alloc _
          have hA5 : Blk w5 w4.heap.size #[.int .i64 yl, .int .i64 ye, .int .i64 yr] 47 := by rw [hw5]; exact Blk.new _ _ _
          have hI5 := hI4.chg h5 (fun _ h => h.elim)
          have hr5 := hr4.chg h5 (fun h => h) (fun h => h)
          have hrl5 : rb < w5.heap.size := Nat.lt_of_lt_of_le hrl4 h5.size
          have hlt5 : w5.rangeLeft nb rb < wr.rangeLeft nb rb := by rw [hr5.2]; exact hlt4
          have hr5 := hr5.1
          obtain ⟨z, hz0⟩ : ∃ z, z = w4.heap.size := ⟨_, rfl⟩
          have hzw : w.heap.size ≤ z := by rw [hz0]; exact hI4.bel.size
          have hrz : rb < z := by rw [hz0]; exact hrl4
          rw [← hz0] at hA5 ⊢
          clear hw5 h5 hen hz0 hI4 hr4 hlt4 hrl4
          -- the check of the number below 0
          have s0 := hA5.cellAt (i := 0) (v := .int .i64 yl) rfl
          have s1 := hA5.cellAt (i := 1) (v := .int .i64 ye) rfl
          have s2 := hA5.cellAt (i := 2) (v := .int .i64 yr) rfl
          have c1 := hI5.cell1
          by_cases hk0 : k < 0
          · have d1 : decide (k < 0) = true := by simpa using hk0
            have dle : decide (k ≤ 0) = true := by simp; omega
            rw [d1, dle, Bool.true_and, Bool.true_or, Bool.and_true] at hnext hbd
            have hd1 := Lib.hid d1
            replace hnext := Lib.hid hnext
            replace hbd := Lib.hid hbd
            refine wp_region_tree (fun wx => wx.cell? ⟨gb, 1, none⟩ = some (.pointer (some ⟨tb, 0, none⟩)) ∧ wx.cell? ⟨z, 0, none⟩ = some (.int .i64 yl) ∧ wx.cell? ⟨z, 1, none⟩ = some (.int .i64 ye) ∧ wx.cell? ⟨z, 2, none⟩ = some (.int .i64 yr)) 11 13 (by kernel_rfl) rfl (by kernel_rfl) (fun d _ _ _ _ h => by cases d <;> exact h) (⟨c1, s0, s1, s2⟩) (fun opz T hOps hT hTok hHeld => ?_)
            (refine wpTree_q 0 hTok hOps (by kernel_rfl) rfl rfl ⟨?_, ?_, ?_⟩; rotate_left; (focus (intro wx hSx; (try dsimp only at hSx); go_simp; (try with_reducible rfl))); (simp only [Act.put, List.setIfInBounds_toArray, List.set_cons_zero, List.set_cons_succ]))
            (refine wpTree_q 1 hTok hOps (by kernel_rfl) rfl rfl ⟨?_, ?_, ?_⟩; rotate_left; (focus (intro wx hSx; (try dsimp only at hSx); go_simp; (try with_reducible rfl))); (simp only [Act.put, List.setIfInBounds_toArray, List.set_cons_zero, List.set_cons_succ]))
            (refine wpTree_q 2 hTok hOps (by kernel_rfl) rfl rfl ⟨?_, ?_, ?_⟩; rotate_left; (focus (intro wx hSx; (try dsimp only at hSx); go_simp; (try with_reducible rfl))); (simp only [Act.put, List.setIfInBounds_toArray, List.set_cons_zero, List.set_cons_succ]))
            (refine wpTree_qg 3 hTok hOps (by kernel_rfl) rfl rfl ⟨?_, ?_, ?_⟩; rotate_left; (focus (intro wx hSx; (try dsimp only at hSx); go_simp; (try with_reducible rfl))); (simp only [Act.put, List.setIfInBounds_toArray, List.set_cons_zero, List.set_cons_succ]))
            (refine wpTree_qg 4 hTok hOps (by kernel_rfl) rfl rfl ⟨?_, ?_, ?_⟩; rotate_left; (focus (intro wx hSx; (try dsimp only at hSx); go_simp; (try with_reducible rfl))); (simp only [Act.put, List.setIfInBounds_toArray, List.set_cons_zero, List.set_cons_succ]))
            (refine wpTree_qg 5 hTok hOps (by kernel_rfl) rfl rfl ⟨?_, ?_, ?_⟩; rotate_left; (focus (intro wx hSx; (try dsimp only at hSx); go_simp; (try with_reducible rfl))); (simp only [Act.put, List.setIfInBounds_toArray, List.set_cons_zero, List.set_cons_succ]))
            (refine wpTree_qg 6 hTok hOps (by kernel_rfl) rfl rfl ⟨?_, ?_, ?_⟩; rotate_left; (focus (intro wx hSx; (try dsimp only at hSx); go_simp; (try with_reducible rfl))); (simp only [Act.put, List.setIfInBounds_toArray, List.set_cons_zero, List.set_cons_succ]))
            (refine wpTree_qg 7 hTok hOps (by kernel_rfl) rfl rfl ⟨?_, ?_, ?_⟩; rotate_left; (focus (intro wx hSx; (try dsimp only at hSx); go_simp; (try with_reducible rfl))); (simp only [Act.put, List.setIfInBounds_toArray, List.set_cons_zero, List.set_cons_succ]))
            (refine wpTree_qg 9 hTok hOps (by kernel_rfl) rfl rfl ⟨?_, ?_, ?_⟩; rotate_left; (focus (intro wx hSx; (try dsimp only at hSx); go_simp; (try with_reducible rfl))); (simp only [Act.put, List.setIfInBounds_toArray, List.set_cons_zero, List.set_cons_succ]))
            (refine wpTree_qg 10 hTok hOps (by kernel_rfl) rfl rfl ⟨?_, ?_, ?_⟩; rotate_left; (focus (intro wx hSx; (try dsimp only at hSx); go_simp; (try with_reducible rfl))); (simp only [Act.put, List.setIfInBounds_toArray, List.set_cons_zero, List.set_cons_succ]))
            refine wpTree_1g 8 hOps (by kernel_rfl) (by decide) rfl rfl (fun K' hK => ?_)
            have hId := hI5.chg ((Chg.refl (fun _ => False) w5).drew) (fun _ h => h.elim)
            have hrd := hr5.chg ((Chg.refl (fun _ => False) w5).drew) (fun h => h) (fun h => h)
            have hAd := hA5.drew
            go_simp
            refine (hctn2.out _ hId.bel).mono ?_
            rintro e w6 ⟨rfl, hb6⟩
            have hc6 := Chg.of_below hb6
            have hsz5 : w5.heap.size = w5.drew.heap.size := rfl
            have hI6 := hId.chg hc6 (fun j e => Nat.le_trans hId.bel.size e)
            have hr6 := hrd.1.chg hc6 (by have := hrd.1.lt; omega) (by have := hrd.1.lt; omega)
            have hA6 := hAd.chg hc6 (by have := hAd.lt; omega)
            have hrl6 : rb < w6.heap.size := by have := hb6.size; omega
            have hlt6 : w6.rangeLeft nb rb < wr.rangeLeft nb rb := by rw [hr6.2, hrd.2]; exact hlt5
            have hr6 := hr6.1
            try dsimp only
            refine hK.out _ _ ⟨hI6.cell1, hA6.cellAt rfl, hA6.cellAt rfl, hA6.cellAt rfl⟩ ?_
            clear hK K'
            try simp only [Act.put, List.setIfInBounds_toArray, List.set_cons_zero, List.set_cons_succ]
            refine wpTree_nil hOps (by kernel_rfl) ?_
            refine hT.out _ _ ?_
            simp only [List.drop_succ_cons, List.drop_zero]
            clear hOps hT hTok
            try clear hHeld
            clear hId hrd hAd hb6 hc6 hsz5 hI5 hr5 hA5 hlt5 hrl5 s0 s1 s2 c1
            by_cases hlo : old < wrap64 (-k)
            · have d2 : decide (old < wrap64 (-k)) = true := by simpa using hlo
              have hE := hbd.out (by rw [d2]; rfl)
              have hbE := hI6.bel
              replace hE := Lib.hid hE
              clear hnext hbd hlo hgood
              go_wp2_with fail
              go_ret
              exact ⟨by rw [hE.out]; rfl, hbE⟩
            · have d2 : decide (old < wrap64 (-k)) = false := by simpa using hlo
              have hnx := hnext.out (by rw [d2]; rfl)
              have hax2 : (decide (k ≤ 0) || ax) = true := by rw [dle]; rfl
              replace hnx := Lib.hid hnx
              replace hax2 := Lib.hid hax2
              clear hnext hbd hlo
              go_upto_region 12 with fail
              have hNm := hr6.owns
              obtain ⟨wi, rfl⟩ : ∃ wi, wi = wr := ⟨_, rfl⟩
              go_wp2_with (at_range; refine wpList_rangeL rfl _ _ rfl keyS hNm Try.underlying86 rfl ?_)
              intro w7 hq hb7 hs7
              obtain ⟨rb2, hrb2⟩ : ∃ rb2, rb2 = w6.heap.size := ⟨_, rfl⟩
              rw [← hrb2] at hq hs7 ⊢
              have hc7 := Chg.of_below hb7
              have hrw6 := hI6.bel.size
              have hI7 := hI6.chg hc7 (fun j e => Nat.le_trans hrw6 e)
              have hr7 := hr6.chg hc7 (by have := hr6.lt; omega) (by have := hr6.lt; omega)
              have hA7 := hA6.chg hc7 (by have := hA6.lt; omega)
              have hlt7 : w7.rangeLeft nb rb < wi.rangeLeft nb rb := by rw [hr7.2]; exact hlt6
              have hr7 := hr7.1
              have hrb2l : rb2 < w7.heap.size := by omega
              have hzb2 : z < rb2 := by rw [hrb2]; exact hA6.lt
              clear hNm hb7 hs7 hc7 hrw6 hI6 hr6 hA6 hlt6 hrl6 hrb2
              go_wp2_with fail
              go_loopw [10] (fun x10 wr => x10 = .bool true ∧ ∃ rest2, RangeL Try.prog 47 klS wfS wr nb rb2 (entC nx) rest2 ∧ RangeL Try.prog 47 klS wfS wr nb rb (entC nx) (delE rest ⟨yl, ⟨ye, yr⟩⟩) ∧ StS w wr gb tb n cap ao base x ops cs ∧ rb2 < wr.heap.size ∧ wr.rangeLeft nb rb < wi.rangeLeft nb rb) (fun _ wr => wr.rangeLeft nb rb2)
              case atStart => exact ⟨rfl, _, hq, hr7, hI7, hrb2l, hlt7⟩
              case round =>
                clear hq hr7 hI7 hrb2l hlt7 hA7
                obtain ⟨rfl, rest2, hq, hr, hI, hrl2, hltr⟩ := hrel
                go_wp2_with (at_next; refine wpList_nextL rfl _ rfl keyS hq rfl ?_ ?_)
                · rintro rfl
                  clear hq
                  go_wp2_with fail
                  go_roundw
                  case rel => exact ⟨_, hr, hI, by omega, hnx.out⟩
                  case measure => exact hltr
                · intro o v2 w8 hom ho hq8 hlt8 hch8 hsz8 hen8
                  obtain ⟨k2, hkm2, rfl⟩ := ent_mem (hq.sub _ hom)
                  have hI8 := hI.chg hch8 (fun j e => by have := hr.lt; omega)
                  have hr8 := hr.chg hch8 (by omega) (by omega)
                  have hlt8r : w8.rangeLeft nb rb < wi.rangeLeft nb rb := by rw [hr8.2]; exact hltr
                  have hr8 := hr8.1
                  have hrl8 : rb2 < w8.heap.size := by omega
                  clear hq hom hkm2 hch8 hsz8 hI hr hltr hrl2
                  obtain ⟨ol, ⟨oe, orr⟩⟩ := o
                  unfold mkS at hen8 ⊢
                  dsimp only at hen8 ⊢
                  go_upto_region 16 with fail
                  refine Code.wp_world ?_
                  intro w9 hw9
                  have h9 : Chg (fun _ => False) w8 w9 := by rw [hw9]; exact (Chg.refl _ _).alloc _
                  have hI9 := hI8.chg h9 (fun _ h => h.elim)
                  have hr9 := hr8.chg h9 (fun h => h) (fun h => h)
                  have hq9 := hq8.chg h9 (fun h => h) (fun h => h)
                  have hrl9 : rb2 < w9.heap.size := Nat.lt_of_lt_of_le hrl8 h9.size
                  clear hw9 hen8 h9
                  have c0 := hI9.cell0
                  refine wp_region_tree (fun wx => wx.cell? ⟨gb, 0, none⟩ = some (.slice ao n cap)) 11 15 (by kernel_rfl) rfl (by kernel_rfl) (fun d _ _ _ _ h => by cases d <;> exact h) (c0) (fun opz T hOps hT hTok hHeld => ?_)
                  (refine wpTree_q 0 hTok hOps (by kernel_rfl) rfl rfl ⟨?_, ?_, ?_⟩; rotate_left; (focus (intro wx hSx; (try dsimp only at hSx); go_simp; (try with_reducible rfl))); (simp only [Act.put, List.setIfInBounds_toArray, List.set_cons_zero, List.set_cons_succ]))
                  (refine wpTree_q 1 hTok hOps (by kernel_rfl) rfl rfl ⟨?_, ?_, ?_⟩; rotate_left; (focus (intro wx hSx; (try dsimp only at hSx); go_simp; (try with_reducible rfl))); (simp only [Act.put, List.setIfInBounds_toArray, List.set_cons_zero, List.set_cons_succ]))
                  (refine wpTree_qn 2 hTok hOps (by kernel_rfl) rfl rfl ?_; (try simp only [Act.put, List.setIfInBounds_toArray, List.set_cons_zero, List.set_cons_succ]))
                  (refine wpTree_qn 3 hTok hOps (by kernel_rfl) rfl rfl ?_; (try simp only [Act.put, List.setIfInBounds_toArray, List.set_cons_zero, List.set_cons_succ]))
                  (refine wpTree_qn 4 hTok hOps (by kernel_rfl) rfl rfl ?_; (try simp only [Act.put, List.setIfInBounds_toArray, List.set_cons_zero, List.set_cons_succ]))
                  (refine wpTree_qn 5 hTok hOps (by kernel_rfl) rfl rfl ?_; (try simp only [Act.put, List.setIfInBounds_toArray, List.set_cons_zero, List.set_cons_succ]))
                  (refine wpTree_qn 6 hTok hOps (by kernel_rfl) rfl rfl ?_; (try simp only [Act.put, List.setIfInBounds_toArray, List.set_cons_zero, List.set_cons_succ]))
                  (refine wpTree_qn 7 hTok hOps (by kernel_rfl) rfl rfl ?_; (try simp only [Act.put, List.setIfInBounds_toArray, List.set_cons_zero, List.set_cons_succ]))
                  (refine wpTree_qn 8 hTok hOps (by kernel_rfl) rfl rfl ?_; (try simp only [Act.put, List.setIfInBounds_toArray, List.set_cons_zero, List.set_cons_succ]))
                  (refine wpTree_qn 9 hTok hOps (by kernel_rfl) rfl rfl ?_; (try simp only [Act.put, List.setIfInBounds_toArray, List.set_cons_zero, List.set_cons_succ]))
                  (refine wpTree_qn 10 hTok hOps (by kernel_rfl) rfl rfl ?_; (try simp only [Act.put, List.setIfInBounds_toArray, List.set_cons_zero, List.set_cons_succ]))
                  refine wpTree_nil hOps (by kernel_rfl) ?_
                  refine hT.out _ _ ?_
                  simp only [List.drop_succ_cons, List.drop_zero]
                  clear hOps hT hTok
                  try clear hHeld
                  have hI10 := hI9.chg ((Chg.refl (fun _ => False) w9).drew) (fun _ h => h.elim)
                  have hr10 := hr9.1.chg ((Chg.refl (fun _ => False) w9).drew) (fun h => h) (fun h => h)
                  have hq10 := hq9.1.chg ((Chg.refl (fun _ => False) w9).drew) (fun h => h) (fun h => h)
                  have hrl10 : rb2 < w9.drew.heap.size := hrl9
                  have hm10 : w9.drew.rangeLeft nb rb2 < wr.rangeLeft nb rb2 := by rw [hq10.2, hq9.2]; exact hlt8
                  have hltA : w9.drew.rangeLeft nb rb < wi.rangeLeft nb rb := by rw [hr10.2, hr9.2]; exact hlt8r
                  clear c0
                  go_wp2_with fail
                  go_roundw
                  case rel => exact ⟨rfl, _, hq10.1, hr10.1, hI10, hrl10, hltA⟩
                  case measure => exact hm10
          · have d1 : decide (k < 0) = false := by simpa using hk0
            rw [d1, Bool.false_and, Bool.not_false, Bool.true_and] at hnext hbd
            replace hnext := Lib.hid hnext
            replace hbd := Lib.hid hbd
            refine wp_region_tree (fun wx => wx.cell? ⟨gb, 1, none⟩ = some (.pointer (some ⟨tb, 0, none⟩))) 11 13 (by kernel_rfl) rfl (by kernel_rfl) (fun d _ _ _ _ h => by cases d <;> exact h) (c1) (fun opz T hOps hT hTok hHeld => ?_)
            (refine wpTree_q 0 hTok hOps (by kernel_rfl) rfl rfl ⟨?_, ?_, ?_⟩; rotate_left; (focus (intro wx hSx; (try dsimp only at hSx); go_simp; (try with_reducible rfl))); (simp only [Act.put, List.setIfInBounds_toArray, List.set_cons_zero, List.set_cons_succ]))
            (refine wpTree_q 1 hTok hOps (by kernel_rfl) rfl rfl ⟨?_, ?_, ?_⟩; rotate_left; (focus (intro wx hSx; (try dsimp only at hSx); go_simp; (try with_reducible rfl))); (simp only [Act.put, List.setIfInBounds_toArray, List.set_cons_zero, List.set_cons_succ]))
            (refine wpTree_q 2 hTok hOps (by kernel_rfl) rfl rfl ⟨?_, ?_, ?_⟩; rotate_left; (focus (intro wx hSx; (try dsimp only at hSx); go_simp; (try with_reducible rfl))); (simp only [Act.put, List.setIfInBounds_toArray, List.set_cons_zero, List.set_cons_succ]))
            (refine wpTree_qn 3 hTok hOps (by kernel_rfl) rfl rfl ?_; (try simp only [Act.put, List.setIfInBounds_toArray, List.set_cons_zero, List.set_cons_succ]))
            (refine wpTree_qn 4 hTok hOps (by kernel_rfl) rfl rfl ?_; (try simp only [Act.put, List.setIfInBounds_toArray, List.set_cons_zero, List.set_cons_succ]))
            (refine wpTree_qn 5 hTok hOps (by kernel_rfl) rfl rfl ?_; (try simp only [Act.put, List.setIfInBounds_toArray, List.set_cons_zero, List.set_cons_succ]))
            (refine wpTree_qn 6 hTok hOps (by kernel_rfl) rfl rfl ?_; (try simp only [Act.put, List.setIfInBounds_toArray, List.set_cons_zero, List.set_cons_succ]))
            (refine wpTree_qn 7 hTok hOps (by kernel_rfl) rfl rfl ?_; (try simp only [Act.put, List.setIfInBounds_toArray, List.set_cons_zero, List.set_cons_succ]))
            (refine wpTree_qn 8 hTok hOps (by kernel_rfl) rfl rfl ?_; (try simp only [Act.put, List.setIfInBounds_toArray, List.set_cons_zero, List.set_cons_succ]))
            (refine wpTree_qn 9 hTok hOps (by kernel_rfl) rfl rfl ?_; (try simp only [Act.put, List.setIfInBounds_toArray, List.set_cons_zero, List.set_cons_succ]))
            (refine wpTree_qn 10 hTok hOps (by kernel_rfl) rfl rfl ?_; (try simp only [Act.put, List.setIfInBounds_toArray, List.set_cons_zero, List.set_cons_succ]))
            refine wpTree_nil hOps (by kernel_rfl) ?_
            refine hT.out _ _ ?_
            simp only [List.drop_succ_cons, List.drop_zero]
            clear hOps hT hTok
            try clear hHeld
            have hI6 := hI5.chg ((Chg.refl (fun _ => False) w5).drew) (fun _ h => h.elim)
            have hr6 := hr5.chg ((Chg.refl (fun _ => False) w5).drew) (fun h => h) (fun h => h)
            have hA6 := hA5.drew
            have hrl6 : rb < w5.drew.heap.size := hrl5
            have hlt6 : w5.drew.rangeLeft nb rb < wr.rangeLeft nb rb := by rw [hr6.2]; exact hlt5
            have hr6 := hr6.1
            generalize w5.drew = w6 at hI6 hr6 hA6 hrl6 hlt6 ⊢
            clear hI5 hr5 hA5 hlt5 hrl5 s0 s1 s2 c1
            go_upto_region 12 with fail
            by_cases hk1 : k = 0
            · have dle : decide (k ≤ 0) = true := by simp; omega
              rw [dle, Bool.true_or] at hnext hbd
              have hax2 : (decide (k ≤ 0) || ax) = true := by rw [dle]; rfl
              have hnx := hnext.out rfl
              replace hnx := Lib.hid hnx
              replace hax2 := Lib.hid hax2
              clear hnext hbd hk0
              replace hk1 := Lib.hid hk1
              have hNm := hr6.owns
              obtain ⟨wi, rfl⟩ : ∃ wi, wi = wr := ⟨_, rfl⟩
              go_wp2_with (at_range; refine wpList_rangeL rfl _ _ rfl keyS hNm Try.underlying86 rfl ?_)
              intro w7 hq hb7 hs7
              obtain ⟨rb2, hrb2⟩ : ∃ rb2, rb2 = w6.heap.size := ⟨_, rfl⟩
              rw [← hrb2] at hq hs7 ⊢
              have hc7 := Chg.of_below hb7
              have hrw6 := hI6.bel.size
              have hI7 := hI6.chg hc7 (fun j e => Nat.le_trans hrw6 e)
              have hr7 := hr6.chg hc7 (by have := hr6.lt; omega) (by have := hr6.lt; omega)
              have hA7 := hA6.chg hc7 (by have := hA6.lt; omega)
              have hlt7 : w7.rangeLeft nb rb < wi.rangeLeft nb rb := by rw [hr7.2]; exact hlt6
              have hr7 := hr7.1
              have hrb2l : rb2 < w7.heap.size := by omega
              have hzb2 : z < rb2 := by rw [hrb2]; exact hA6.lt
              clear hNm hb7 hs7 hc7 hrw6 hI6 hr6 hA6 hlt6 hrl6 hrb2
              go_wp2_with fail
              go_loopw [10] (fun x10 wr => x10 = .bool true ∧ ∃ rest2, RangeL Try.prog 47 klS wfS wr nb rb2 (entC nx) rest2 ∧ RangeL Try.prog 47 klS wfS wr nb rb (entC nx) (delE rest ⟨yl, ⟨ye, yr⟩⟩) ∧ StS w wr gb tb n cap ao base x ops cs ∧ rb2 < wr.heap.size ∧ wr.rangeLeft nb rb < wi.rangeLeft nb rb) (fun _ wr => wr.rangeLeft nb rb2)
              case atStart => exact ⟨rfl, _, hq, hr7, hI7, hrb2l, hlt7⟩
              case round =>
                clear hq hr7 hI7 hrb2l hlt7 hA7
                obtain ⟨rfl, rest2, hq, hr, hI, hrl2, hltr⟩ := hrel
                go_wp2_with (at_next; refine wpList_nextL rfl _ rfl keyS hq rfl ?_ ?_)
                · rintro rfl
                  clear hq
                  go_wp2_with fail
                  go_roundw
                  case rel => exact ⟨_, hr, hI, by omega, hnx.out⟩
                  case measure => exact hltr
                · intro o v2 w8 hom ho hq8 hlt8 hch8 hsz8 hen8
                  obtain ⟨k2, hkm2, rfl⟩ := ent_mem (hq.sub _ hom)
                  have hI8 := hI.chg hch8 (fun j e => by have := hr.lt; omega)
                  have hr8 := hr.chg hch8 (by omega) (by omega)
                  have hlt8r : w8.rangeLeft nb rb < wi.rangeLeft nb rb := by rw [hr8.2]; exact hltr
                  have hr8 := hr8.1
                  have hrl8 : rb2 < w8.heap.size := by omega
                  clear hq hom hkm2 hch8 hsz8 hI hr hltr hrl2
                  obtain ⟨ol, ⟨oe, orr⟩⟩ := o
                  unfold mkS at hen8 ⊢
                  dsimp only at hen8 ⊢
                  go_upto_region 16 with fail
                  refine Code.wp_world ?_
                  intro w9 hw9
                  have h9 : Chg (fun _ => False) w8 w9 := by rw [hw9]; exact (Chg.refl _ _).alloc _
                  have hI9 := hI8.chg h9 (fun _ h => h.elim)
                  have hr9 := hr8.chg h9 (fun h => h) (fun h => h)
                  have hq9 := hq8.chg h9 (fun h => h) (fun h => h)
                  have hrl9 : rb2 < w9.heap.size := Nat.lt_of_lt_of_le hrl8 h9.size
                  clear hw9 hen8 h9
                  have c0 := hI9.cell0
                  refine wp_region_tree (fun wx => wx.cell? ⟨gb, 0, none⟩ = some (.slice ao n cap)) 11 15 (by kernel_rfl) rfl (by kernel_rfl) (fun d _ _ _ _ h => by cases d <;> exact h) (c0) (fun opz T hOps hT hTok hHeld => ?_)
                  (refine wpTree_q 0 hTok hOps (by kernel_rfl) rfl rfl ⟨?_, ?_, ?_⟩; rotate_left; (focus (intro wx hSx; (try dsimp only at hSx); go_simp; (try with_reducible rfl))); (simp only [Act.put, List.setIfInBounds_toArray, List.set_cons_zero, List.set_cons_succ]))
                  (refine wpTree_q 1 hTok hOps (by kernel_rfl) rfl rfl ⟨?_, ?_, ?_⟩; rotate_left; (focus (intro wx hSx; (try dsimp only at hSx); go_simp; (try with_reducible rfl))); (simp only [Act.put, List.setIfInBounds_toArray, List.set_cons_zero, List.set_cons_succ]))
                  (refine wpTree_qn 2 hTok hOps (by kernel_rfl) rfl rfl ?_; (try simp only [Act.put, List.setIfInBounds_toArray, List.set_cons_zero, List.set_cons_succ]))
                  (refine wpTree_qn 3 hTok hOps (by kernel_rfl) rfl rfl ?_; (try simp only [Act.put, List.setIfInBounds_toArray, List.set_cons_zero, List.set_cons_succ]))
                  (refine wpTree_qn 4 hTok hOps (by kernel_rfl) rfl rfl ?_; (try simp only [Act.put, List.setIfInBounds_toArray, List.set_cons_zero, List.set_cons_succ]))
                  (refine wpTree_qn 5 hTok hOps (by kernel_rfl) rfl rfl ?_; (try simp only [Act.put, List.setIfInBounds_toArray, List.set_cons_zero, List.set_cons_succ]))
                  (refine wpTree_qn 6 hTok hOps (by kernel_rfl) rfl rfl ?_; (try simp only [Act.put, List.setIfInBounds_toArray, List.set_cons_zero, List.set_cons_succ]))
                  (refine wpTree_qn 7 hTok hOps (by kernel_rfl) rfl rfl ?_; (try simp only [Act.put, List.setIfInBounds_toArray, List.set_cons_zero, List.set_cons_succ]))
                  (refine wpTree_qn 8 hTok hOps (by kernel_rfl) rfl rfl ?_; (try simp only [Act.put, List.setIfInBounds_toArray, List.set_cons_zero, List.set_cons_succ]))
                  (refine wpTree_qn 9 hTok hOps (by kernel_rfl) rfl rfl ?_; (try simp only [Act.put, List.setIfInBounds_toArray, List.set_cons_zero, List.set_cons_succ]))
                  (refine wpTree_qn 10 hTok hOps (by kernel_rfl) rfl rfl ?_; (try simp only [Act.put, List.setIfInBounds_toArray, List.set_cons_zero, List.set_cons_succ]))
                  refine wpTree_nil hOps (by kernel_rfl) ?_
                  refine hT.out _ _ ?_
                  simp only [List.drop_succ_cons, List.drop_zero]
                  clear hOps hT hTok
                  try clear hHeld
                  have hI10 := hI9.chg ((Chg.refl (fun _ => False) w9).drew) (fun _ h => h.elim)
                  have hr10 := hr9.1.chg ((Chg.refl (fun _ => False) w9).drew) (fun h => h) (fun h => h)
                  have hq10 := hq9.1.chg ((Chg.refl (fun _ => False) w9).drew) (fun h => h) (fun h => h)
                  have hrl10 : rb2 < w9.drew.heap.size := hrl9
                  have hm10 : w9.drew.rangeLeft nb rb2 < wr.rangeLeft nb rb2 := by rw [hq10.2, hq9.2]; exact hlt8
                  have hltA : w9.drew.rangeLeft nb rb < wi.rangeLeft nb rb := by rw [hr10.2, hr9.2]; exact hlt8r
                  clear c0
                  go_wp2_with fail
                  go_roundw
                  case rel => exact ⟨rfl, _, hq10.1, hr10.1, hI10, hrl10, hltA⟩
                  case measure => exact hm10
            · have dle : decide (k ≤ 0) = false := by simp; omega
              rw [dle, Bool.false_or] at hnext hbd
              clear hk0 hk1
              replace hnext := Lib.hid hnext
              replace hbd := Lib.hid hbd
              have hNm := hr6.owns
              obtain ⟨wi, rfl⟩ : ∃ wi, wi = wr := ⟨_, rfl⟩
              go_wp2_with (at_range; refine wpList_rangeL rfl _ _ rfl keyS hNm Try.underlying86 rfl ?_)
              intro w7 hq hb7 hs7
              obtain ⟨rb2, hrb2⟩ : ∃ rb2, rb2 = w6.heap.size := ⟨_, rfl⟩
              rw [← hrb2] at hq hs7 ⊢
              have hc7 := Chg.of_below hb7
              have hrw6 := hI6.bel.size
              have hI7 := hI6.chg hc7 (fun j e => Nat.le_trans hrw6 e)
              have hr7 := hr6.chg hc7 (by have := hr6.lt; omega) (by have := hr6.lt; omega)
              have hA7 := hA6.chg hc7 (by have := hA6.lt; omega)
              have hlt7 : w7.rangeLeft nb rb < wi.rangeLeft nb rb := by rw [hr7.2]; exact hlt6
              have hr7 := hr7.1
              have hrb2l : rb2 < w7.heap.size := by omega
              have hzb2 : z < rb2 := by rw [hrb2]; exact hA6.lt
              have hax3 := Lib.hid hax.out.symm
              clear hNm hb7 hs7 hc7 hrw6 hI6 hr6 hA6 hlt6 hrl6 hrb2
              go_wp2_with fail
              go_loopw [10] (fun x10 wr => ∃ rest2 ok, x10 = .bool ok ∧ RangeL Try.prog 47 klS wfS wr nb rb2 (entC nx) rest2 ∧ RangeL Try.prog 47 klS wfS wr nb rb (entC nx) (delE rest ⟨yl, ⟨ye, yr⟩⟩) ∧ StS w wr gb tb n cap ao base x ops cs ∧ rb2 < wr.heap.size ∧ wr.rangeLeft nb rb < wi.rangeLeft nb rb ∧ Blk wr z #[.int .i64 yl, .int .i64 ye, .int .i64 yr] 47 ∧ Hid (ax = (ok || rest2.any (hitE ops ⟨yl, ⟨ye, yr⟩⟩)))) (fun _ wr => wr.rangeLeft nb rb2)
              case atStart => exact ⟨_, false, rfl, hq, hr7, hI7, hrb2l, hlt7, hA7, Lib.hid (by rw [hax.out]; rfl)⟩
              case round =>
                clear hq hr7 hI7 hrb2l hlt7 hA7
                obtain ⟨rest2, ok, rfl, hq, hr, hI, hrl2, hltr, hA, hok⟩ := hrel
                go_wp2_with (at_next; refine wpList_nextL rfl _ rfl keyS hq rfl ?_ ?_)
                · rintro rfl
                  have hok2 : ax = ok := by rw [hok.out]; simp
                  clear hq hok
                  cases ok with
                  | true =>
                    have hnx := Lib.hid (hnext.out hok2)
                    clear hnext hbd hok2
                    go_wp2_with fail
                    go_roundw
                    case rel => exact ⟨_, hr, hI, by omega, hnx.out⟩
                    case measure => exact hltr
                  | false =>
                    have hE := Lib.hid (hbd.out hok2)
                    have hbE := hI.bel
                    clear hnext hbd hok2 hgood
                    go_wp2_with fail
                    go_ret
                    exact ⟨by rw [hE.out]; rfl, hbE⟩
                · intro o v2 w8 hom ho hq8 hlt8 hch8 hsz8 hen8
                  have hdl := any_del hq.rnodup hom (hitE ops ⟨yl, ⟨ye, yr⟩⟩)
                  obtain ⟨k2, hkm2, rfl⟩ := ent_mem (hq.sub _ hom)
                  have hI8 := hI.chg hch8 (fun j e => by have := hr.lt; omega)
                  have hr8 := hr.chg hch8 (by omega) (by omega)
                  have hA8 := hA.chg hch8 (by omega)
                  have hlt8r : w8.rangeLeft nb rb < wi.rangeLeft nb rb := by rw [hr8.2]; exact hltr
                  have hr8 := hr8.1
                  have hrl8 : rb2 < w8.heap.size := by omega
                  have hok8 : ax = ((ok || hitE ops ⟨yl, ⟨ye, yr⟩⟩ (o, .int .i64 k2)) || (delE rest2 o).any (hitE ops ⟨yl, ⟨ye, yr⟩⟩)) := by rw [hok.out, hdl, Bool.or_assoc]
                  have hhit : hitE ops ⟨yl, ⟨ye, yr⟩⟩ (o, .int .i64 k2) = (decide (k2 < 0) && couldS ops o.fLoc o.fT.fEpoch o.fT.fRound yl ye yr) := rfl
                  rw [hhit] at hok8
                  replace hok8 := Lib.hid hok8
                  clear hq hom hkm2 hch8 hsz8 hI hr hltr hrl2 hA hok hdl hhit
                  obtain ⟨ol, ⟨oe, orr⟩⟩ := o
                  have hcl := hcld.out ol oe orr yl ye yr
                  unfold mkS at hen8 ⊢
                  dsimp only at hen8 hok8 ⊢
                  obtain ⟨bc, hbc⟩ : ∃ bc, bc = couldS ops ol oe orr yl ye yr := ⟨_, rfl⟩
                  rw [← hbc] at hok8 hcl
                  replace hcl := Lib.hid hcl
                  replace hok8 := Lib.hid hok8.out
                  clear hbc
                  go_upto_region 16 with fail
                  refine Code.wp_world ?_
                  intro w9 hw9
                  have h9 : Chg (fun _ => False) w8 w9 := by rw [hw9]; exact (Chg.refl _ _).alloc _
                  have hB9 : Blk w9 w8.heap.size #[.int .i64 ol, .int .i64 oe, .int .i64 orr] 47 := by rw [hw9]; exact Blk.new _ _ _
                  have hI9 := hI8.chg h9 (fun _ h => h.elim)
                  have hr9 := hr8.chg h9 (fun h => h) (fun h => h)
                  have hq9 := hq8.chg h9 (fun h => h) (fun h => h)
                  have hA9 := hA8.chg h9 (fun h => h)
                  have hrl9 : rb2 < w9.heap.size := Nat.lt_of_lt_of_le hrl8 h9.size
                  obtain ⟨z2, hz2⟩ : ∃ z2, z2 = w8.heap.size := ⟨_, rfl⟩
                  rw [← hz2] at hB9 ⊢
                  clear hw9 hen8 h9 hz2
                  have c0 := hI9.cell0
                  have s0 := hA9.cellAt (i := 0) (v := .int .i64 yl) rfl
                  have s1 := hA9.cellAt (i := 1) (v := .int .i64 ye) rfl
                  have s2 := hA9.cellAt (i := 2) (v := .int .i64 yr) rfl
                  have t0 := hB9.cellAt (i := 0) (v := .int .i64 ol) rfl
                  have t1 := hB9.cellAt (i := 1) (v := .int .i64 oe) rfl
                  have t2 := hB9.cellAt (i := 2) (v := .int .i64 orr) rfl
                  have hI10 := hI9.chg ((Chg.refl (fun _ => False) w9).drew) (fun _ h => h.elim)
                  have hr10 := hr9.1.chg ((Chg.refl (fun _ => False) w9).drew) (fun h => h) (fun h => h)
                  have hq10 := hq9.1.chg ((Chg.refl (fun _ => False) w9).drew) (fun h => h) (fun h => h)
                  have hA10 := hA9.drew
                  have hrl10 : rb2 < w9.drew.heap.size := hrl9
                  have hm10 : w9.drew.rangeLeft nb rb2 < wr.rangeLeft nb rb2 := by rw [hq10.2, hq9.2]; exact hlt8
                  have hltA : w9.drew.rangeLeft nb rb < wi.rangeLeft nb rb := by rw [hr10.2, hr9.2]; exact hlt8r
                  cases ok with
                  | true =>
                    refine wp_region_tree (fun wx => wx.cell? ⟨gb, 0, none⟩ = some (.slice ao n cap)) 11 15 (by kernel_rfl) rfl (by kernel_rfl) (fun d _ _ _ _ h => by cases d <;> exact h) (c0) (fun opz T hOps hT hTok hHeld => ?_)
                    (refine wpTree_q 0 hTok hOps (by kernel_rfl) rfl rfl ⟨?_, ?_, ?_⟩; rotate_left; (focus (intro wx hSx; (try dsimp only at hSx); go_simp; (try with_reducible rfl))); (simp only [Act.put, List.setIfInBounds_toArray, List.set_cons_zero, List.set_cons_succ]))
                    (refine wpTree_q 1 hTok hOps (by kernel_rfl) rfl rfl ⟨?_, ?_, ?_⟩; rotate_left; (focus (intro wx hSx; (try dsimp only at hSx); go_simp; (try with_reducible rfl))); (simp only [Act.put, List.setIfInBounds_toArray, List.set_cons_zero, List.set_cons_succ]))
                    (refine wpTree_qn 2 hTok hOps (by kernel_rfl) rfl rfl ?_; (try simp only [Act.put, List.setIfInBounds_toArray, List.set_cons_zero, List.set_cons_succ]))
                    (refine wpTree_qn 3 hTok hOps (by kernel_rfl) rfl rfl ?_; (try simp only [Act.put, List.setIfInBounds_toArray, List.set_cons_zero, List.set_cons_succ]))
                    (refine wpTree_qn 4 hTok hOps (by kernel_rfl) rfl rfl ?_; (try simp only [Act.put, List.setIfInBounds_toArray, List.set_cons_zero, List.set_cons_succ]))
                    (refine wpTree_qn 5 hTok hOps (by kernel_rfl) rfl rfl ?_; (try simp only [Act.put, List.setIfInBounds_toArray, List.set_cons_zero, List.set_cons_succ]))
                    (refine wpTree_qn 6 hTok hOps (by kernel_rfl) rfl rfl ?_; (try simp only [Act.put, List.setIfInBounds_toArray, List.set_cons_zero, List.set_cons_succ]))
                    (refine wpTree_qn 7 hTok hOps (by kernel_rfl) rfl rfl ?_; (try simp only [Act.put, List.setIfInBounds_toArray, List.set_cons_zero, List.set_cons_succ]))
                    (refine wpTree_qn 8 hTok hOps (by kernel_rfl) rfl rfl ?_; (try simp only [Act.put, List.setIfInBounds_toArray, List.set_cons_zero, List.set_cons_succ]))
                    (refine wpTree_qn 9 hTok hOps (by kernel_rfl) rfl rfl ?_; (try simp only [Act.put, List.setIfInBounds_toArray, List.set_cons_zero, List.set_cons_succ]))
                    (refine wpTree_qn 10 hTok hOps (by kernel_rfl) rfl rfl ?_; (try simp only [Act.put, List.setIfInBounds_toArray, List.set_cons_zero, List.set_cons_succ]))
                    refine wpTree_nil hOps (by kernel_rfl) ?_
                    refine hT.out _ _ ?_
                    simp only [List.drop_succ_cons, List.drop_zero]
                    clear hOps hT hTok
                    try clear hHeld
                    clear c0 s0 s1 s2 t0 t1 t2
                    go_wp2_with fail
                    go_roundw
                    case rel => exact ⟨_, true, rfl, hq10.1, hr10.1, hI10, hrl10, hltA, hA10, Lib.hid (by rw [hok8.out]; rfl)⟩
                    case measure => exact hm10
                  | false =>
                    by_cases hk2 : k2 < 0
                    · have dk : decide (k2 < 0) = true := by simpa using hk2
                      rw [dk] at hok8
                      clear hk2
                      refine wp_region_tree (fun wx => wx.cell? ⟨gb, 0, none⟩ = some (.slice ao n cap) ∧ wx.cell? ⟨z, 0, none⟩ = some (.int .i64 yl) ∧ wx.cell? ⟨z, 1, none⟩ = some (.int .i64 ye) ∧ wx.cell? ⟨z, 2, none⟩ = some (.int .i64 yr) ∧ wx.cell? ⟨z2, 0, none⟩ = some (.int .i64 ol) ∧ wx.cell? ⟨z2, 1, none⟩ = some (.int .i64 oe) ∧ wx.cell? ⟨z2, 2, none⟩ = some (.int .i64 orr)) 11 15 (by kernel_rfl) rfl (by kernel_rfl) (fun d _ _ _ _ h => by cases d <;> exact h) (⟨c0, s0, s1, s2, t0, t1, t2⟩) (fun opz T hOps hT hTok hHeld => ?_)
                      (refine wpTree_q 0 hTok hOps (by kernel_rfl) rfl rfl ⟨?_, ?_, ?_⟩; rotate_left; (focus (intro wx hSx; (try dsimp only at hSx); go_simp; (try with_reducible rfl))); (simp only [Act.put, List.setIfInBounds_toArray, List.set_cons_zero, List.set_cons_succ]))
                      (refine wpTree_q 1 hTok hOps (by kernel_rfl) rfl rfl ⟨?_, ?_, ?_⟩; rotate_left; (focus (intro wx hSx; (try dsimp only at hSx); go_simp; (try with_reducible rfl))); (simp only [Act.put, List.setIfInBounds_toArray, List.set_cons_zero, List.set_cons_succ]))
                      (refine wpTree_qg 2 hTok hOps (by kernel_rfl) rfl rfl ⟨?_, ?_, ?_⟩; rotate_left; (focus (intro wx hSx; (try dsimp only at hSx); go_simp; (try with_reducible rfl))); (simp only [Act.put, List.setIfInBounds_toArray, List.set_cons_zero, List.set_cons_succ]))
                      (refine wpTree_qg 3 hTok hOps (by kernel_rfl) rfl rfl ⟨?_, ?_, ?_⟩; rotate_left; (focus (intro wx hSx; (try dsimp only at hSx); go_simp; (try with_reducible rfl))); (simp only [Act.put, List.setIfInBounds_toArray, List.set_cons_zero, List.set_cons_succ]))
                      (refine wpTree_qg 4 hTok hOps (by kernel_rfl) rfl rfl ⟨?_, ?_, ?_⟩; rotate_left; (focus (intro wx hSx; (try dsimp only at hSx); go_simp; (try with_reducible rfl))); (simp only [Act.put, List.setIfInBounds_toArray, List.set_cons_zero, List.set_cons_succ]))
                      (refine wpTree_qg 5 hTok hOps (by kernel_rfl) rfl rfl ⟨?_, ?_, ?_⟩; rotate_left; (focus (intro wx hSx; (try dsimp only at hSx); go_simp; (try with_reducible rfl))); (simp only [Act.put, List.setIfInBounds_toArray, List.set_cons_zero, List.set_cons_succ]))
                      (refine wpTree_qg 6 hTok hOps (by kernel_rfl) rfl rfl ⟨?_, ?_, ?_⟩; rotate_left; (focus (intro wx hSx; (try dsimp only at hSx); go_simp; (try with_reducible rfl))); (simp only [Act.put, List.setIfInBounds_toArray, List.set_cons_zero, List.set_cons_succ]))
                      (refine wpTree_qg 7 hTok hOps (by kernel_rfl) rfl rfl ⟨?_, ?_, ?_⟩; rotate_left; (focus (intro wx hSx; (try dsimp only at hSx); go_simp; (try with_reducible rfl))); (simp only [Act.put, List.setIfInBounds_toArray, List.set_cons_zero, List.set_cons_succ]))
                      (refine wpTree_qg 8 hTok hOps (by kernel_rfl) rfl rfl ⟨?_, ?_, ?_⟩; rotate_left; (focus (intro wx hSx; (try dsimp only at hSx); go_simp; (try with_reducible rfl))); (simp only [Act.put, List.setIfInBounds_toArray, List.set_cons_zero, List.set_cons_succ]))
                      (refine wpTree_qg 9 hTok hOps (by kernel_rfl) rfl rfl ⟨?_, ?_, ?_⟩; rotate_left; (focus (intro wx hSx; (try dsimp only at hSx); go_simp; (try with_reducible rfl))); (simp only [Act.put, List.setIfInBounds_toArray, List.set_cons_zero, List.set_cons_succ]))
                      (refine wpTree_qg 10 hTok hOps (by kernel_rfl) rfl rfl ⟨?_, ?_, ?_⟩; rotate_left; (focus (intro wx hSx; (try dsimp only at hSx); go_simp; (try with_reducible rfl))); (simp only [Act.put, List.setIfInBounds_toArray, List.set_cons_zero, List.set_cons_succ]))
                      refine wpTree_nil hOps (by kernel_rfl) ?_
                      refine hT.out _ _ ?_
                      simp only [List.drop_succ_cons, List.drop_zero]
                      clear hOps hT hTok
                      try clear hHeld
                      clear c0 s0 s1 s2 t0 t1 t2
                      have hcl2 := Lib.hid (hcl.out _ hI10.bel)
                      clear hcl
                      go_wp2_with fail
                      refine hcl2.out.mono ?_
                      rintro e w11 ⟨rfl, hb11⟩
                      have hc11 := Chg.of_below hb11
                      have hI11 := hI10.chg hc11 (fun j e => Nat.le_trans hI10.bel.size e)
                      have hr11 := hr10.1.chg hc11 (by have := hr10.1.lt; omega) (by have := hr10.1.lt; omega)
                      have hq11 := hq10.1.chg hc11 (by have := hq10.1.lt; omega) (by have := hq10.1.lt; omega)
                      have hA11 := hA10.chg hc11 (by have := hA10.lt; omega)
                      have hrl11 : rb2 < w11.heap.size := by have := hb11.size; omega
                      have hm11 : w11.rangeLeft nb rb2 < wr.rangeLeft nb rb2 := by rw [hq11.2]; exact hm10
                      have hltB : w11.rangeLeft nb rb < wi.rangeLeft nb rb := by rw [hr11.2]; exact hltA
                      clear hcl2 hI10 hr10 hq10 hA10 hrl10 hm10 hltA hb11 hc11
                      dsimp only
                      go_wp2_with fail
                      go_roundw
                      case rel => exact ⟨_, bc, rfl, hq11.1, hr11.1, hI11, hrl11, hltB, hA11, Lib.hid (by rw [hok8.out]; simp)⟩
                      case measure => exact hm11
                    · have dk : decide (k2 < 0) = false := by simpa using hk2
                      rw [dk] at hok8
                      clear hk2
                      refine wp_region_tree (fun wx => wx.cell? ⟨gb, 0, none⟩ = some (.slice ao n cap)) 11 15 (by kernel_rfl) rfl (by kernel_rfl) (fun d _ _ _ _ h => by cases d <;> exact h) (c0) (fun opz T hOps hT hTok hHeld => ?_)
                      (refine wpTree_q 0 hTok hOps (by kernel_rfl) rfl rfl ⟨?_, ?_, ?_⟩; rotate_left; (focus (intro wx hSx; (try dsimp only at hSx); go_simp; (try with_reducible rfl))); (simp only [Act.put, List.setIfInBounds_toArray, List.set_cons_zero, List.set_cons_succ]))
                      (refine wpTree_q 1 hTok hOps (by kernel_rfl) rfl rfl ⟨?_, ?_, ?_⟩; rotate_left; (focus (intro wx hSx; (try dsimp only at hSx); go_simp; (try with_reducible rfl))); (simp only [Act.put, List.setIfInBounds_toArray, List.set_cons_zero, List.set_cons_succ]))
                      (refine wpTree_qg 2 hTok hOps (by kernel_rfl) rfl rfl ⟨?_, ?_, ?_⟩; rotate_left; (focus (intro wx hSx; (try dsimp only at hSx); go_simp; (try with_reducible rfl))); (simp only [Act.put, List.setIfInBounds_toArray, List.set_cons_zero, List.set_cons_succ]))
                      (refine wpTree_qg 3 hTok hOps (by kernel_rfl) rfl rfl ⟨?_, ?_, ?_⟩; rotate_left; (focus (intro wx hSx; (try dsimp only at hSx); go_simp; (try with_reducible rfl))); (simp only [Act.put, List.setIfInBounds_toArray, List.set_cons_zero, List.set_cons_succ]))
                      (refine wpTree_qg 4 hTok hOps (by kernel_rfl) rfl rfl ⟨?_, ?_, ?_⟩; rotate_left; (focus (intro wx hSx; (try dsimp only at hSx); go_simp; (try with_reducible rfl))); (simp only [Act.put, List.setIfInBounds_toArray, List.set_cons_zero, List.set_cons_succ]))
                      (refine wpTree_qn 5 hTok hOps (by kernel_rfl) rfl rfl ?_; (try simp only [Act.put, List.setIfInBounds_toArray, List.set_cons_zero, List.set_cons_succ]))
                      (refine wpTree_qn 6 hTok hOps (by kernel_rfl) rfl rfl ?_; (try simp only [Act.put, List.setIfInBounds_toArray, List.set_cons_zero, List.set_cons_succ]))
                      (refine wpTree_qn 7 hTok hOps (by kernel_rfl) rfl rfl ?_; (try simp only [Act.put, List.setIfInBounds_toArray, List.set_cons_zero, List.set_cons_succ]))
                      (refine wpTree_qn 8 hTok hOps (by kernel_rfl) rfl rfl ?_; (try simp only [Act.put, List.setIfInBounds_toArray, List.set_cons_zero, List.set_cons_succ]))
                      (refine wpTree_qn 9 hTok hOps (by kernel_rfl) rfl rfl ?_; (try simp only [Act.put, List.setIfInBounds_toArray, List.set_cons_zero, List.set_cons_succ]))
                      (refine wpTree_qn 10 hTok hOps (by kernel_rfl) rfl rfl ?_; (try simp only [Act.put, List.setIfInBounds_toArray, List.set_cons_zero, List.set_cons_succ]))
                      refine wpTree_nil hOps (by kernel_rfl) ?_
                      refine hT.out _ _ ?_
                      simp only [List.drop_succ_cons, List.drop_zero]
                      clear hOps hT hTok
                      try clear hHeld
                      clear c0 s0 s1 s2 t0 t1 t2
                      go_wp2_with fail
                      go_roundw
                      case rel => exact ⟨_, false, rfl, hq10.1, hr10.1, hI10, hrl10, hltA, hA10, Lib.hid (by rw [hok8.out]; simp)⟩
                      case measure => exact hm10
end Go.Proofs.Ytjmbafcpbagpdaa
